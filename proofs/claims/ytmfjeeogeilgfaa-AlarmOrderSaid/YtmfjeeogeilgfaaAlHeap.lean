/- The alarm's heap: what the heap package's functions do to the row of timers behind an Alarm. -/
import Derived.Test.YtmfjeeogeilgfaaAlLess
import Derived.BigQuiet
import Derived.BigRegion
import Derived.Deep.QuietTactic
import Derived.WalkSpells
import Derived.Lib.Hide
namespace Go.Proofs.Ytmfjeeogeilgfaa.Al
open Go.RowKit

/-! ### the row behind an Alarm -/
def tcells (t : T) (i : Nat) : Array Value := #[.int .i64 t.key, .int .i64 t.gap, .int .i64 t.due, .int .i64 i]
structure HeapAt (w : World) (A sb cap : Nat) (l m : Int) (mv : Value) (X : Row) : Prop where
  top : Blk w A 42 #[.int .i64 l, .int .i64 m, mv, .slice (some ⟨sb, 0, none⟩) X.length cap]
  row : ∃ cs : Array Value, Blk w sb 60 cs ∧ cs.size = cap ∧ ∀ (i : Nat) (x : Nat × T), X[i]? = some x → cs[i]? = some (Value.pointer (some ⟨x.1, 0, none⟩))
  len : X.length ≤ cap
  tim : ∀ (i : Nat) (x : Nat × T), X[i]? = some x → Blk w x.1 64 (tcells x.2 i)
  nod : (X.map (·.1)).Nodup
  capM : cap ≤ maxLen
/-- what the heap's functions write -/
def HF (sb : Nat) (X : Row) : Nat → Prop := fun b => b = sb ∨ b ∈ X.map (·.1)
theorem HF_perm {sb : Nat} {X Y : Row} (h : Y.Perm X) {b : Nat} (hb : HF sb Y b) : HF sb X b :=
  hb.imp id fun hm => (h.map (·.1)).mem_iff.1 hm
section
variable {w : World} {A sb cap : Nat} {l m : Int} {mv : Value} {X : Row}
theorem HeapAt.sl (h : HeapAt w A sb cap l m mv X) : w.cell? ⟨A, 3, none⟩ = some (.slice (some ⟨sb, 0, none⟩) X.length cap) := h.top.cell' rfl
theorem HeapAt.ptr (h : HeapAt w A sb cap l m mv X) {i : Nat} {x : Nat × T} (hi : X[i]? = some x) : w.cell? ⟨sb, i, none⟩ = some (.pointer (some ⟨x.1, 0, none⟩)) := by
  obtain ⟨cs, hb, _, hc⟩ := h.row
  exact hb.cell' (hc i x hi)
theorem HeapAt.fr (h : HeapAt w A sb cap l m mv X) (i : Nat) : w.frozen? ⟨sb, i, none⟩ = false := by
  obtain ⟨cs, hb, _, hc⟩ := h.row
  exact hb.frozen i
theorem HeapAt.drewN (h : HeapAt w A sb cap l m mv X) (q : Nat) : HeapAt (w.drewN q) A sb cap l m mv X := ⟨h.top, h.row, h.len, h.tim, h.nod, h.capM⟩
theorem HeapAt.ne_blocks (h : HeapAt w A sb cap l m mv X) {i k : Nat} {x y : Nat × T} (hi : X[i]? = some x) (hk : X[k]? = some y) (hne : i ≠ k) : x.1 ≠ y.1 := by
  intro e
  refine hne ((List.getElem?_inj (by simpa using lt_of_get hi) h.nod).1 ?_)
  simp [List.getElem?_map, hi, hk, e]
theorem HeapAt.sb_ne (h : HeapAt w A sb cap l m mv X) {i : Nat} {x : Nat × T} (hi : X[i]? = some x) : sb ≠ x.1 := by
  obtain ⟨cs, hb, _, hc⟩ := h.row
  exact hb.ne_ (h.tim i x hi) (by decide)
theorem HeapAt.A_ne (h : HeapAt w A sb cap l m mv X) {i : Nat} {x : Nat × T} (hi : X[i]? = some x) : A ≠ x.1 := h.top.ne_ (h.tim i x hi) (by decide)
theorem HeapAt.A_sb (h : HeapAt w A sb cap l m mv X) : A ≠ sb := by
  obtain ⟨cs, hb, _, hc⟩ := h.row
  exact h.top.ne_ hb (by decide)
/-- the row in the words of append's law -/
def ptrs (X : Row) : List Value := X.map fun x => Value.pointer (some ⟨x.1, 0, none⟩)
theorem HeapAt.owns (h : HeapAt w A sb cap l m mv X) : w.ownsRow 0 60 1 (.slice (some ⟨sb, 0, none⟩) X.length cap) X.length (ptrs X) := by
  obtain ⟨cs, hb, hsz, hc⟩ := h.row
  have hl := h.len
  refine ⟨by simp [ptrs], .inr ⟨sb, cap, cs, rfl, Nat.zero_le _, hb, hl, h.capM, by omega, ?_⟩⟩
  apply List.ext_getElem?
  intro i
  rw [List.getElem?_take]
  by_cases hi : i < X.length
  · have hx : X[i]? = some X[i] := List.getElem?_eq_getElem hi
    simp [hi, ptrs, hc i _ hx]
  · simp [hi, ptrs]
theorem row_of_owns {g c : Nat} (h : w.ownsRow 0 60 1 (.slice (some ⟨g, 0, none⟩) X.length c) X.length (ptrs X)) :
    (∃ cs : Array Value, Blk w g 60 cs ∧ cs.size = c ∧ ∀ (i : Nat) (x : Nat × T), X[i]? = some x → cs[i]? = some (Value.pointer (some ⟨x.1, 0, none⟩))) ∧ X.length ≤ c ∧ c ≤ maxLen := by
  rcases h.2 with ⟨h', _⟩ | ⟨g', cap', cur, h', _, hg, hl, hm, hs, htake⟩
  · simp at h'
  · simp only [Value.slice.injEq, Option.some.injEq, Addr.mk.injEq, and_true, true_and] at h'
    obtain ⟨rfl, rfl⟩ := h'
    refine ⟨⟨cur, hg, by omega, fun i x hx => ?_⟩, hl, hm⟩
    have h1 := congrArg (·[i]?) htake
    have hi := lt_of_get hx
    simp only [List.getElem?_take, ptrs, List.getElem?_map, hx, Nat.mul_one, hi, if_true, Array.getElem?_toList] at h1
    simpa using h1
/-- what is kept outside the row keeps it -/
theorem HeapAt.keep {S : Nat → Prop} {w' : World} (h : HeapAt w A sb cap l m mv X) (hk : Kept S w w') (hA : ¬ S A) (hs : ∀ b, HF sb X b → ¬ S b) : HeapAt w' A sb cap l m mv X := by
  refine ⟨hk.blk hA h.top, ?_, h.len, fun i x hi => hk.blk (hs _ (.inr (List.mem_map.2 ⟨x, List.mem_of_getElem? hi, rfl⟩))) (h.tim i x hi), h.nod, h.capM⟩
  obtain ⟨cs, hb, h2, h3⟩ := h.row
  exact ⟨cs, hk.blk (hs _ (.inl rfl)) hb, h2, h3⟩

theorem less_heap (h : HeapAt w A sb cap l m mv X) {i k : Nat} {x y : Nat × T} (hi : X[i]? = some x) (hk : X[k]? = some y) :
    Calls Try.prog 56 #[.slice (some ⟨sb, 0, none⟩) X.length cap, .int .i64 i, .int .i64 k] w fun e w' => e = .returned (.bool (x.2.lt y.2)) ∧ ∃ q, w' = w.drewN q := by
  have li : (i : Int) < X.length := by have := lt_of_get hi; omega
  have lk : (k : Int) < X.length := by have := lt_of_get hk; omega
  by_cases h1 : x.2.due < y.2.due
  · have e : x.2.lt y.2 = true := T.lt_true.2 (.inl h1)
    rw [e]
    exact less_yes _ _ _ _ _ _ _ _ _ _ li lk (h.ptr hi) (h.ptr hk) ((h.tim i x hi).cell' rfl) ((h.tim k y hk).cell' rfl) h1
  · by_cases h2 : x.2.due = y.2.due
    · have e : x.2.lt y.2 = decide (x.2.key < y.2.key) := by simp [T.lt, h2]
      rw [e]
      exact less_key _ _ _ _ _ _ _ _ _ _ _ _ li lk (h.ptr hi) (h.ptr hk) ((h.tim i x hi).cell' rfl) ((h.tim k y hk).cell' rfl) ((h.tim i x hi).cell' rfl) ((h.tim k y hk).cell' rfl) (by simpa using h1) (by simpa using h2)
    · have e : x.2.lt y.2 = false := by simp [T.lt, h2]; omega
      rw [e]
      exact less_no _ _ _ _ _ _ _ _ _ _ li lk (h.ptr hi) (h.ptr hk) ((h.tim i x hi).cell' rfl) ((h.tim k y hk).cell' rfl) (by simpa using h1) (by simpa using h2)

theorem swap_heap (h : HeapAt w A sb cap l m mv X) {i k : Nat} {x y : Nat × T} (hi : X[i]? = some x) (hk : X[k]? = some y) (hne : i ≠ k) :
    Calls Try.prog 57 #[.slice (some ⟨sb, 0, none⟩) X.length cap, .int .i64 i, .int .i64 k] w fun e w' => e = .returned (.tuple #[]) ∧ HeapAt w' A sb cap l m mv (swl X i k) ∧ Kept (HF sb X) w w' := by
  have li : (i : Int) < X.length := by have := lt_of_get hi; omega
  have lk : (k : Int) < X.length := by have := lt_of_get hk; omega
  have nb := h.ne_blocks hi hk hne
  have ns := h.sb_ne hi
  have nk := h.sb_ne hk
  have nAs := h.A_sb
  have nAi := h.A_ne hi
  have nAk := h.A_ne hk
  refine (swap_any sb X.length cap i k x.1 y.1 _ _ w li lk (by omega) nb ns nk (h.ptr hi) (h.ptr hk) (h.fr i) (h.fr k) ((h.tim i x hi).cell' rfl) ((h.tim k y hk).cell' rfl) ((h.tim i x hi).frozen 3) ((h.tim k y hk).frozen 3)).mono ?_
  rintro e w' ⟨rfl, q, rfl⟩
  have mi : HF sb X x.1 := .inr (List.mem_map.2 ⟨x, List.mem_of_getElem? hi, rfl⟩)
  have mk : HF sb X y.1 := .inr (List.mem_map.2 ⟨y, List.mem_of_getElem? hk, rfl⟩)
  refine ⟨rfl, ⟨?_, ?_, by rw [swl_len]; exact h.len, ?_, ((swl_perm X i k).map (·.1)).nodup_iff.2 h.nod, h.capM⟩, ((((Kept.refl _ _).setCell (fun _ => .inl rfl) _).setCell (fun _ => .inl rfl) _).setCell (fun _ => mk) _).setCell (fun _ => mi) _ |>.drewN q⟩
  · rw [swl_len]
    exact ((((h.top.far nAs _).far nAs _).far nAk _).far nAi _).drewN q
  · obtain ⟨cs, hb, hsz, hc⟩ := h.row
    refine ⟨_, ((((hb.set_ _ _).set_ _ _).far nk _).far ns _).drewN q, by simpa using hsz, fun j z hj => ?_⟩
    rw [swl_get hi hk] at hj
    have si : i < cs.size := by have := h.len; omega
    have sk : k < cs.size := by have := h.len; omega
    rw [Array.getElem?_setIfInBounds, Array.getElem?_setIfInBounds]
    by_cases e : j = k
    · subst e; simp at hj; subst hj; simp [sk]
    · by_cases e2 : j = i
      · subst e2; simp [e] at hj; subst hj; simp [Ne.symm e, si]
      · simp [e, e2] at hj; simp [Ne.symm e, Ne.symm e2, hc j z hj]
  · intro j z hj
    rw [swl_get hi hk] at hj
    by_cases e : j = k
    · subst e
      simp at hj; subst hj
      have b := (((((h.tim i x hi).far (p := ⟨sb, i, none⟩) ns.symm (.pointer (some ⟨y.1, 0, none⟩))).far (p := ⟨sb, j, none⟩) ns.symm (.pointer (some ⟨x.1, 0, none⟩))).far (p := ⟨y.1, 3, none⟩) nb (.int .i64 i)).set_ 3 (.int .i64 j)).drewN q
      simpa [tcells] using b
    · by_cases e2 : j = i
      · subst e2
        simp [e] at hj; subst hj
        have b := (((((h.tim k y hk).far (p := ⟨sb, j, none⟩) nk.symm (.pointer (some ⟨y.1, 0, none⟩))).far (p := ⟨sb, k, none⟩) nk.symm (.pointer (some ⟨x.1, 0, none⟩))).set_ 3 (.int .i64 j)).far (p := ⟨x.1, 3, none⟩) nb.symm (.int .i64 k)).drewN q
        simpa [tcells] using b
      · simp [e, e2] at hj
        exact (((((h.tim j z hj).far (h.sb_ne hj).symm _).far (h.sb_ne hj).symm _).far (h.ne_blocks hj hk e) _).far (h.ne_blocks hj hi e2) _).drewN q
end
end Go.Proofs.Ytmfjeeogeilgfaa.Al
