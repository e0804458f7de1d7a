/- The document's Alarm in memory; what only reads it. -/
import Derived.Test.YtmfjeeogeilgfaaAlDue
namespace Go.Proofs.Ytmfjeeogeilgfaa.Al
open Go.RowKit

def tc (t : T) : List Value := [.int .i64 t.key, .int .i64 t.gap, .int .i64 t.due]
def tcs (L : List T) : List Value := L.flatMap tc
theorem tcs_len (L : List T) : (tcs L).length = L.length * 3 := by
  induction L with
  | nil => rfl
  | cons t r ih => simp [tcs, tc] at ih ⊢; omega
theorem tcs_get {L : List T} {t : T} : ∀ {i : Nat}, L[i]? = some t → ∀ j, j < 3 → (tcs L)[i * 3 + j]? = (tc t)[j]? := by
  induction L with
  | nil => intro i h; simp at h
  | cons x r ih =>
    intro i h j hj
    cases i with
    | zero =>
      simp at h; subst h
      simp only [tcs, List.flatMap_cons, Nat.zero_mul, Nat.zero_add]
      rw [List.getElem?_append_left (by simpa [tc] using hj)]
    | succ i =>
      have h' : r[i]? = some t := by simpa using h
      have := ih h' j hj
      simp only [tcs, List.flatMap_cons] at this ⊢
      rw [List.getElem?_append_right (by simp [tc]; omega)]
      rw [show (i + 1) * 3 + j - (tc x).length = i * 3 + j by simp [tc]; omega]
      exact this

/-- the document's Alarm; v: its list -/
structure RefAt (w : World) (B : Nat) (l m : Int) (v : Value) (L : List T) : Prop where
  blk : Blk w B 45 #[.int .i64 l, .int .i64 m, v]
  sl : ∃ a c, v = .slice a L.length c
  own : w.ownsRow 0 70 3 v L.length (tcs L)
/-- its blocks -/
def RF (B : Nat) (v : Value) : Nat → Prop := fun b => b = B ∨ v.ownBlock = some b

section
variable {w : World} {B : Nat} {l m : Int} {v : Value} {L : List T}
theorem RefAt.drewN (h : RefAt w B l m v L) (q : Nat) : RefAt (w.drewN q) B l m v L := ⟨h.blk, h.sl, h.own⟩
theorem RefAt.keep {S : Nat → Prop} {w' : World} (h : RefAt w B l m v L) (hk : Kept S w w') (hs : ∀ b, RF B v b → ¬ S b) : RefAt w' B l m v L :=
  ⟨hk.blk (hs _ (.inl rfl)) h.blk, h.sl, owns_keep h.own hk fun b hb => hs b (.inr hb)⟩
theorem RefAt.lt (h : RefAt w B l m v L) : ∀ b, RF B v b → b < w.heap.size := by
  rintro b (rfl | hb)
  · exact h.blk.lt
  · exact (h.own.lt b hb).2
theorem RefAt.cells (h : RefAt w B l m v L) (hL : L ≠ []) : ∃ g c, v = .slice (some ⟨g, 0, none⟩) L.length c ∧ ∀ i t, L[i]? = some t →
    w.cell? ⟨g, i * 3, none⟩ = some (.int .i64 t.key) ∧ w.cell? ⟨g, i * 3 + 1, none⟩ = some (.int .i64 t.gap) ∧ w.cell? ⟨g, i * 3 + 2, none⟩ = some (.int .i64 t.due) := by
  have hn : 0 < L.length := List.length_pos_iff.2 hL
  obtain ⟨g, c, hv, _, _⟩ := h.own.form hn
  refine ⟨g, c, hv, fun i t hi => ?_⟩
  have hil := lt_of_get hi
  have ho := h.own
  rw [hv] at ho
  refine ⟨?_, ?_, ?_⟩
  · have := ho.cellAt (i * 3) (by omega)
    rw [this]; exact tcs_get hi 0 (by omega)
  · have := ho.cellAt (i * 3 + 1) (by omega)
    rw [this]; exact tcs_get hi 1 (by omega)
  · have := ho.cellAt (i * 3 + 2) (by omega)
    rw [this]; exact tcs_get hi 2 (by omega)

theorem rtick_yes {n : Int} (h : tickB n = true) (w : World) : Calls Try.prog 35 #[.int .i64 n] w fun e w' => e = .returned (.bool true) ∧ w = w' := by
  obtain ⟨h1, h2⟩ : 0 ≤ n ∧ n ≤ 2147483647 := by simpa [tickB] using h
  clear h
  go_enter Try.func35, Try.ntmps35
  go_wp2
  go_ret
  exact ⟨rfl, rfl⟩
theorem rtick_no {n : Int} (h : tickB n = false) (w : World) : Calls Try.prog 35 #[.int .i64 n] w fun e w' => e = .returned (.bool false) ∧ w = w' := by
  have h1 : ¬ (0 ≤ n ∧ n ≤ 2147483647) := by simpa [tickB] using h
  clear h
  by_cases h0 : 0 ≤ n
  · have h2 : 2147483647 < n := by omega
    clear h1
    go_enter Try.func35, Try.ntmps35
    go_wp2
    go_ret
    exact ⟨by simp; omega, rfl⟩
  · have h2 : n < 0 := by omega
    clear h1 h0
    go_enter Try.func35, Try.ntmps35
    go_wp2
    go_ret
    exact ⟨rfl, rfl⟩

theorem rlen_any (h : RefAt w B l m v L) : Calls Try.prog 24 #[.pointer (some ⟨B, 0, none⟩)] w fun e w' => e = .returned (.int .i64 L.length) ∧ w = w' := by
  obtain ⟨a, c, rfl⟩ := h.sl
  have c2 : w.cell? ⟨B, 2, none⟩ = some (.slice a L.length c) := h.blk.cell' rfl
  go_enter Try.func24, Try.ntmps24
  go_wp2
  go_ret
  exact ⟨rfl, rfl⟩
theorem rnew_ok (h1 : 1 ≤ l) (h2 : l ≤ m) (h3 : m ≤ 4096) (w : World) : Calls Try.prog 10 #[.int .i64 l, .int .i64 m] w fun e w' => e = .returned (.tuple #[.pointer (some ⟨w.heap.size, 0, none⟩), .int .i64 0]) ∧
    RefAt w' w.heap.size l m (.slice none 0 0) [] ∧ Kept (fun _ => False) w w' := by
  go_enter Try.func10, Try.ntmps10
  go_wp2
  go_ret2
  exact ⟨rfl, ⟨Blk.new _ _ _, ⟨_, _, rfl⟩, World.ownsRow_nil _ _ _ _⟩, (Kept.refl _ _).alloc _⟩
theorem rnew_bad (h : l < 1 ∨ m < l ∨ 4096 < m) (w : World) : Calls Try.prog 10 #[.int .i64 l, .int .i64 m] w fun e w' => e = .returned (.tuple #[.pointer none, .int .i64 1]) ∧ w = w' := by
  by_cases h1 : l < 1
  · go_enter Try.func10, Try.ntmps10
    go_wp2
    go_ret2
    exact ⟨rfl, rfl⟩
  · by_cases h2 : m < l
    · go_enter Try.func10, Try.ntmps10
      go_wp2
      go_ret2
      exact ⟨rfl, rfl⟩
    · have h3 : 4096 < m := by omega
      go_enter Try.func10, Try.ntmps10
      go_wp2
      go_ret2
      exact ⟨rfl, rfl⟩

/-- the place of a key, -1: it has none -/
def atOf : List T → Int → Int
  | [], _ => -1
  | t :: r, k => if t.key = k then 0 else if atOf r k < 0 then -1 else atOf r k + 1
theorem atOf_found {L : List T} {k : Int} : ∀ {i : Nat} {t : T}, L[i]? = some t → t.key = k → (∀ j t', j < i → L[j]? = some t' → t'.key ≠ k) → atOf L k = i := by
  induction L with
  | nil => intro i t h; simp at h
  | cons x r ih =>
    intro i t h hk hn
    cases i with
    | zero => simp at h; subst h; simp [atOf, hk]
    | succ i =>
      have h0 := hn 0 x (by omega) rfl
      have := ih (i := i) (t := t) (by simpa using h) hk (fun j t' hj ht => hn (j + 1) t' (by omega) (by simpa using ht))
      rw [atOf, if_neg h0, this, if_neg (by omega)]
      omega
theorem atOf_none {L : List T} {k : Int} (h : ∀ t ∈ L, t.key ≠ k) : atOf L k = -1 := by
  induction L with
  | nil => rfl
  | cons x r ih =>
    rw [atOf, if_neg (h x (List.mem_cons_self ..)), ih fun t ht => h t (List.mem_cons_of_mem _ ht)]
    rfl

theorem at_any (h : RefAt w B l m v L) (k : Int) (hbig : L.length ≤ 1000000) : Calls Try.prog 33 #[.pointer (some ⟨B, 0, none⟩), .int .i64 k] w fun e w' => e = .returned (.int .i64 (atOf L k)) ∧ w = w' := by
  obtain ⟨a, c, rfl⟩ := h.sl
  have c2 : w.cell? ⟨B, 2, none⟩ = some (.slice a L.length c) := h.blk.cell' rfl
  go_enter Try.func33, Try.ntmps33
  go_wp2
  go_loop [5] (fun i => ∃ n : Nat, i = .int .i64 n ∧ n ≤ L.length ∧ ∀ j t, j < n → L[j]? = some t → t.key ≠ k) (fun i => L.length - (intOf i).toNat)
  case atStart => exact ⟨0, rfl, Nat.zero_le _, fun j t hj => by omega⟩
  case round =>
    obtain ⟨n, rfl, hn, hno⟩ := hrel
    have N := Lib.hid hno
    clear hno
    by_cases hlt : n < L.length
    case neg =>
      have hge : L.length ≤ n := by omega
      go_wp2
      go_ret
      rw [atOf_none fun t ht => by obtain ⟨i, hi⟩ := List.getElem?_of_mem ht; exact N.out i t (by have := lt_of_get hi; omega) hi]
      exact ⟨rfl, rfl⟩
    case pos =>
      obtain ⟨t, ht⟩ := get_of_lt hlt
      obtain ⟨g, c', hv, hc⟩ := h.cells (by rintro rfl; simp at hlt)
      cases hv
      obtain ⟨k0, _, _⟩ := hc n t ht
      have HT := Lib.hid ht
      clear ht hc
      by_cases hk : t.key = k
      · have hk1 : (t.key == k) = true := by simpa using hk
        go_wp2
        go_ret
        rw [atOf_found HT.out hk N.out]
        exact ⟨rfl, rfl⟩
      · have hk1 : (t.key == k) = false := by simpa using hk
        have HK := Lib.hid hk
        clear hk
        go_wp2
        go_round
        case rel =>
          refine ⟨n + 1, by go_num, by omega, fun j t' hj ht' => ?_⟩
          by_cases e : j = n
          · subst e; have := HT.out.symm.trans ht'; cases this; exact HK.out
          · exact N.out j t' (by omega) ht'
        case measure => simp [intOf]; omega
end
end Go.Proofs.Ytmfjeeogeilgfaa.Al
