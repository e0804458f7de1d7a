/- Words for slices of structs in memory, and for maps with any keys. They speak of no program of their own. Identifiers and runs of them: plain laws, no program in sight. -/
import Derived.Test.YtaaeomapbigfgaaW1
import Derived.Sort.Grow
import Derived.Laws.StructEq
namespace Go.Proofs.Ytaaeomapbigfgaa
open Go.RowKit

/-! ### growth -/
theorem Kept.of_grow {w : World} (q : Nat) (os : Array Obj) : Kept (fun _ => False) w (Sort.grow (w.drewN q) os) :=
  ⟨rfl, rfl, rfl, by simp [Sort.grow, World.drewN], fun k hk _ => by simp [Sort.grow, World.drewN, Array.getElem?_append, hk]⟩
theorem grow_alloc (w : World) (o : Obj) : w.alloc o = Sort.grow w #[o] := by
  show ({ w with heap := w.heap.push o } : World) = { w with heap := w.heap ++ #[o] }
  rw [Array.push_eq_append]
/-- draws, and blocks behind -/
def Grew (w w' : World) : Prop := ∃ q os, w' = Sort.grow (w.drewN q) os
section
variable {w w' w'' : World}
theorem Grew.refl (w : World) : Grew w w := ⟨0, #[], by rw [Sort.grow_empty]; rfl⟩
theorem Grew.kept (h : Grew w w') : Kept (fun _ => False) w w' := by obtain ⟨q, os, rfl⟩ := h; exact Kept.of_grow q os
theorem Grew.box (h : Grew w w') {g : Nat} {t : TypeId} {cs : Array Value} (hb : Blk w g t cs) : Blk w' g t cs := h.kept.blk (fun h => h) hb
theorem Grew.size (h : Grew w w') : w.heap.size ≤ w'.heap.size := h.kept.size
theorem Grew.drewN (h : Grew w w') (n : Nat) : Grew w (w'.drewN n) := by
  obtain ⟨q, os, rfl⟩ := h
  exact ⟨q + n, os, by simp [Sort.grow, World.drewN, Nat.add_assoc]⟩
theorem Grew.drew (h : Grew w w') : Grew w w'.drew := h.drewN 1
theorem Grew.alloc (h : Grew w w') (o : Obj) : Grew w (w'.alloc o) := by
  obtain ⟨q, os, rfl⟩ := h
  exact ⟨q, os ++ #[o], by rw [grow_alloc, Sort.grow_grow]⟩
theorem Grew.setCell (h : Grew w w') {p : Addr} (hp : w.heap.size ≤ p.block) (u : Value) : Grew w (w'.setCell p u) := by
  obtain ⟨q, os, rfl⟩ := h
  have hh : ((Sort.grow (w.drewN q) os).setCell p u).heap = w.heap ++ ((Sort.grow (w.drewN q) os).setCell p u).heap.extract w.heap.size ((Sort.grow (w.drewN q) os).setCell p u).heap.size := by
    have hs : ((Sort.grow (w.drewN q) os).setCell p u).heap.size = w.heap.size + os.size := by simp [World.setCell, Sort.grow, World.drewN]
    apply Array.ext
    · simp [hs]
    · intro i h1 h2
      rw [Array.getElem_append]
      split
      · rename_i hi
        simp only [World.setCell, Sort.grow, World.drewN, Array.getElem_modify]
        rw [if_neg (by omega), Array.getElem_append_left hi]
      · rename_i hi
        rw [Array.getElem_extract]
        congr 1
        omega
  obtain ⟨os', hh⟩ : ∃ os', ((Sort.grow (w.drewN q) os).setCell p u).heap = w.heap ++ os' := ⟨_, hh⟩
  refine ⟨q, os', ?_⟩
  have e : (Sort.grow (w.drewN q) os).setCell p u = { w.drewN q with heap := ((Sort.grow (w.drewN q) os).setCell p u).heap } := rfl
  rw [e, hh]
  rfl
theorem Grew.trans (h : Grew w w') (k : Grew w' w'') : Grew w w'' := by
  obtain ⟨q, os, rfl⟩ := k
  obtain ⟨q2, os2, h2⟩ := h.drewN q
  exact ⟨q2, os2 ++ os, by rw [h2, Sort.grow_grow]⟩
end
end Go.Proofs.Ytaaeomapbigfgaa
namespace Go.Proofs.Ytaaeomapbigfgaa.St

/-- below 0, 0, above 0 -/
def cmpI (a b : Int) : Int := if a < b then -1 else if b < a then 1 else 0
/-- the first that is not 0 -/
def orL : List Int → Int
  | [] => 0
  | x :: r => if x = 0 then orL r else x

@[ext] structure ID where
  t : Int
  s : Int
deriving DecidableEq, Inhabited
@[ext] structure Run where
  id : ID
  c : Int
deriving DecidableEq, Inhabited
def ID.zero : ID := ⟨0, 0⟩
def ID.cmp (a b : ID) : Int := orL [cmpI a.t b.t, cmpI a.s b.s]
def ID.lt (a b : ID) : Prop := a.t < b.t ∨ a.t = b.t ∧ a.s < b.s
def ID.Is (a : ID) : Prop := 1 ≤ a.t ∧ a.t ≤ 2147483647 ∧ 1 ≤ a.s ∧ a.s ≤ 16
instance (a : ID) : Decidable a.Is := by unfold ID.Is; infer_instance
instance (a b : ID) : Decidable (a.lt b) := by unfold ID.lt; infer_instance
def isB (a : ID) : Bool := decide a.Is
def ID.after (a : ID) (n : Int) : ID := if a.Is ∧ 0 ≤ n ∧ n ≤ 2147483647 - a.t then ⟨a.t + n, a.s⟩ else ID.zero

theorem ID.lt_irrefl (a : ID) : ¬ a.lt a := by unfold ID.lt; omega
theorem ID.lt_trans {a b c : ID} (h : a.lt b) (h' : b.lt c) : a.lt c := by unfold ID.lt at *; omega
theorem ID.lt_or (a b : ID) : a.lt b ∨ a = b ∨ b.lt a := by
  unfold ID.lt
  rw [ID.ext_iff]
  omega
theorem cmp_eq (a b : ID) : a.cmp b = if a.lt b then -1 else if b.lt a then 1 else 0 := by
  unfold ID.cmp orL cmpI orL orL ID.lt
  by_cases h1 : a.t < b.t
  · simp [h1]
  · by_cases h2 : b.t < a.t
    · have : ¬ (a.t = b.t ∧ a.s < b.s) := by omega
      simp [h1, h2, this]
    · have h3 : a.t = b.t := by omega
      by_cases h4 : a.s < b.s
      · simp [h3, h4]
      · by_cases h5 : b.s < a.s
        · simp [h3, h4, h5]
        · simp [h3, h4, h5]
theorem cmp_lt {a b : ID} : a.cmp b < 0 ↔ a.lt b := by
  rw [cmp_eq]
  by_cases h1 : a.lt b
  · simp [h1]
  · by_cases h2 : b.lt a <;> simp [h1, h2]
theorem cmp_gt {a b : ID} : 0 < a.cmp b ↔ b.lt a := by
  rw [cmp_eq]
  by_cases h1 : a.lt b
  · have : ¬ b.lt a := fun h => a.lt_irrefl (ID.lt_trans h1 h)
    simp [h1, this]
  · by_cases h2 : b.lt a <;> simp [h1, h2]
theorem cmp_zero {a b : ID} : a.cmp b = 0 ↔ a = b := by
  rw [cmp_eq]
  constructor
  · intro h
    rcases a.lt_or b with h1 | h1 | h1
    · simp [h1] at h
    · exact h1
    · have : ¬ a.lt b := fun h => a.lt_irrefl (ID.lt_trans h h1)
      simp [h1, this] at h
  · rintro rfl
    simp [ID.lt_irrefl]
theorem cmp_swap (a b : ID) : b.cmp a = - a.cmp b := by
  rw [cmp_eq, cmp_eq]
  rcases a.lt_or b with h | h | h
  · have : ¬ b.lt a := fun h' => a.lt_irrefl (ID.lt_trans h h')
    simp [h, this]
  · subst h; simp [ID.lt_irrefl]
  · have : ¬ a.lt b := fun h' => a.lt_irrefl (ID.lt_trans h' h)
    simp [h, this]
theorem cmp_bd (a b : ID) : -1 ≤ a.cmp b ∧ a.cmp b ≤ 1 := by
  rw [cmp_eq]; split <;> (try split) <;> omega

/-! ### rising lists -/
def Rising (l : List ID) : Prop := l.Pairwise ID.lt
/-- S is the identifiers among ids, rising, each once -/
def SetOf (ids S : List ID) : Prop := Rising S ∧ ∀ x, x ∈ S ↔ x ∈ ids ∧ x.Is
theorem rising_unique : ∀ {S T : List ID}, Rising S → Rising T → (∀ x, x ∈ S ↔ x ∈ T) → S = T
  | [], [], _, _, _ => rfl
  | [], y :: T, _, _, h => absurd ((h y).2 (List.mem_cons_self ..)) (by simp)
  | x :: S, [], _, _, h => absurd ((h x).1 (List.mem_cons_self ..)) (by simp)
  | x :: S, y :: T, hS, hT, h => by
    obtain ⟨s1, s2⟩ := List.pairwise_cons.1 hS
    obtain ⟨t1, t2⟩ := List.pairwise_cons.1 hT
    have e : x = y := by
      rcases List.mem_cons.1 ((h x).1 (List.mem_cons_self ..)) with e | e
      · exact e
      · rcases List.mem_cons.1 ((h y).2 (List.mem_cons_self ..)) with e' | e'
        · exact e'.symm
        · exact absurd (ID.lt_trans (s1 y e') (t1 x e)) (ID.lt_irrefl _)
    subst e
    have hST : ∀ z, z ∈ S ↔ z ∈ T := fun z => by
      constructor
      · intro hz
        rcases List.mem_cons.1 ((h z).1 (List.mem_cons_of_mem _ hz)) with e | e
        · subst e; exact absurd (s1 z hz) (ID.lt_irrefl _)
        · exact e
      · intro hz
        rcases List.mem_cons.1 ((h z).2 (List.mem_cons_of_mem _ hz)) with e | e
        · subst e; exact absurd (t1 z hz) (ID.lt_irrefl _)
        · exact e
    rw [rising_unique s2 t2 hST]
theorem SetOf.unique {ids S T : List ID} (h : SetOf ids S) (h' : SetOf ids T) : S = T := rising_unique h.1 h'.1 fun x => (h.2 x).trans (h'.2 x).symm

/-! ### runs -/
/-- the identifier that would follow a run -/
def Run.next (r : Run) : ID := ⟨r.id.t + r.c, r.id.s⟩
def Run.fin (r : Run) : ID := ⟨r.id.t + r.c - 1, r.id.s⟩
def Run.up (r : Run) : Run := ⟨r.id, r.c + 1⟩
/-- the place of the first run that an identifier would follow -/
def growAt (out : List Run) (x : ID) : Option Nat := out.findIdx? fun r => decide (r.next = x)
def packStep (out : List Run) (x : ID) : List Run :=
  match growAt out x with
  | some k => out.modify k Run.up
  | none => out ++ [⟨x, 1⟩]
def packL (S : List ID) : List Run := S.foldl packStep []
/-- what packStep keeps, all that is to come being above -/
structure PackOk (out : List Run) (P : ID → Prop) : Prop where
  nodup : (out.map Run.next).Nodup
  fin : ∀ r ∈ out, P r.fin
  pos : ∀ r ∈ out, 1 ≤ r.c
theorem growAt_some {out : List Run} {x : ID} {k : Nat} (h : growAt out x = some k) : ∃ r, out[k]? = some r ∧ r.next = x := by
  unfold growAt at h
  rw [List.findIdx?_eq_some_iff_getElem] at h
  obtain ⟨hk, h1, _⟩ := h
  exact ⟨out[k], by simp [hk], by simpa using h1⟩
theorem growAt_none {out : List Run} {x : ID} (h : growAt out x = none) : ∀ r ∈ out, r.next ≠ x := by
  unfold growAt at h
  rw [List.findIdx?_eq_none_iff] at h
  intro r hr
  simpa using h r hr
theorem growAt_of {out : List Run} {x : ID} {k : Nat} {r : Run} (hn : (out.map Run.next).Nodup) (hk : out[k]? = some r) (hr : r.next = x) : growAt out x = some k := by
  cases h : growAt out x with
  | none => exact absurd hr (growAt_none h r (List.mem_of_getElem? hk))
  | some j =>
    obtain ⟨q, hj, hq⟩ := growAt_some h
    have hj' : j < out.length := (List.getElem?_eq_some_iff.1 hj).1
    have : j = k := (List.getElem?_inj (by simpa using hj') hn).1 (by simp [List.getElem?_map, hj, hk, hq, hr])
    rw [this]
theorem packStep_ok {out : List Run} {P Q : ID → Prop} {x : ID} (h : PackOk out P) (hx : ∀ y, P y → y ≠ x) (hPQ : ∀ y, P y → Q y) (hQ : Q x) : PackOk (packStep out x) Q := by
  have hnx : ∀ r ∈ out, r.next ≠ ⟨x.t + 1, x.s⟩ := fun r hr e => by
    have h1 := hx _ (h.fin r hr)
    apply h1
    have e1 := congrArg ID.t e
    have e2 := congrArg ID.s e
    simp only [Run.next] at e1 e2
    rw [ID.ext_iff]
    simp only [Run.fin]
    exact ⟨by omega, e2⟩
  unfold packStep
  cases hg : growAt out x with
  | none =>
    refine ⟨?_, fun r hr => ?_, fun r hr => ?_⟩
    · simp only [List.map_append, List.map_cons, List.map_nil]
      rw [List.nodup_append]
      refine ⟨h.nodup, by simp, fun a ha b hb => ?_⟩
      obtain ⟨r, hr, rfl⟩ := List.mem_map.1 ha
      simp only [List.mem_cons, List.not_mem_nil, or_false] at hb
      subst hb
      exact hnx r hr
    · rcases List.mem_append.1 hr with hr | hr
      · exact hPQ _ (h.fin r hr)
      · simp only [List.mem_cons, List.not_mem_nil, or_false] at hr
        subst hr
        have : Run.fin ⟨x, 1⟩ = x := by rw [ID.ext_iff]; exact ⟨by simp only [Run.fin]; omega, rfl⟩
        rw [this]; exact hQ
    · rcases List.mem_append.1 hr with hr | hr
      · exact h.pos r hr
      · simp only [List.mem_cons, List.not_mem_nil, or_false] at hr
        subst hr
        exact Int.le_refl _
  | some k =>
    obtain ⟨r, hk, hr⟩ := growAt_some hg
    have hkl : k < out.length := (List.getElem?_eq_some_iff.1 hk).1
    have hup : r.up.next = ⟨x.t + 1, x.s⟩ := by
      have e1 := congrArg ID.t hr
      have e2 := congrArg ID.s hr
      simp only [Run.next] at e1 e2
      rw [ID.ext_iff]
      simp only [Run.next, Run.up]
      exact ⟨by omega, e2⟩
    have hmod : out.modify k Run.up = out.set k r.up := by
      apply List.ext_getElem?
      intro i
      rw [List.getElem?_modify, List.getElem?_set]
      by_cases hi : k = i
      · subst hi
        have e : out[k] = r := Option.some.inj ((List.getElem?_eq_getElem hkl).symm.trans hk)
        simp [hkl, e]
      · simp [hi]
    show PackOk (out.modify k Run.up) Q
    rw [hmod]
    have hmem : ∀ q ∈ out.set k r.up, q = r.up ∨ q ∈ out := fun q hq => (List.mem_or_eq_of_mem_set hq).symm
    refine ⟨?_, fun q hq => ?_, fun q hq => ?_⟩
    · rw [List.map_set, hup]
      unfold List.Nodup
      rw [List.pairwise_iff_getElem]
      intro i j hi hj hij e
      simp only [List.length_set, List.length_map] at hi hj
      rw [List.getElem_set, List.getElem_set] at e
      by_cases h1 : k = i
      · have h2 : k ≠ j := by omega
        rw [if_pos h1, if_neg h2, List.getElem_map] at e
        exact hnx _ (List.getElem_mem (by omega)) e.symm
      · by_cases h2 : k = j
        · rw [if_neg h1, if_pos h2, List.getElem_map] at e
          exact hnx _ (List.getElem_mem (by omega)) e
        · rw [if_neg h1, if_neg h2] at e
          exact (List.pairwise_iff_getElem.1 h.nodup) i j (by simpa using hi) (by simpa using hj) hij e
    · rcases hmem q hq with rfl | hq
      · have : r.up.fin = x := by
          have e1 := congrArg ID.t hr
          have e2 := congrArg ID.s hr
          simp only [Run.next] at e1 e2
          rw [ID.ext_iff]
          simp only [Run.fin, Run.up]
          exact ⟨by omega, e2⟩
        rw [this]; exact hQ
      · exact hPQ _ (h.fin q hq)
    · rcases hmem q hq with rfl | hq
      · have := h.pos r (List.mem_of_getElem? hk)
        simp only [Run.up]; omega
      · exact h.pos q hq
theorem packStep_len (out : List Run) (x : ID) : (packStep out x).length ≤ out.length + 1 := by
  unfold packStep; split <;> simp
theorem get_of_lt {α : Type} {l : List α} {i : Nat} (h : i < l.length) : ∃ x, l[i]? = some x := ⟨_, List.getElem?_eq_getElem h⟩
/-- numbers that an int holds -/
def I64 (n : Int) : Prop := -9223372036854775808 ≤ n ∧ n ≤ 9223372036854775807
def Run.In (r : Run) : Prop := I64 r.id.t ∧ I64 r.id.s ∧ I64 r.c
end Go.Proofs.Ytaaeomapbigfgaa.St
