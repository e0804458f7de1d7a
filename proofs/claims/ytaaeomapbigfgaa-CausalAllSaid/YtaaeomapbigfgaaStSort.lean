/- slices.SortFunc of identifiers, on a row of the call's own. -/
import Derived.Shelf.SlSortCmp.NoneTotal
import Derived.Test.YtaaeomapbigfgaaStDel
namespace Go.Proofs.Ytaaeomapbigfgaa
open Go.RowKit
open Go.Sort (putRowK HoldsK flatK size_flatK get_flatK grow)
section
variable {α : Type} [Inhabited α] {E : Enc α} {w : World} {t : TypeId} {g cap : Nat} {D D' : List α}
theorem flatK_get {i j : Nat} {x : α} {u : Value} (hx : D[i]? = some x) (hu : (E.enc x)[j]? = some u) : i * E.k + j < (flatK E.enc E.k D.toArray).size ∧ (flatK E.enc E.k D.toArray)[i * E.k + j]! = u := by
  have hi : i < D.length := (List.getElem?_eq_some_iff.1 hx).1
  have hj : j < E.k := by rw [← E.len x]; exact (List.getElem?_eq_some_iff.1 hu).1
  have hlt : i * E.k + j < D.toArray.size * E.k := by
    have := Nat.mul_le_mul_right E.k (show i + 1 ≤ D.length by omega)
    rw [Nat.add_mul] at this
    simp only [List.size_toArray]
    omega
  refine ⟨by rw [size_flatK]; exact hlt, ?_⟩
  rw [get_flatK _ _ _ _ hlt]
  have e1 : (i * E.k + j) / E.k = i := by rw [Nat.mul_comm, Nat.mul_add_div E.pos, Nat.div_eq_of_lt hj, Nat.add_zero]
  have e2 : (i * E.k + j) % E.k = j := by rw [Nat.mul_comm, Nat.mul_add_mod, Nat.mod_eq_of_lt hj]
  have e3 : D.toArray[i]! = x := by
    rw [getElem!_pos D.toArray i (by simpa using hi)]
    have := (List.getElem?_eq_some_iff.1 hx).2
    simpa using this
  rw [e1, e2, e3]
  have hjl := (List.getElem?_eq_some_iff.1 hu)
  rw [getElem!_pos _ j hjl.1]
  exact hjl.2
theorem OwnAt.holdsK (h : OwnAt E w t g cap D) : HoldsK E.enc E.k w g 0 D.toArray := by
  intro m hm
  rw [size_flatK] at hm
  simp only [List.size_toArray] at hm
  have e : m = m / E.k * E.k + m % E.k := by have := Nat.div_add_mod m E.k; rw [Nat.mul_comm] at this; omega
  have hi : m / E.k < D.length := Nat.div_lt_of_lt_mul (by rw [Nat.mul_comm]; exact hm)
  have hj : m % E.k < E.k := Nat.mod_lt _ E.pos
  have hx := List.getElem?_eq_getElem hi
  have hu : (E.enc D[m / E.k])[m % E.k]? = some _ := List.getElem?_eq_getElem (by rw [E.len]; exact hj)
  have h1 := h.cell hx hu
  have h2 := (flatK_get hx hu).2
  rw [← e] at h1 h2
  rw [Nat.zero_add, h2]
  exact ⟨h1, h.frozen m⟩
theorem OwnAt.sorted (h : OwnAt E w t g cap D) (hl : D'.length = D.length) (n : Nat) (os : Array Obj) :
    OwnAt E (sortWorldK E.enc E.k w g 0 n D'.toArray os) t g cap D' ∧ Kept (· = g) w (sortWorldK E.enc E.k w g 0 n D'.toArray os) := by
  obtain ⟨cs, h1, h2, h3, h4, h5⟩ := h
  have hlt := h1.lt
  refine ⟨⟨Go.Sort.putCells id 0 (flatK E.enc E.k D'.toArray) cs, ?_, ?_, by omega, h4, ?_⟩, ⟨rfl, rfl, rfl, ?_, ?_⟩⟩
  · unfold Blk at h1 ⊢
    show (w.heap.modify g (Go.Sort.onCells (Go.Sort.putCells id 0 (flatK E.enc E.k D'.toArray))) ++ os)[g]? = _
    rw [Array.getElem?_append_left (by simpa using hlt), Array.getElem?_modify, if_pos rfl, h1]
    rfl
  · simp [Go.Sort.putCells, h2]
  · intro i x hx j u hu
    obtain ⟨g1, g2⟩ := flatK_get hx hu
    have hm : i * E.k + j < cs.size := by
      rw [size_flatK] at g1
      simp only [List.size_toArray] at g1
      have := Nat.mul_le_mul_right E.k h3
      rw [← hl] at this
      omega
    simp only [Go.Sort.putCells, Array.getElem?_mapIdx, Array.getElem?_eq_getElem hm, Option.map_some]
    rw [if_pos ⟨Nat.zero_le _, by omega⟩, Nat.sub_zero, g2]
    rfl
  · simp [sortWorldK, grow, putRowK, Go.Sort.putRow, Go.Sort.mapBlock, Go.Sort.ahead]
  · intro k hk hne
    have : ¬ g = k := fun e => hne e.symm
    show (w.heap.modify g (Go.Sort.onCells (Go.Sort.putCells id 0 (flatK E.enc E.k D'.toArray))) ++ os)[k]? = _
    rw [Array.getElem?_append_left (by simpa using hk), Array.getElem?_modify, if_neg this]
end
namespace St
open Go.Sort (SWO)
theorem lt_of (x y : ID) : Go.Proofs.ltOf ID.cmp x y = decide (x.lt y) := by
  unfold Go.Proofs.ltOf
  rw [decide_eq_decide]
  exact cmp_lt
theorem swo_id : SWO (Go.Proofs.ltOf ID.cmp) where
  irrefl x := by rw [lt_of]; simpa using ID.lt_irrefl x
  trans x y z h1 h2 := by rw [lt_of] at *; simp only [decide_eq_true_eq] at *; exact ID.lt_trans h1 h2
  ntrans x y z h1 h2 := by
    rw [lt_of] at *
    simp only [decide_eq_false_iff_not] at *
    unfold ID.lt at *
    omega
theorem part_id (x y : ID) (h1 : Go.Proofs.ltOf ID.cmp x y = false) (h2 : Go.Proofs.ltOf ID.cmp y x = false) : x = y := by
  rw [lt_of] at h1 h2
  simp only [decide_eq_false_iff_not] at h1 h2
  rcases x.lt_or y with h | h | h
  · exact absurd h h1
  · exact h
  · exact absurd h h2
/-- no later one is lower -/
def Sorted (l : List ID) : Prop := l.Pairwise fun a b => ¬ b.lt a
theorem merge_id (D : List ID) : (D.mergeSort fun x y => !Go.Proofs.ltOf ID.cmp y x).Perm D ∧ Sorted (D.mergeSort fun x y => !Go.Proofs.ltOf ID.cmp y x) := by
  refine ⟨List.mergeSort_perm .., ?_⟩
  have := List.pairwise_mergeSort (le := fun x y => !Go.Proofs.ltOf ID.cmp y x) (fun a b c h1 h2 => by
    simp only [Bool.not_eq_true'] at *
    exact swo_id.ntrans c b a h2 h1) (fun a b => by
    simp only [Bool.or_eq_true, Bool.not_eq_true', lt_of, decide_eq_false_iff_not]
    by_cases h : b.lt a
    · exact .inr fun h' => ID.lt_irrefl _ (ID.lt_trans h h')
    · exact .inl h) D
  refine this.imp fun {a b} h => ?_
  simpa [lt_of] using h
theorem cmpLays_id (g n : Nat) (w : World) : CmpLays Try.prog 105 #[] idE.enc 2 ID.cmp g 0 n w := fun _ _ _ _ x y => compare_any x y _
end St
end Go.Proofs.Ytaaeomapbigfgaa

