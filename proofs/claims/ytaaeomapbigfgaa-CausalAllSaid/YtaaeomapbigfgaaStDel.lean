/- slices.IndexFunc and slices.DeleteFunc of the identifiers that are none, on a row of the call's own. -/
import Derived.Test.YtaaeomapbigfgaaStClone
import Derived.Laws.IdiomCopy
import Derived.Shelf.Abstract
namespace Go.Proofs.Ytaaeomapbigfgaa
open Go.RowKit
section
variable {α : Type} {E : Enc α} {w : World} {t : TypeId} {g cap : Nat} {D : List α}
theorem Blk.setCells : ∀ (vs : List Value) (o : Nat) {w : World} {cs : Array Value}, Blk w g t cs → ∃ cs', Blk (w.setCells g o vs) g t cs' ∧ cs'.size = cs.size ∧ ∀ m, m < o → cs'[m]? = cs[m]?
  | [], o, w, cs, h => ⟨cs, h, rfl, fun _ _ => rfl⟩
  | v :: r, o, w, cs, h => by
    obtain ⟨cs', h1, h2, h3⟩ := Blk.setCells r (o + 1) (h.set_ o v)
    refine ⟨cs', h1, by simpa using h2, fun m hm => ?_⟩
    rw [h3 m (by omega), Array.getElem?_setIfInBounds_ne (by omega)]
theorem Kept.setCells (g : Nat) : ∀ (vs : List Value) (o : Nat) {w0 w : World}, Kept (· = g) w0 w → Kept (· = g) w0 (w.setCells g o vs)
  | [], _, _, _, h => h
  | v :: r, o, _, _, h => Kept.setCells g r (o + 1) (h.setCell (p := ⟨g, o, none⟩) (fun _ => rfl) v)
theorem run_clear_own {P : Program} (h : OwnAt E w t g cap D) {T e : TypeId} (ty : TypeId) (ht : P.underlying T = some (.slice e)) {z : Value} (hv : ∀ w, (zeroValue e).run P w = .ok z w) (hz : z.cells.size = E.k) (hz1 : ∀ u ∈ z.cells.toList, u.oneCell' = true)
    {i n c : Nat} (hn : i + n ≤ cap) : ∃ w', (Builtin.clear_ #[T] ty #[.slice (some ⟨g, i * E.k, none⟩) n c]).run P w = .ok (.tuple #[]) w' ∧ OwnAt E w' t g cap (D.take i) ∧ Kept (· = g) w w' := by
  rcases n with _ | m
  · refine ⟨w, ?_, h.take i, Kept.refl _ _⟩
    simp [Builtin.clear_, run_underlying ht]
  · have hsz : (Builtin.zeroCells z.cells (m + 1)).toList.length = (m + 1) * E.k := by simp [Builtin.zeroCells, hz]
    have hone : ∀ u ∈ (Builtin.zeroCells z.cells (m + 1)).toList, u.oneCell' = true := by
      intro u hu
      simp only [Builtin.zeroCells, Array.toList_map, List.mem_map] at hu
      obtain ⟨k, _, rfl⟩ := hu
      refine hz1 _ ?_
      have hk : k % z.cells.size < z.cells.size := Nat.mod_lt _ (by rw [hz]; exact E.pos)
      rw [getElem!_pos z.cells _ hk]
      exact Array.getElem_mem_toList hk
    have hO := h
    obtain ⟨cs, h1, h2, h3, h4, h5⟩ := h
    have hin : ∀ j, j < (m + 1) * E.k → i * E.k + j < cs.size := fun j hj => by
      have := Nat.mul_le_mul_right E.k hn
      rw [Nat.add_mul] at this
      omega
    have hst := run_storeCells_cells (P := P) g (i * E.k) (Builtin.zeroCells z.cells (m + 1)).toList 0 w (fun j hj => by rw [Nat.add_zero, h1.cell]; simp [hin j (by omega)]) (fun j hj => h1.frozen _) hone
    obtain ⟨cs', g1, g2, g3⟩ := Blk.setCells (Builtin.zeroCells z.cells (m + 1)).toList (i * E.k) h1
    refine ⟨w.setCells g (i * E.k) (Builtin.zeroCells z.cells (m + 1)).toList, ?_, ⟨cs', g1, by omega, by rw [List.length_take]; omega, h4, ?_⟩, Kept.setCells g _ _ (Kept.refl _ _)⟩
    · simp only [Nat.add_zero] at hst
      simp [Builtin.clear_, run_underlying ht, hv, hst]
    · intro a x hx j u hu
      rw [List.getElem?_take] at hx
      split at hx
      · rename_i ha
        have hj : j < E.k := by rw [← E.len x]; exact (List.getElem?_eq_some_iff.1 hu).1
        have := Nat.mul_le_mul_right E.k (show a + 1 ≤ i by omega)
        rw [Nat.add_mul] at this
        rw [g3 _ (by omega)]
        exact h5 a x hx j u hu
      · cases hx
end
namespace St
theorem OwnAt.id {w : World} {t : TypeId} {g cap : Nat} {D : List ID} (h : OwnAt idE w t g cap D) {i : Nat} {x : ID} (hx : D[i]? = some x) :
    w.cell? ⟨g, i * 2, none⟩ = some (.int .i64 x.t) ∧ w.cell? ⟨g, i * 2 + 1, none⟩ = some (.int .i64 x.s) := ⟨h.cell (j := 0) hx rfl, h.cell (j := 1) hx rfl⟩
/-- the place of the first that is none -/
def FirstBad (D : List ID) (i : Int) : Prop := (i = -1 ∧ ∀ x ∈ D, isB x = true) ∨ ∃ k : Nat, i = k ∧ k < D.length ∧ (∀ (j : Nat) x, j < k → D[j]? = some x → isB x = true) ∧ ∀ x, D[k]? = some x → isB x = false

theorem zero_id : ∀ w, (zeroValue 31).run Try.prog w = .ok (.agg #[.int .i64 0, .int .i64 0]) w := fun _ => by kernel_rfl
/-- what DeleteFunc keeps: i written, j looked at -/
structure DelInv (D : List ID) (i j : Nat) (X : List ID) : Prop where
  len : X.length = D.length
  low : X.take i = (D.take j).filter isB
  il : i = ((D.take j).filter isB).length
  lt : i < j
  high : ∀ m, j ≤ m → X[m]? = D[m]?
theorem DelInv.skip {D X : List ID} {i j : Nat} {x : ID} (h : DelInv D i j X) (hx : D[j]? = some x) (hb : isB x = false) : DelInv D i (j + 1) X := by
  have e : (D.take (j + 1)).filter isB = (D.take j).filter isB := by rw [List.take_add_one, hx, List.filter_append]; simp [hb]
  exact ⟨h.len, by rw [e]; exact h.low, by rw [e]; exact h.il, by have := h.lt; omega, fun m hm => h.high m (by omega)⟩
theorem DelInv.keep {D X : List ID} {i j : Nat} {x : ID} (h : DelInv D i j X) (hx : D[j]? = some x) (hb : isB x = true) : DelInv D (i + 1) (j + 1) (X.set i x) := by
  have hj : j < D.length := (List.getElem?_eq_some_iff.1 hx).1
  have hl := h.len
  have hij := h.lt
  have e : (D.take (j + 1)).filter isB = (D.take j).filter isB ++ [x] := by rw [List.take_add_one, hx, List.filter_append]; simp [hb]
  refine ⟨by simpa using hl, ?_, by rw [e, List.length_append, ← h.il]; rfl, by omega, fun m hm => ?_⟩
  · rw [e, ← h.low, List.take_add_one, List.take_set_of_le (Nat.le_refl _), List.getElem?_set_self (by omega)]
    rfl
  · rw [List.getElem?_set_ne (by omega)]
    exact h.high m (by omega)
theorem DelInv.start {D : List ID} {k : Nat} (h1 : ∀ (j : Nat) x, j < k → D[j]? = some x → isB x = true) (h2 : ∀ x, D[k]? = some x → isB x = false) (hk : k < D.length) : DelInv D k (k + 1) D := by
  obtain ⟨x, hx⟩ := get_of_lt hk
  have e0 : (D.take k).filter isB = D.take k := List.filter_eq_self.2 fun y hy => by
    obtain ⟨j, hj⟩ := List.getElem?_of_mem hy
    rw [List.getElem?_take] at hj
    split at hj
    · rename_i hjk; exact h1 j y hjk hj
    · cases hj
  have e : (D.take (k + 1)).filter isB = D.take k := by rw [List.take_add_one, hx, List.filter_append, e0]; simp [h2 x hx]
  exact ⟨rfl, e.symm, by rw [e, List.length_take]; omega, by omega, fun _ _ => rfl⟩
theorem DelInv.done {D X : List ID} {i : Nat} (h : DelInv D i D.length X) : X.take i = D.filter isB ∧ i = (D.filter isB).length := by
  have h1 := h.low
  have h2 := h.il
  rw [List.take_length] at h1 h2
  exact ⟨h1, h2⟩

end St
end Go.Proofs.Ytaaeomapbigfgaa

