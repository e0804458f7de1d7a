/- slices.IndexFunc and slices.DeleteFunc of the identifiers that are none, on a row of the call's own. copy of a row's own elements one place down. It speaks of no program of its own. -/
import Derived.Test.YtaaeomapbigfgaaW8
import Derived.Laws.IdiomCopy
import Derived.Shelf.Abstract
import Derived.Test.YtaaeomapbigfgaaW5
import Derived.Laws.CopyRow
import Derived.Deep.RegionLaw
namespace Go.Proofs.Ytaaeomapbigfgaa
open Go.RowKit
section
variable {α : Type} {E : Enc α} {w : World} {t : TypeId} {g cap : Nat} {D : List α}
theorem Blk.setCells : ∀ (vs : List Value) (o : Nat) {w : World} {cs : Array Value}, Blk w g t cs → ∃ cs', Blk (w.setCells g o vs) g t cs' ∧ cs'.size = cs.size ∧ ∀ m, m < o → cs'[m]? = cs[m]?
  | [], o, w, cs, h => ⟨cs, h, rfl, fun _ _ => rfl⟩
  | v :: r, o, w, cs, h => by
    obtain ⟨cs', h1, h2, h3⟩ := Blk.setCells r (o + 1) (h.set_ o v)
    refine ⟨cs', h1, by simpa using h2, fun m hm => ?_⟩
    rw [h3 m (by omega), Array.getElem?_setIfInBounds_ne (by omega)]
theorem Kept.setCells (g : Nat) : ∀ (vs : List Value) (o : Nat) {w0 w : World}, Kept (· = g) w0 w → Kept (· = g) w0 (w.setCells g o vs)
  | [], _, _, _, h => h
  | v :: r, o, _, _, h => Kept.setCells g r (o + 1) (h.setCell (p := ⟨g, o, none⟩) (fun _ => rfl) v)
theorem run_clear_own {P : Program} (h : OwnAt E w t g cap D) {T e : TypeId} (ty : TypeId) (ht : P.underlying T = some (.slice e)) {z : Value} (hv : ∀ w, (zeroValue e).run P w = .ok z w) (hz : z.cells.size = E.k) (hz1 : ∀ u ∈ z.cells.toList, u.oneCell' = true)
    {i n c : Nat} (hn : i + n ≤ cap) : ∃ w', (Builtin.clear_ #[T] ty #[.slice (some ⟨g, i * E.k, none⟩) n c]).run P w = .ok (.tuple #[]) w' ∧ OwnAt E w' t g cap (D.take i) ∧ Kept (· = g) w w' := by
  rcases n with _ | m
  · refine ⟨w, ?_, h.take i, Kept.refl _ _⟩
    simp [Builtin.clear_, run_underlying ht]
  · have hsz : (Builtin.zeroCells z.cells (m + 1)).toList.length = (m + 1) * E.k := by simp [Builtin.zeroCells, hz]
    have hone : ∀ u ∈ (Builtin.zeroCells z.cells (m + 1)).toList, u.oneCell' = true := by
      intro u hu
      simp only [Builtin.zeroCells, Array.toList_map, List.mem_map] at hu
      obtain ⟨k, _, rfl⟩ := hu
      refine hz1 _ ?_
      have hk : k % z.cells.size < z.cells.size := Nat.mod_lt _ (by rw [hz]; exact E.pos)
      rw [getElem!_pos z.cells _ hk]
      exact Array.getElem_mem_toList hk
    have hO := h
    obtain ⟨cs, h1, h2, h3, h4, h5⟩ := h
    have hin : ∀ j, j < (m + 1) * E.k → i * E.k + j < cs.size := fun j hj => by
      have := Nat.mul_le_mul_right E.k hn
      rw [Nat.add_mul] at this
      omega
    have hst := run_storeCells_cells (P := P) g (i * E.k) (Builtin.zeroCells z.cells (m + 1)).toList 0 w (fun j hj => by rw [Nat.add_zero, h1.cell]; simp [hin j (by omega)]) (fun j hj => h1.frozen _) hone
    obtain ⟨cs', g1, g2, g3⟩ := Blk.setCells (Builtin.zeroCells z.cells (m + 1)).toList (i * E.k) h1
    refine ⟨w.setCells g (i * E.k) (Builtin.zeroCells z.cells (m + 1)).toList, ?_, ⟨cs', g1, by omega, by rw [List.length_take]; omega, h4, ?_⟩, Kept.setCells g _ _ (Kept.refl _ _)⟩
    · simp only [Nat.add_zero] at hst
      simp [Builtin.clear_, run_underlying ht, hv, hst]
    · intro a x hx j u hu
      rw [List.getElem?_take] at hx
      split at hx
      · rename_i ha
        have hj : j < E.k := by rw [← E.len x]; exact (List.getElem?_eq_some_iff.1 hu).1
        have := Nat.mul_le_mul_right E.k (show a + 1 ≤ i by omega)
        rw [Nat.add_mul] at this
        rw [g3 _ (by omega)]
        exact h5 a x hx j u hu
      · cases hx
end
namespace St
theorem OwnAt.id {w : World} {t : TypeId} {g cap : Nat} {D : List ID} (h : OwnAt idE w t g cap D) {i : Nat} {x : ID} (hx : D[i]? = some x) :
    w.cell? ⟨g, i * 2, none⟩ = some (.int .i64 x.t) ∧ w.cell? ⟨g, i * 2 + 1, none⟩ = some (.int .i64 x.s) := ⟨h.cell (j := 0) hx rfl, h.cell (j := 1) hx rfl⟩
/-- the place of the first that is none -/
def FirstBad (D : List ID) (i : Int) : Prop := (i = -1 ∧ ∀ x ∈ D, isB x = true) ∨ ∃ k : Nat, i = k ∧ k < D.length ∧ (∀ (j : Nat) x, j < k → D[j]? = some x → isB x = true) ∧ ∀ x, D[k]? = some x → isB x = false

theorem zero_id : ∀ w, (zeroValue 31).run Try.prog w = .ok (.agg #[.int .i64 0, .int .i64 0]) w := fun _ => by kernel_rfl
/-- what DeleteFunc keeps: i written, j looked at -/
structure DelInv (D : List ID) (i j : Nat) (X : List ID) : Prop where
  len : X.length = D.length
  low : X.take i = (D.take j).filter isB
  il : i = ((D.take j).filter isB).length
  lt : i < j
  high : ∀ m, j ≤ m → X[m]? = D[m]?
theorem DelInv.skip {D X : List ID} {i j : Nat} {x : ID} (h : DelInv D i j X) (hx : D[j]? = some x) (hb : isB x = false) : DelInv D i (j + 1) X := by
  have e : (D.take (j + 1)).filter isB = (D.take j).filter isB := by rw [List.take_add_one, hx, List.filter_append]; simp [hb]
  exact ⟨h.len, by rw [e]; exact h.low, by rw [e]; exact h.il, by have := h.lt; omega, fun m hm => h.high m (by omega)⟩
theorem DelInv.keep {D X : List ID} {i j : Nat} {x : ID} (h : DelInv D i j X) (hx : D[j]? = some x) (hb : isB x = true) : DelInv D (i + 1) (j + 1) (X.set i x) := by
  have hj : j < D.length := (List.getElem?_eq_some_iff.1 hx).1
  have hl := h.len
  have hij := h.lt
  have e : (D.take (j + 1)).filter isB = (D.take j).filter isB ++ [x] := by rw [List.take_add_one, hx, List.filter_append]; simp [hb]
  refine ⟨by simpa using hl, ?_, by rw [e, List.length_append, ← h.il]; rfl, by omega, fun m hm => ?_⟩
  · rw [e, ← h.low, List.take_add_one, List.take_set_of_le (Nat.le_refl _), List.getElem?_set_self (by omega)]
    rfl
  · rw [List.getElem?_set_ne (by omega)]
    exact h.high m (by omega)
theorem DelInv.start {D : List ID} {k : Nat} (h1 : ∀ (j : Nat) x, j < k → D[j]? = some x → isB x = true) (h2 : ∀ x, D[k]? = some x → isB x = false) (hk : k < D.length) : DelInv D k (k + 1) D := by
  obtain ⟨x, hx⟩ := get_of_lt hk
  have e0 : (D.take k).filter isB = D.take k := List.filter_eq_self.2 fun y hy => by
    obtain ⟨j, hj⟩ := List.getElem?_of_mem hy
    rw [List.getElem?_take] at hj
    split at hj
    · rename_i hjk; exact h1 j y hjk hj
    · cases hj
  have e : (D.take (k + 1)).filter isB = D.take k := by rw [List.take_add_one, hx, List.filter_append, e0]; simp [h2 x hx]
  exact ⟨rfl, e.symm, by rw [e, List.length_take]; omega, by omega, fun _ _ => rfl⟩
theorem DelInv.done {D X : List ID} {i : Nat} (h : DelInv D i D.length X) : X.take i = D.filter isB ∧ i = (D.filter isB).length := by
  have h1 := h.low
  have h2 := h.il
  rw [List.take_length] at h1 h2
  exact ⟨h1, h2⟩

end St
end Go.Proofs.Ytaaeomapbigfgaa
namespace Go.Proofs.Ytaaeomapbigfgaa
open Go.RowKit
section
variable {P : Program} {α : Type} {E : Enc α} {w : World} {t : TypeId} {g cap : Nat} {D : List α}
theorem run_copy_rowK (w : World) (dT sT ty elem : TypeId) (g o dLen dCap : Nat) (a : Addr) (sLen sCap : Nat) (cur : Array Value) (t : TypeId) (cs : List Value) {k n : Nat}
    (hu : P.underlying dT = some (.slice elem)) (hs : (P.info? elem).map (·.size) = some k)
    (hg : w.heap[g]? = some (.cells cur t (0, 0))) (hn : n = Nat.min sLen dLen) (hcs : cs.length = n * k)
    (hsrc : ∀ j v, cs[j]? = some v → w.cell? (a.add j) = some v) (hfit : o + cs.length ≤ cur.size) (h1 : ∀ v ∈ cs, v.oneCell' = true) :
    (Builtin.copy_ #[dT, sT] ty #[.slice (some ⟨g, o, none⟩) dLen dCap, .slice (some a) sLen sCap]).run P w =
      .ok (goInt n) (w.setRow g (cur.toList.take o ++ cs ++ cur.toList.drop (o + cs.length)).toArray) := by
  have hl := run_loadCells_list (P := P) w a cs hsrc
  have hst := run_storeCells_at P g o t cs 0 cur w hg (by simpa using hfit) h1
  cases hq : P.info? elem with
  | none => simp [hq] at hs
  | some i =>
    have hi : i.size = k := by simpa [hq] using hs
    rw [hcs] at hl
    simp [Builtin.copy_, run_underlying hu, Builtin.lenOf, Builtin.firstCells, sizeOf, typeInfo, hq, hi, ← hn, hl, hst]
theorem run_copy_erase (h : OwnAt E w t g cap D) (dT sT ty elem : TypeId) (hu : P.underlying dT = some (.slice elem)) (hs : (P.info? elem).map (·.size) = some E.k) {i : Nat} (hi : i + 1 < D.length) (c1 c2 : Nat) :
    ∃ w', (Builtin.copy_ #[dT, sT] ty #[.slice (some ⟨g, i * E.k, none⟩) (D.length - i) c1, .slice (some ⟨g, (i + 1) * E.k, none⟩) (D.length - (i + 1)) c2]).run P w = .ok (goInt ((D.length - (i + 1) : Nat) : Int)) w' ∧
      OwnAt E w' t g cap (D.eraseIdx i) ∧ Kept (· = g) w w' := by
  obtain ⟨cs, h1, h2, h3, h4, h5⟩ := h
  have hf := Enc.Row.flat h5
  have hlen : (E.flat (D.drop (i + 1))).length = (D.length - (i + 1)) * E.k := by rw [E.flat_len, List.length_drop]
  have hmul : D.length * E.k ≤ cap * E.k := Nat.mul_le_mul_right _ h3
  have hsplit : D.length * E.k = (i + 1) * E.k + (D.length - (i + 1)) * E.k := by rw [← Nat.add_mul]; congr 1; omega
  have hi1 : (i + 1) * E.k = i * E.k + E.k := Nat.succ_mul _ _
  refine ⟨_, run_copy_rowK w dT sT ty elem g (i * E.k) (D.length - i) c1 ⟨g, (i + 1) * E.k, none⟩ (D.length - (i + 1)) c2 cs t (E.flat (D.drop (i + 1))) (k := E.k) (n := D.length - (i + 1)) hu hs h1 (by
    rw [show Nat.min (D.length - (i + 1)) (D.length - i) = D.length - (i + 1) from Nat.min_eq_left (by omega)]) hlen (fun j v hv => ?_) (by rw [hlen]; omega) (E.flat_one_cell _), ⟨_, Blk.row h1 _, ?_, ?_, h4, ?_⟩, (Kept.refl (fun x => x = g) w).setRow (g := g) (fun _ => rfl) _⟩
  · have hadd : (⟨g, (i + 1) * E.k, none⟩ : Addr).add j = ⟨g, (i + 1) * E.k + j, none⟩ := by unfold Addr.add; split <;> simp_all
    obtain ⟨i', j', x, hj, hx, hu'⟩ := E.flat_inv hv
    rw [List.getElem?_drop] at hx
    have := h5 (i + 1 + i') x hx j' v hu'
    rw [hadd, h1.cell, hj, show (i + 1) * E.k + (i' * E.k + j') = (i + 1 + i') * E.k + j' by rw [Nat.add_mul (i + 1)]; omega]
    exact this
  · have : cs.toList.length = cap * E.k := by simpa using h2
    simp [hlen]
    omega
  · rw [List.length_eraseIdx]; split <;> omega
  · refine Enc.Row.of_flat ?_
    have hel : (D.eraseIdx i).length = D.length - 1 := by rw [List.length_eraseIdx, if_pos (by omega)]
    have he : D.eraseIdx i = D.take i ++ D.drop (i + 1) := List.eraseIdx_eq_take_drop_succ ..
    have ht : cs.toList.take (i * E.k) = E.flat (D.take i) := by
      have := Enc.Row.flat (Enc.Row.take h5 i)
      rwa [List.length_take, Nat.min_eq_left (by omega)] at this
    rw [hel, he, E.flat_append, ht]
    have hfl : (E.flat (D.take i)).length = i * E.k := by rw [E.flat_len, List.length_take, Nat.min_eq_left (by omega)]
    have hm1 : (D.length - 1) * E.k = i * E.k + (D.length - (i + 1)) * E.k := by rw [← Nat.add_mul]; congr 1; omega
    rw [List.take_append_of_le_length (by simp [hfl, hlen]; omega), List.take_of_length_le (by simp [hfl, hlen]; omega)]
theorem run_copy_noneK (w : World) (dT sT ty elem : TypeId) (d a : Option Addr) (dLen dCap sLen sCap : Nat) {k : Nat} (hu : P.underlying dT = some (.slice elem)) (hs : (P.info? elem).map (·.size) = some k) (hn : Nat.min sLen dLen = 0) :
    (Builtin.copy_ #[dT, sT] ty #[.slice d dLen dCap, .slice a sLen sCap]).run P w = .ok (goInt 0) w := by
  cases hq : P.info? elem with
  | none => simp [hq] at hs
  | some i =>
    have hl : ∀ (x : Addr), (loadCells x 0).run P w = .ok #[] w := fun x => by simpa using run_loadCells_list (P := P) w x [] (by simp)
    cases d <;> cases a <;> simp [Builtin.copy_, run_underlying hu, Builtin.lenOf, Builtin.firstCells, sizeOf, typeInfo, hq, hn, storeCells, hl]
theorem step_copy {ops : Array Oper} {o : Oper} {a : Act} {K : Act → World → Prop} {Q : Exit → Act → World → Prop} {F : Prop} (hgd : o.guard = none) (d s : Operand) (dT sT : TypeId)
    (ho : o.op = .call { callee := .builtin .copy, args := #[d, s], argTypes := #[dT, sT] }) {vd vs n : Value} (hd : a.eval d = vd) (hs : a.eval s = vs) {w' : World} (hrun : (Builtin.copy_ #[dT, sT] o.type #[vd, vs]).run P w = .ok n w') (h : K (a.put o.dst n) w') :
    if Region.wanted o (yielded ops a.tmps) = true then Oper.wp P o a w K Q else F := by
  have hw : Region.wanted o (yielded ops a.tmps) = true := by simp [Region.wanted, hgd]
  rw [if_pos hw]
  unfold Oper.wp
  simp [execOp, ho, resolve, invoke, builtin, hd, hs, hrun, Result.andThen]
  exact h
end
end Go.Proofs.Ytaaeomapbigfgaa
