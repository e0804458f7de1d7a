/- copy of a row's own elements one place down. It speaks of no program of its own. -/
import Derived.Test.YtaaeomapbigfgaaStDel
import Derived.Test.YtaaeomapbigfgaaVeArr
import Derived.Laws.CopyRow
import Derived.Deep.RegionLaw
namespace Go.Proofs.Ytaaeomapbigfgaa
open Go.RowKit
section
variable {P : Program} {α : Type} {E : Enc α} {w : World} {t : TypeId} {g cap : Nat} {D : List α}
theorem run_copy_rowK (w : World) (dT sT ty elem : TypeId) (g o dLen dCap : Nat) (a : Addr) (sLen sCap : Nat) (cur : Array Value) (t : TypeId) (cs : List Value) {k n : Nat}
    (hu : P.underlying dT = some (.slice elem)) (hs : (P.info? elem).map (·.size) = some k)
    (hg : w.heap[g]? = some (.cells cur t (0, 0))) (hn : n = Nat.min sLen dLen) (hcs : cs.length = n * k)
    (hsrc : ∀ j v, cs[j]? = some v → w.cell? (a.add j) = some v) (hfit : o + cs.length ≤ cur.size) (h1 : ∀ v ∈ cs, v.oneCell' = true) :
    (Builtin.copy_ #[dT, sT] ty #[.slice (some ⟨g, o, none⟩) dLen dCap, .slice (some a) sLen sCap]).run P w =
      .ok (goInt n) (w.setRow g (cur.toList.take o ++ cs ++ cur.toList.drop (o + cs.length)).toArray) := by
  have hl := run_loadCells_list (P := P) w a cs hsrc
  have hst := run_storeCells_at P g o t cs 0 cur w hg (by simpa using hfit) h1
  cases hq : P.info? elem with
  | none => simp [hq] at hs
  | some i =>
    have hi : i.size = k := by simpa [hq] using hs
    rw [hcs] at hl
    simp [Builtin.copy_, run_underlying hu, Builtin.lenOf, Builtin.firstCells, sizeOf, typeInfo, hq, hi, ← hn, hl, hst]
theorem run_copy_erase (h : OwnAt E w t g cap D) (dT sT ty elem : TypeId) (hu : P.underlying dT = some (.slice elem)) (hs : (P.info? elem).map (·.size) = some E.k) {i : Nat} (hi : i + 1 < D.length) (c1 c2 : Nat) :
    ∃ w', (Builtin.copy_ #[dT, sT] ty #[.slice (some ⟨g, i * E.k, none⟩) (D.length - i) c1, .slice (some ⟨g, (i + 1) * E.k, none⟩) (D.length - (i + 1)) c2]).run P w = .ok (goInt ((D.length - (i + 1) : Nat) : Int)) w' ∧
      OwnAt E w' t g cap (D.eraseIdx i) ∧ Kept (· = g) w w' := by
  obtain ⟨cs, h1, h2, h3, h4, h5⟩ := h
  have hf := Enc.Row.flat h5
  have hlen : (E.flat (D.drop (i + 1))).length = (D.length - (i + 1)) * E.k := by rw [E.flat_len, List.length_drop]
  have hmul : D.length * E.k ≤ cap * E.k := Nat.mul_le_mul_right _ h3
  have hsplit : D.length * E.k = (i + 1) * E.k + (D.length - (i + 1)) * E.k := by rw [← Nat.add_mul]; congr 1; omega
  have hi1 : (i + 1) * E.k = i * E.k + E.k := Nat.succ_mul _ _
  refine ⟨_, run_copy_rowK w dT sT ty elem g (i * E.k) (D.length - i) c1 ⟨g, (i + 1) * E.k, none⟩ (D.length - (i + 1)) c2 cs t (E.flat (D.drop (i + 1))) (k := E.k) (n := D.length - (i + 1)) hu hs h1 (by
    rw [show Nat.min (D.length - (i + 1)) (D.length - i) = D.length - (i + 1) from Nat.min_eq_left (by omega)]) hlen (fun j v hv => ?_) (by rw [hlen]; omega) (E.flat_one_cell _), ⟨_, Blk.row h1 _, ?_, ?_, h4, ?_⟩, (Kept.refl (fun x => x = g) w).setRow (g := g) (fun _ => rfl) _⟩
  · have hadd : (⟨g, (i + 1) * E.k, none⟩ : Addr).add j = ⟨g, (i + 1) * E.k + j, none⟩ := by unfold Addr.add; split <;> simp_all
    obtain ⟨i', j', x, hj, hx, hu'⟩ := E.flat_inv hv
    rw [List.getElem?_drop] at hx
    have := h5 (i + 1 + i') x hx j' v hu'
    rw [hadd, h1.cell, hj, show (i + 1) * E.k + (i' * E.k + j') = (i + 1 + i') * E.k + j' by rw [Nat.add_mul (i + 1)]; omega]
    exact this
  · have : cs.toList.length = cap * E.k := by simpa using h2
    simp [hlen]
    omega
  · rw [List.length_eraseIdx]; split <;> omega
  · refine Enc.Row.of_flat ?_
    have hel : (D.eraseIdx i).length = D.length - 1 := by rw [List.length_eraseIdx, if_pos (by omega)]
    have he : D.eraseIdx i = D.take i ++ D.drop (i + 1) := List.eraseIdx_eq_take_drop_succ ..
    have ht : cs.toList.take (i * E.k) = E.flat (D.take i) := by
      have := Enc.Row.flat (Enc.Row.take h5 i)
      rwa [List.length_take, Nat.min_eq_left (by omega)] at this
    rw [hel, he, E.flat_append, ht]
    have hfl : (E.flat (D.take i)).length = i * E.k := by rw [E.flat_len, List.length_take, Nat.min_eq_left (by omega)]
    have hm1 : (D.length - 1) * E.k = i * E.k + (D.length - (i + 1)) * E.k := by rw [← Nat.add_mul]; congr 1; omega
    rw [List.take_append_of_le_length (by simp [hfl, hlen]; omega), List.take_of_length_le (by simp [hfl, hlen]; omega)]
theorem run_copy_noneK (w : World) (dT sT ty elem : TypeId) (d a : Option Addr) (dLen dCap sLen sCap : Nat) {k : Nat} (hu : P.underlying dT = some (.slice elem)) (hs : (P.info? elem).map (·.size) = some k) (hn : Nat.min sLen dLen = 0) :
    (Builtin.copy_ #[dT, sT] ty #[.slice d dLen dCap, .slice a sLen sCap]).run P w = .ok (goInt 0) w := by
  cases hq : P.info? elem with
  | none => simp [hq] at hs
  | some i =>
    have hl : ∀ (x : Addr), (loadCells x 0).run P w = .ok #[] w := fun x => by simpa using run_loadCells_list (P := P) w x [] (by simp)
    cases d <;> cases a <;> simp [Builtin.copy_, run_underlying hu, Builtin.lenOf, Builtin.firstCells, sizeOf, typeInfo, hq, hn, storeCells, hl]
theorem step_copy {ops : Array Oper} {o : Oper} {a : Act} {K : Act → World → Prop} {Q : Exit → Act → World → Prop} {F : Prop} (hgd : o.guard = none) (d s : Operand) (dT sT : TypeId)
    (ho : o.op = .call { callee := .builtin .copy, args := #[d, s], argTypes := #[dT, sT] }) {vd vs n : Value} (hd : a.eval d = vd) (hs : a.eval s = vs) {w' : World} (hrun : (Builtin.copy_ #[dT, sT] o.type #[vd, vs]).run P w = .ok n w') (h : K (a.put o.dst n) w') :
    if Region.wanted o (yielded ops a.tmps) = true then Oper.wp P o a w K Q else F := by
  have hw : Region.wanted o (yielded ops a.tmps) = true := by simp [Region.wanted, hgd]
  rw [if_pos hw]
  unfold Oper.wp
  simp [execOp, ho, resolve, invoke, builtin, hd, hs, hrun, Result.andThen]
  exact h
end
end Go.Proofs.Ytaaeomapbigfgaa

