/- copy of a row's own elements one place down. It speaks of no program of its own. slices.Insert of one pointer: what copy and append make of the cells. -/
import Derived.Test.YtlafodnaifghcaaGreatH14
import Derived.Test.YtlafodnaifghcaaGreatH5
import Derived.Laws.CopyRow
import Derived.Deep.RegionLaw
import Derived.Test.YtlafodnaifghcaaGreatH6
import Derived.Lib.AppendZerosOnto
import Derived.Lib.AppendZeros
import Derived.Lib.Overlaps
namespace Go.Proofs.YtlafodnaifghcaaGreat
open Go.RowKit
section
variable {P : Program} {α : Type} {E : Enc α} {w : World} {t : TypeId} {g cap : Nat} {D : List α}
theorem run_copy_rowK (w : World) (dT sT ty elem : TypeId) (g o dLen dCap : Nat) (a : Addr) (sLen sCap : Nat) (cur : Array Value) (t : TypeId) (cs : List Value) {k n : Nat}
    (hu : P.underlying dT = some (.slice elem)) (hs : (P.info? elem).map (·.size) = some k)
    (hg : w.heap[g]? = some (.cells cur t (0, 0))) (hn : n = Nat.min sLen dLen) (hcs : cs.length = n * k)
    (hsrc : ∀ j v, cs[j]? = some v → w.cell? (a.add j) = some v) (hfit : o + cs.length ≤ cur.size) (h1 : ∀ v ∈ cs, v.oneCell' = true) :
    (Builtin.copy_ #[dT, sT] ty #[.slice (some ⟨g, o, none⟩) dLen dCap, .slice (some a) sLen sCap]).run P w =
      .ok (goInt n) (w.setRow g (cur.toList.take o ++ cs ++ cur.toList.drop (o + cs.length)).toArray) := by
  have hl := run_loadCells_list (P := P) w a cs hsrc
  have hst := run_storeCells_at P g o t cs 0 cur w hg (by simpa using hfit) h1
  cases hq : P.info? elem with
  | none => simp [hq] at hs
  | some i =>
    have hi : i.size = k := by simpa [hq] using hs
    rw [hcs] at hl
    simp [Builtin.copy_, run_underlying hu, Builtin.lenOf, Builtin.firstCells, sizeOf, typeInfo, hq, hi, ← hn, hl, hst]
theorem run_copy_erase (h : OwnAt E w t g cap D) (dT sT ty elem : TypeId) (hu : P.underlying dT = some (.slice elem)) (hs : (P.info? elem).map (·.size) = some E.k) {i : Nat} (hi : i + 1 < D.length) (c1 c2 : Nat) :
    ∃ w', (Builtin.copy_ #[dT, sT] ty #[.slice (some ⟨g, i * E.k, none⟩) (D.length - i) c1, .slice (some ⟨g, (i + 1) * E.k, none⟩) (D.length - (i + 1)) c2]).run P w = .ok (goInt ((D.length - (i + 1) : Nat) : Int)) w' ∧
      OwnAt E w' t g cap (D.eraseIdx i) ∧ Kept (· = g) w w' := by
  obtain ⟨cs, h1, h2, h3, h4, h5⟩ := h
  have hf := Enc.Row.flat h5
  have hlen : (E.flat (D.drop (i + 1))).length = (D.length - (i + 1)) * E.k := by rw [E.flat_len, List.length_drop]
  have hmul : D.length * E.k ≤ cap * E.k := Nat.mul_le_mul_right _ h3
  have hsplit : D.length * E.k = (i + 1) * E.k + (D.length - (i + 1)) * E.k := by rw [← Nat.add_mul]; congr 1; omega
  have hi1 : (i + 1) * E.k = i * E.k + E.k := Nat.succ_mul _ _
  refine ⟨_, run_copy_rowK w dT sT ty elem g (i * E.k) (D.length - i) c1 ⟨g, (i + 1) * E.k, none⟩ (D.length - (i + 1)) c2 cs t (E.flat (D.drop (i + 1))) (k := E.k) (n := D.length - (i + 1)) hu hs h1 (by
    rw [show Nat.min (D.length - (i + 1)) (D.length - i) = D.length - (i + 1) from Nat.min_eq_left (by omega)]) hlen (fun j v hv => ?_) (by rw [hlen]; omega) (E.flat_one_cell _), ⟨_, Blk.row h1 _, ?_, ?_, h4, ?_⟩, (Kept.refl (fun x => x = g) w).setRow (g := g) (fun _ => rfl) _⟩
  · have hadd : (⟨g, (i + 1) * E.k, none⟩ : Addr).add j = ⟨g, (i + 1) * E.k + j, none⟩ := by unfold Addr.add; split <;> simp_all
    obtain ⟨i', j', x, hj, hx, hu'⟩ := E.flat_inv hv
    rw [List.getElem?_drop] at hx
    have := h5 (i + 1 + i') x hx j' v hu'
    rw [hadd, h1.cell, hj, show (i + 1) * E.k + (i' * E.k + j') = (i + 1 + i') * E.k + j' by rw [Nat.add_mul (i + 1)]; omega]
    exact this
  · have : cs.toList.length = cap * E.k := by simpa using h2
    simp [hlen]
    omega
  · rw [List.length_eraseIdx]; split <;> omega
  · refine Enc.Row.of_flat ?_
    have hel : (D.eraseIdx i).length = D.length - 1 := by rw [List.length_eraseIdx, if_pos (by omega)]
    have he : D.eraseIdx i = D.take i ++ D.drop (i + 1) := List.eraseIdx_eq_take_drop_succ ..
    have ht : cs.toList.take (i * E.k) = E.flat (D.take i) := by
      have := Enc.Row.flat (Enc.Row.take h5 i)
      rwa [List.length_take, Nat.min_eq_left (by omega)] at this
    rw [hel, he, E.flat_append, ht]
    have hfl : (E.flat (D.take i)).length = i * E.k := by rw [E.flat_len, List.length_take, Nat.min_eq_left (by omega)]
    have hm1 : (D.length - 1) * E.k = i * E.k + (D.length - (i + 1)) * E.k := by rw [← Nat.add_mul]; congr 1; omega
    rw [List.take_append_of_le_length (by simp [hfl, hlen]; omega), List.take_of_length_le (by simp [hfl, hlen]; omega)]
theorem run_copy_noneK (w : World) (dT sT ty elem : TypeId) (d a : Option Addr) (dLen dCap sLen sCap : Nat) {k : Nat} (hu : P.underlying dT = some (.slice elem)) (hs : (P.info? elem).map (·.size) = some k) (hn : Nat.min sLen dLen = 0) :
    (Builtin.copy_ #[dT, sT] ty #[.slice d dLen dCap, .slice a sLen sCap]).run P w = .ok (goInt 0) w := by
  cases hq : P.info? elem with
  | none => simp [hq] at hs
  | some i =>
    have hl : ∀ (x : Addr), (loadCells x 0).run P w = .ok #[] w := fun x => by simpa using run_loadCells_list (P := P) w x [] (by simp)
    cases d <;> cases a <;> simp [Builtin.copy_, run_underlying hu, Builtin.lenOf, Builtin.firstCells, sizeOf, typeInfo, hq, hn, storeCells, hl]
theorem step_copy {ops : Array Oper} {o : Oper} {a : Act} {K : Act → World → Prop} {Q : Exit → Act → World → Prop} {F : Prop} (hgd : o.guard = none) (d s : Operand) (dT sT : TypeId)
    (ho : o.op = .call { callee := .builtin .copy, args := #[d, s], argTypes := #[dT, sT] }) {vd vs n : Value} (hd : a.eval d = vd) (hs : a.eval s = vs) {w' : World} (hrun : (Builtin.copy_ #[dT, sT] o.type #[vd, vs]).run P w = .ok n w') (h : K (a.put o.dst n) w') :
    if Region.wanted o (yielded ops a.tmps) = true then Oper.wp P o a w K Q else F := by
  have hw : Region.wanted o (yielded ops a.tmps) = true := by simp [Region.wanted, hgd]
  rw [if_pos hw]
  unfold Oper.wp
  simp [execOp, ho, resolve, invoke, builtin, hd, hs, hrun, Result.andThen]
  exact h
end
end Go.Proofs.YtlafodnaifghcaaGreat
namespace Go.Proofs.YtlafodnaifghcaaGreat.Tr
open Go.RowKit Go.Proofs.YtlafodnaifghcaaGreat.St
theorem size_ptr : (Tryz.prog.info? 89).map (·.size) = some 1 := by kernel_rfl
theorem info_ptr : (Tryz.prog.info? 89).map (fun i => (i.zero, i.size, i.bytes)) = some (some (.pointer none), 1, 8) := by kernel_rfl
/-- a row of pointers as an array: D ahead -/
theorem own_cur {w : World} {t : TypeId} {g cap : Nat} {D : List Nat} (h : OwnAt ptrE w t g cap D) : ∃ cur, Blk w g t cur ∧ cur.size = cap ∧ D.length ≤ cap ∧ cap ≤ maxLen ∧ cur.toList.take D.length = ptrE.flat D := by
  obtain ⟨cs, h1, h2, h3, h4, h5⟩ := h
  have hf := Enc.Row.flat h5
  have hk : ptrE.k = 1 := rfl
  rw [hk, Nat.mul_one] at hf h2
  exact ⟨cs, h1, h2, h3, h4, hf⟩
theorem cur_own {w : World} {t : TypeId} {g cap : Nat} {D : List Nat} {cur : Array Value} (h1 : Blk w g t cur) (h2 : cur.size = cap) (h3 : D.length ≤ cap) (h4 : cap ≤ maxLen) (h5 : cur.toList.take D.length = ptrE.flat D) : OwnAt ptrE w t g cap D :=
  ⟨cur, h1, by rw [h2]; show cap = cap * 1; omega, h3, h4, Enc.Row.of_flat (by rw [show ptrE.k = 1 from rfl, Nat.mul_one]; exact h5)⟩
theorem flat_ptr (D : List Nat) : ptrE.flat D = D.map fun b => Value.pointer (some ⟨b, 0, none⟩) := by
  induction D with
  | nil => rfl
  | cons d D ih => show _ :: ptrE.flat D = _ :: _; rw [ih]
theorem flat_ptr_len (D : List Nat) : (ptrE.flat D).length = D.length := by rw [flat_ptr, List.length_map]
theorem add_j (b o j : Nat) : (⟨b, o, none⟩ : Addr).add j = ⟨b, o + j, none⟩ := by unfold Addr.add; split <;> simp_all
/-- there is room: what stands from i on is moved up by one -/
theorem ins_up {w : World} {g c n i : Nat} {D : List Nat} (h : OwnAt ptrE w 89 g c D) (hn : D.length = n) (hi : i < n) (hc : n + 1 ≤ c) (c1 c2 : Nat) (ty : TypeId) :
    ∃ w' cur, (Builtin.copy_ #[27, 27] ty #[.slice (some ⟨g, i + 1, none⟩) (n + 1 - (i + 1)) c1, .slice (some ⟨g, i, none⟩) (n + 1 - i) c2]).run Tryz.prog w = .ok (goInt ((n - i : Nat) : Int)) w' ∧
      Blk w' g 89 cur ∧ cur.size = c ∧ c ≤ maxLen ∧ cur.toList.take i = ptrE.flat (D.take i) ∧ (cur.toList.drop (i + 1)).take (n - i) = ptrE.flat (D.drop i) ∧ Kept (· = g) w w' := by
  obtain ⟨cur, h1, h2, h3, h4, h5⟩ := own_cur h
  have hl : (ptrE.flat (D.drop i)).length = n - i := by rw [flat_ptr_len, List.length_drop, hn]
  have hcl : cur.toList.length = c := by simpa using h2
  refine ⟨_, _, run_copy_rowK w _ _ ty 89 g (i + 1) (n + 1 - (i + 1)) c1 ⟨g, i, none⟩ (n + 1 - i) c2 cur 89 (ptrE.flat (D.drop i)) (k := 1) (n := n - i) Tryz.underlying27 size_ptr h1 (by
    rw [show Nat.min (n + 1 - i) (n + 1 - (i + 1)) = n + 1 - (i + 1) from Nat.min_eq_right (by omega)]; omega) (by rw [hl]; omega) (fun j v hv => ?_) (by rw [hl]; omega) (ptrE.flat_one_cell _), Blk.row h1 _, ?_, h4, ?_, ?_, (Kept.refl (fun x => x = g) w).setRow (g := g) (fun _ => rfl) _⟩
  · rw [add_j]
    have hv2 : (ptrE.flat D)[i + j]? = some v := by rw [flat_ptr] at hv ⊢; rw [List.map_drop, List.getElem?_drop] at hv; exact hv
    rw [← h5, List.getElem?_take] at hv2
    split at hv2
    · exact h1.cell' (by simpa using hv2)
    · cases hv2
  · simp [hl]; omega
  · have e : cur.toList.take (i + 1) = cur.toList.take i ++ (cur.toList.drop i).take 1 := by rw [← List.take_add]
    simp only
    rw [e, List.append_assoc, List.append_assoc, List.take_append_of_le_length (by simp; omega), List.take_take, Nat.min_self]
    have := congrArg (List.take i) h5
    rw [List.take_take, Nat.min_eq_left (by omega)] at this
    rw [this, flat_ptr, flat_ptr, List.map_take]
  · simp only
    rw [List.append_assoc, List.drop_append_of_le_length (by simp; omega), List.drop_of_length_le (by simp; omega), List.nil_append, List.take_append_of_le_length (by omega), List.take_of_length_le (by omega)]
/-- and the new one laid -/
theorem ins_at {w : World} {g c n i x lb : Nat} {D : List Nat} {cur : Array Value} (hb : Blk w g 89 cur) (h2 : cur.size = c) (hm : c ≤ maxLen) (hn : D.length = n) (hi : i < n) (hc : n + 1 ≤ c) (ha : cur.toList.take i = ptrE.flat (D.take i)) (hd : (cur.toList.drop (i + 1)).take (n - i) = ptrE.flat (D.drop i))
    (hx : w.cell? ⟨lb, 0, none⟩ = some (.pointer (some ⟨x, 0, none⟩))) (c1 c2 : Nat) (ty : TypeId) :
    ∃ w', (Builtin.copy_ #[27, 27] ty #[.slice (some ⟨g, i, none⟩) (n + 1 - i) c1, .slice (some ⟨lb, 0, none⟩) 1 c2]).run Tryz.prog w = .ok (goInt ((1 : Nat) : Int)) w' ∧
      OwnAt ptrE w' 89 g c (D.take i ++ x :: D.drop i) ∧ Kept (· = g) w w' := by
  have hcl : cur.toList.length = c := by simpa using h2
  refine ⟨_, run_copy_rowK w _ _ ty 89 g i (n + 1 - i) c1 ⟨lb, 0, none⟩ 1 c2 cur 89 [.pointer (some ⟨x, 0, none⟩)] (k := 1) (n := 1) Tryz.underlying27 size_ptr hb (by
    rw [show Nat.min 1 (n + 1 - i) = 1 from Nat.min_eq_left (by omega)]) rfl (fun j v hv => ?_) (by simp; omega) (fun v hv => by rw [List.mem_singleton.1 hv]; rfl), cur_own (Blk.row hb _) (by simp; omega) (by simp; omega) hm ?_, (Kept.refl (fun x => x = g) w).setRow (g := g) (fun _ => rfl) _⟩
  · cases j with
    | zero => rw [add_j]; simp at hv; rw [← hv]; exact hx
    | succ j => simp at hv
  · have hti : (cur.toList.take i).length = i := by simp; omega
    have hlen : (D.take i ++ x :: D.drop i).length = i + (1 + (n - i)) := by simp; omega
    simp only [List.length_singleton]
    rw [hlen, List.append_assoc, List.take_append, hti, List.take_of_length_le (by omega), show i + (1 + (n - i)) - i = 1 + (n - i) by omega]
    rw [show ([Value.pointer (some ⟨x, 0, none⟩)] ++ cur.toList.drop (i + 1)).take (1 + (n - i)) = .pointer (some ⟨x, 0, none⟩) :: (cur.toList.drop (i + 1)).take (n - i) by rw [Nat.add_comm]; rfl, hd, ha, ptrE.flat_append]
    rfl
/-- the new one laid behind the first i -/
theorem ins_lay1 {w : World} {g c n i x lb : Nat} {D : List Nat} {cur : Array Value} (hb : Blk w g 89 cur) (h2 : cur.size = c) (_hn : D.length = n) (hi : i < n) (hc : n + 1 ≤ c) (ha : cur.toList.take i = ptrE.flat (D.take i))
    (hx : w.cell? ⟨lb, 0, none⟩ = some (.pointer (some ⟨x, 0, none⟩))) (c1 c2 : Nat) (ty : TypeId) :
    ∃ w' cur', (Builtin.copy_ #[27, 27] ty #[.slice (some ⟨g, i, none⟩) (n + 1 - i) c1, .slice (some ⟨lb, 0, none⟩) 1 c2]).run Tryz.prog w = .ok (goInt ((1 : Nat) : Int)) w' ∧
      Blk w' g 89 cur' ∧ cur'.size = c ∧ cur'.toList.take (i + 1) = ptrE.flat (D.take i ++ [x]) ∧ Kept (· = g) w w' := by
  have hcl : cur.toList.length = c := by simpa using h2
  refine ⟨_, _, run_copy_rowK w _ _ ty 89 g i (n + 1 - i) c1 ⟨lb, 0, none⟩ 1 c2 cur 89 [.pointer (some ⟨x, 0, none⟩)] (k := 1) (n := 1) Tryz.underlying27 size_ptr hb (by
    rw [show Nat.min 1 (n + 1 - i) = 1 from Nat.min_eq_left (by omega)]) rfl (fun j v hv => ?_) (by simp; omega) (fun v hv => by rw [List.mem_singleton.1 hv]; rfl), Blk.row hb _, by simp; omega, ?_, (Kept.refl (fun x => x = g) w).setRow (g := g) (fun _ => rfl) _⟩
  · cases j with
    | zero => rw [add_j]; simp at hv; rw [← hv]; exact hx
    | succ j => simp at hv
  · have hti : (cur.toList.take i).length = i := by simp; omega
    simp only [List.length_singleton]
    rw [List.append_assoc, List.take_append, hti, List.take_of_length_le (by omega), show i + 1 - i = 1 by omega, ha, ptrE.flat_append]
    rfl
/-- and the rest behind it -/
theorem ins_lay2 {w : World} {g c n i x gs cs : Nat} {D : List Nat} {cur : Array Value} (hb : Blk w g 89 cur) (h2 : cur.size = c) (hm : c ≤ maxLen) (hn : D.length = n) (hi : i < n) (hc : n + 1 ≤ c) (ha : cur.toList.take (i + 1) = ptrE.flat (D.take i ++ [x]))
    (hs : OwnAt ptrE w 89 gs cs D) (c1 c2 : Nat) (ty : TypeId) :
    ∃ w', (Builtin.copy_ #[27, 27] ty #[.slice (some ⟨g, i + 1, none⟩) (n - i) c1, .slice (some ⟨gs, i, none⟩) (n - i) c2]).run Tryz.prog w = .ok (goInt ((n - i : Nat) : Int)) w' ∧
      OwnAt ptrE w' 89 g c (D.take i ++ x :: D.drop i) ∧ Kept (· = g) w w' := by
  have hcl : cur.toList.length = c := by simpa using h2
  obtain ⟨cu, h1, h3, h4, h5, h6⟩ := own_cur hs
  have hl : (ptrE.flat (D.drop i)).length = n - i := by rw [flat_ptr_len, List.length_drop, hn]
  refine ⟨_, run_copy_rowK w _ _ ty 89 g (i + 1) (n - i) c1 ⟨gs, i, none⟩ (n - i) c2 cur 89 (ptrE.flat (D.drop i)) (k := 1) (n := n - i) Tryz.underlying27 size_ptr hb (by
    rw [show Nat.min (n - i) (n - i) = n - i from Nat.min_self _]) (by rw [hl]; omega) (fun j v hv => ?_) (by rw [hl]; omega) (ptrE.flat_one_cell _), cur_own (Blk.row hb _) (by simp [hl]; omega) (by simp; omega) hm ?_, (Kept.refl (fun x => x = g) w).setRow (g := g) (fun _ => rfl) _⟩
  · rw [add_j]
    have hv2 : (ptrE.flat D)[i + j]? = some v := by rw [flat_ptr] at hv ⊢; rw [List.map_drop, List.getElem?_drop] at hv; exact hv
    rw [← h6, List.getElem?_take] at hv2
    split at hv2
    · exact h1.cell' (by simpa using hv2)
    · cases hv2
  · have hti : (cur.toList.take (i + 1)).length = i + 1 := by simp; omega
    have hlen : (D.take i ++ x :: D.drop i).length = i + 1 + (n - i) := by simp; omega
    simp only
    rw [hlen, List.append_assoc, List.take_append, hti, List.take_of_length_le (l := cur.toList.take (i + 1)) (by omega), show i + 1 + (n - i) - (i + 1) = n - i by omega, List.take_append_of_le_length (by omega), List.take_of_length_le (l := ptrE.flat (D.drop i)) (by omega), ha, show D.take i ++ x :: D.drop i = (D.take i ++ [x]) ++ D.drop i by simp, ptrE.flat_append (D.take i ++ [x])]
/-- there is no room: a new row of the first i and zeros -/
theorem ins_zeros {w : World} {g c n i : Nat} {D : List Nat} (h : OwnAt ptrE w 89 g c D) (hn : D.length = n) (hi : i < n) (hc : c < n + 1) (h63 : n ≤ 1000000) (ty : TypeId) :
    ∃ w' cap cur, (Builtin.append_ #[27, 3] ty #[.slice (some ⟨g, 0, none⟩) i c, .int .i64 ((n : Int) + 1 - i)]).run Tryz.prog w = .ok (.slice (some ⟨w.heap.size, 0, none⟩) (n + 1) cap) w' ∧
      Blk w' w.heap.size 89 cur ∧ cur.size = cap ∧ n + 1 ≤ cap ∧ cap ≤ maxLen ∧ cur.toList.take i = ptrE.flat (D.take i) ∧ Kept (fun _ => False) w w' ∧ w'.heap.size = w.heap.size + 1 := by
  obtain ⟨cur, h1, h2, h3, h4, h5⟩ := own_cur h
  have hcn : c = n := by omega
  obtain ⟨inf, hinf, hz, hsize, hby⟩ := info_parts info_ptr
  have hcl : cur.toList.length = c := by simpa using h2
  have hold : (Builtin.firstCells inf.size i (.slice (some ⟨g, 0, none⟩) i c)).run Tryz.prog w.drew = .ok (ptrE.flat (D.take i)).toArray w.drew := by
    rw [hsize]
    have hl := run_loadCells_list (P := Tryz.prog) w.drew ⟨g, 0, none⟩ (ptrE.flat (D.take i)) (fun j v hv => by
      rw [add_j, Nat.zero_add]
      have hb : Blk w.drew g 89 cur := h1
      refine hb.cell' ?_
      have h6 := congrArg (List.take i) h5
      rw [List.take_take, Nat.min_eq_left (by omega), flat_ptr, ← List.map_take, ← flat_ptr] at h6
      rw [← h6, List.getElem?_take] at hv
      split at hv
      · simpa using hv
      · cases hv)
    rw [flat_ptr_len, List.length_take, Nat.min_eq_left (by omega)] at hl
    simp [Builtin.firstCells, hl]
  have hcap := nextslicecap_le (old := c) (need := n + 1) (by omega)
  have hfit : Builtin.nextslicecap (i + (n + 1 - i)) c * inf.bytes ≤ 281474976710656 := by
    rw [hby, show i + (n + 1 - i) = n + 1 by omega]
    have : Builtin.nextslicecap (n + 1) c * 8 ≤ 4000000 * 8 := Nat.mul_le_mul_right _ (by omega)
    omega
  have hrun := Lib.run_append_grow_zeros (P := Tryz.prog) w 27 3 ty 89 inf (.pointer none) .i64 .i64 Tryz.underlying27 Tryz.underlying3 hinf hz (some ⟨g, 0, none⟩) i c (ptrE.flat (D.take i)) hold (n + 1 - i) (by omega) (by omega) (by omega) (by omega) (by rw [hby]; omega) hfit
  rw [show i + (n + 1 - i) = n + 1 by omega, show ((n + 1 - i : Nat) : Int) = (n : Int) + 1 - i by omega] at hrun
  have hG1 := grownCap_ge w (n + 1) c 89
  have hG2 := grownCap_le_maxLen w (n + 1) c 89 (by unfold maxLen; omega)
  have hfl : (ptrE.flat (D.take i)).length = i := by rw [flat_ptr_len, List.length_take, Nat.min_eq_left (by omega)]
  have hzc : ∀ k, (Builtin.zeroCells (Value.cells (.pointer none)) k).size = k := fun k => by simp [Builtin.zeroCells, Value.cells]
  refine ⟨_, _, _, hrun, Blk.new _ _ _, ?_, hG1, hG2, ?_, ((Kept.refl _ _).drew).alloc _, by simp⟩
  · simp [hfl, hzc]; omega
  · simp only [Array.toList_append]
    rw [List.append_assoc, List.take_append_of_le_length (by omega), List.take_of_length_le (by omega)]
end Go.Proofs.YtlafodnaifghcaaGreat.Tr
