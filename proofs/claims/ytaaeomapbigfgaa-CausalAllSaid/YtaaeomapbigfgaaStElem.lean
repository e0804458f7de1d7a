/- Elements of several cells, loaded whole and stored whole. They speak of no program of their own. -/
import Derived.Test.YtaaeomapbigfgaaStRow
import Derived.Test.YtaaeomapbigfgaaVeArr
namespace Go.Proofs.Ytaaeomapbigfgaa
open Go.RowKit
section
variable {P : Program} {α : Type} {E : Enc α} {w w' : World}
theorem run_storeCells_at (g : Nat) (t : TypeId) (o : Nat) : ∀ (vs : List Value) (i : Nat) (cur : Array Value) (w : World), w.heap[g]? = some (.cells cur t (0, 0)) → o + i + vs.length ≤ cur.size → (∀ v ∈ vs, v.oneCell' = true) →
    ∃ cur' : Array Value, (storeCells ⟨g, o, none⟩ vs i).run P w = .ok () (w.setRow g cur') ∧ cur'.size = cur.size ∧ (∀ j, j < vs.length → cur'[o + i + j]? = vs[j]?) ∧ (∀ m, (m < o + i ∨ o + i + vs.length ≤ m) → cur'[m]? = cur[m]?)
  | [], i, cur, w, hg, hl, _ => by
    refine ⟨cur, ?_, rfl, fun j hj => by simp at hj, fun _ _ => rfl⟩
    have hv : w.heap[g]? = some (.cells cur t (0, 0)) := hg
    simp only [storeCells]
    show Result.ok () w = _
    congr 1
    unfold World.setRow
    cases w with
    | mk heap tape drawn os output =>
      congr 1
      apply Array.ext
      · simp
      · intro k h1 h2
        simp only [Array.getElem_modify]
        split
        · rename_i hk
          subst hk
          simp only [Array.getElem?_eq_getElem h1, Option.some.injEq] at hv
          rw [hv]
        · rfl
  | v :: rest, i, cur, w, hg, hl, h1 => by
    have hi : o + i < cur.size := by simp at hl; omega
    have hcell : w.cell? ⟨g, o + i, none⟩ = some cur[o + i] := by simp [World.cell?, hg, hi]
    have hfro : w.frozen? ⟨g, o + i, none⟩ = false := by simp [World.frozen?, hg]
    have hst : (store ((⟨g, o, none⟩ : Addr).add i) v).run P w = .ok () (w.setRow g (cur.setIfInBounds (o + i) v)) := by
      rw [Addr.add_lit, run_store P w _ v _ (h1 v (by simp)), hcell]
      simp [hfro, setCell_eq_setRow w g (o + i) cur t (0, 0) v hg]
    obtain ⟨cur', h2, h3, h4, h5⟩ := run_storeCells_at g t o rest (i + 1) (cur.setIfInBounds (o + i) v) (w.setRow g (cur.setIfInBounds (o + i) v)) (setRow_heap w g cur _ t _ hg) (by simp at hl ⊢; omega) (fun x hx => h1 x (by simp [hx]))
    refine ⟨cur', ?_, by rw [h3]; simp, fun j hj => ?_, fun m hm => ?_⟩
    · simp only [storeCells, Sem.run_bind, hst, Result.andThen_ok, h2, setRow_setRow]
    · cases j with
      | zero =>
        rw [Nat.add_zero, h5 (o + i) (.inl (by omega)), Array.getElem?_setIfInBounds_self_of_lt hi]
        rfl
      | succ j =>
        rw [show o + i + (j + 1) = o + (i + 1) + j by omega, h4 j (by simpa using hj)]
        rfl
    · rw [h5 m (by simp at hm; omega), Array.getElem?_setIfInBounds_ne (by simp at hm; omega)]
theorem run_storeVar_elem {t ty : TypeId} {g cap i : Nat} {D : List α} {z : α} (hO : OwnAt E w t g cap D) (hi : i < D.length) (hinfo : (P.info? ty).map (·.size) = some E.k) :
    ∃ w', (storeVar ty ⟨g, i * E.k, none⟩ (.agg (E.enc z).toArray)).run P w = .ok () w' ∧ OwnAt E w' t g cap (D.set i z) ∧ Kept (fun b => b = g) w w' := by
  obtain ⟨cs, h1, h2, h3, h4, h5⟩ := hO
  have hm := Nat.mul_le_mul_right E.k (show i + 1 ≤ cap by omega)
  rw [Nat.add_mul, Nat.one_mul] at hm
  obtain ⟨cur', r1, r2, r3, r4⟩ := run_storeCells_at (P := P) g t (i * E.k) (E.enc z) 0 cs w h1 (by rw [E.len]; omega) (E.one z)
  rw [Nat.add_zero] at r3 r4
  refine ⟨w.setRow g cur', ?_, ⟨cur', Blk.row h1 cur', by omega, by simpa using h3, h4, fun n y hy j u hu => ?_⟩, Kept.setRow (Kept.refl (fun b => b = g) w) (fun _ => rfl) cur'⟩
  · cases hq : P.info? ty with
    | none => simp [hq] at hinfo
    | some q =>
      have hs : (E.enc z).length = q.size := by simp [hq] at hinfo; rw [E.len]; omega
      simp [storeVar, sizeOf, typeInfo, hq, Value.cells, hs, r1]
  · have hj : j < E.k := by rw [← E.len y]; exact (List.getElem?_eq_some_iff.1 hu).1
    by_cases hn : i = n
    · subst hn
      simp [hi] at hy
      subst hy
      rw [r3 j (by rw [E.len]; exact hj)]
      exact hu
    · rw [List.getElem?_set_ne hn] at hy
      have ho : n * E.k + j < i * E.k ∨ i * E.k + (E.enc z).length ≤ n * E.k + j := by
        rw [E.len]
        rcases Nat.lt_or_gt_of_ne hn with h | h
        · right
          have := Nat.mul_le_mul_right E.k (show i + 1 ≤ n by omega)
          rw [Nat.add_mul, Nat.one_mul] at this
          omega
        · left
          have := Nat.mul_le_mul_right E.k (show n + 1 ≤ i by omega)
          rw [Nat.add_mul, Nat.one_mul] at this
          omega
      rw [r4 _ ho]
      exact h5 n y hy j u hu
/-- a struct's value goes into an element -/
theorem wpList_store_elem {ops : Array Oper} {rest : List Oper} {o : Oper} {a : Act} {Q : Exit → Act → World → Prop} (hgd : o.guard = none) (ty : TypeId) (x y : Operand) (ho : o.op = .store ty x y) {t : TypeId} {g cap i : Nat} {D : List α} (z : α)
    (hx : a.eval x = .pointer (some ⟨g, i * E.k, none⟩)) (hy : a.eval y = .agg (E.enc z).toArray) (hO : OwnAt E w t g cap D) (hi : i < D.length) (hinfo : (P.info? ty).map (·.size) = some E.k)
    (h : ∀ w', OwnAt E w' t g cap (D.set i z) → Kept (fun b => b = g) w w' → wpList P ops Q rest (a.put o.dst undef) w') : wpList P ops Q (o :: rest) a w :=
  wpList_plain hgd fun _ hK => by
    obtain ⟨w', r1, r2, r3⟩ := run_storeVar_elem (P := P) (ty := ty) (z := z) hO hi hinfo
    unfold Oper.wp execOp
    simp only [ho, hx, hy, Instr.storeAt, Instr.sureAddr, Sem.run_bind, Sem.run_pure, Result.andThen_ok, r1]
    exact hK _ _ (h w' r2 r3)
theorem run_loadVar_elem {ty : TypeId} {g off : Nat} {z : α} {d : TypeDesc} (hc : ∀ j u, (E.enc z)[j]? = some u → w.cell? ⟨g, off + j, none⟩ = some u) (hu : P.underlying ty = some d) (hd : (match d with | .struct _ | .array _ _ => true | _ => false) = true)
    (hinfo : (P.info? ty).map (·.size) = some E.k) : (loadVar ty ⟨g, off, none⟩).run P w = .ok (.agg (E.enc z).toArray) w := by
  have hl := run_loadCells_list (P := P) w ⟨g, off, none⟩ (E.enc z) (fun j v hv => by rw [Addr.add_lit]; exact hc j v hv)
  rw [E.len] at hl
  cases hq : P.info? ty with
  | none => simp [hq] at hinfo
  | some i =>
    have hs : i.size = E.k := by simpa [hq] using hinfo
    have hagg : (isAgg ty).run P w = .ok true w := by
      unfold isAgg
      rw [Sem.run_bind, run_underlying hu w]
      cases d <;> simp_all
    simp [loadVar, Sem.run_bind, hagg, sizeOf, typeInfo, hq, hs, hl]
/-- an element is loaded whole -/
theorem wpList_load_elem {ops : Array Oper} {rest : List Oper} {o : Oper} {a : Act} {Q : Exit → Act → World → Prop} (hgd : o.guard = none) (ty : TypeId) (x : Operand) (ho : o.op = .load ty x) {t : TypeId} {g cap i : Nat} {D : List α} {z : α} {d : TypeDesc}
    (hx : a.eval x = .pointer (some ⟨g, i * E.k, none⟩)) (hO : OwnAt E w t g cap D) (hz : D[i]? = some z) (hu : P.underlying ty = some d) (hd : (match d with | .struct _ | .array _ _ => true | _ => false) = true) (hinfo : (P.info? ty).map (·.size) = some E.k)
    (h : wpList P ops Q rest (a.put o.dst (.agg (E.enc z).toArray)) w) : wpList P ops Q (o :: rest) a w :=
  wpList_plain hgd fun _ hK => by
    unfold Oper.wp execOp
    simp only [ho, hx, Instr.loadAt, Instr.sureAddr, Sem.run_bind, Sem.run_pure, Result.andThen_ok, run_loadVar_elem (P := P) (E := E) (z := z) (g := g) (off := i * E.k) (fun j u hu => hO.cell hz hu) hu hd hinfo]
    exact hK _ _ h
end
end Go.Proofs.Ytaaeomapbigfgaa
