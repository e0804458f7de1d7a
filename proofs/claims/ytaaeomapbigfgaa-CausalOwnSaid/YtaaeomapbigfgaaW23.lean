/- Elements of several cells, loaded whole and stored whole. They speak of no program of their own. Steps in memory; hearsaylaw13.big and much. -/
import Derived.Test.YtaaeomapbigfgaaW4
import Derived.Test.YtaaeomapbigfgaaW5
import Derived.Test.YtaaeomapbigfgaaW11
namespace Go.Proofs.Ytaaeomapbigfgaa
open Go.RowKit
section
variable {P : Program} {α : Type} {E : Enc α} {w w' : World}
theorem run_storeCells_at (g : Nat) (t : TypeId) (o : Nat) : ∀ (vs : List Value) (i : Nat) (cur : Array Value) (w : World), w.heap[g]? = some (.cells cur t (0, 0)) → o + i + vs.length ≤ cur.size → (∀ v ∈ vs, v.oneCell' = true) →
    ∃ cur' : Array Value, (storeCells ⟨g, o, none⟩ vs i).run P w = .ok () (w.setRow g cur') ∧ cur'.size = cur.size ∧ (∀ j, j < vs.length → cur'[o + i + j]? = vs[j]?) ∧ (∀ m, (m < o + i ∨ o + i + vs.length ≤ m) → cur'[m]? = cur[m]?)
  | [], i, cur, w, hg, hl, _ => by
    refine ⟨cur, ?_, rfl, fun j hj => by simp at hj, fun _ _ => rfl⟩
    have hv : w.heap[g]? = some (.cells cur t (0, 0)) := hg
    simp only [storeCells]
    show Result.ok () w = _
    congr 1
    unfold World.setRow
    cases w with
    | mk heap tape drawn os output =>
      congr 1
      apply Array.ext
      · simp
      · intro k h1 h2
        simp only [Array.getElem_modify]
        split
        · rename_i hk
          subst hk
          simp only [Array.getElem?_eq_getElem h1, Option.some.injEq] at hv
          rw [hv]
        · rfl
  | v :: rest, i, cur, w, hg, hl, h1 => by
    have hi : o + i < cur.size := by simp at hl; omega
    have hcell : w.cell? ⟨g, o + i, none⟩ = some cur[o + i] := by simp [World.cell?, hg, hi]
    have hfro : w.frozen? ⟨g, o + i, none⟩ = false := by simp [World.frozen?, hg]
    have hst : (store ((⟨g, o, none⟩ : Addr).add i) v).run P w = .ok () (w.setRow g (cur.setIfInBounds (o + i) v)) := by
      rw [Addr.add_lit, run_store P w _ v _ (h1 v (by simp)), hcell]
      simp [hfro, setCell_eq_setRow w g (o + i) cur t (0, 0) v hg]
    obtain ⟨cur', h2, h3, h4, h5⟩ := run_storeCells_at g t o rest (i + 1) (cur.setIfInBounds (o + i) v) (w.setRow g (cur.setIfInBounds (o + i) v)) (setRow_heap w g cur _ t _ hg) (by simp at hl ⊢; omega) (fun x hx => h1 x (by simp [hx]))
    refine ⟨cur', ?_, by rw [h3]; simp, fun j hj => ?_, fun m hm => ?_⟩
    · simp only [storeCells, Sem.run_bind, hst, Result.andThen_ok, h2, setRow_setRow]
    · cases j with
      | zero =>
        rw [Nat.add_zero, h5 (o + i) (.inl (by omega)), Array.getElem?_setIfInBounds_self_of_lt hi]
        rfl
      | succ j =>
        rw [show o + i + (j + 1) = o + (i + 1) + j by omega, h4 j (by simpa using hj)]
        rfl
    · rw [h5 m (by simp at hm; omega), Array.getElem?_setIfInBounds_ne (by simp at hm; omega)]
theorem run_storeVar_elem {t ty : TypeId} {g cap i : Nat} {D : List α} {z : α} (hO : OwnAt E w t g cap D) (hi : i < D.length) (hinfo : (P.info? ty).map (·.size) = some E.k) :
    ∃ w', (storeVar ty ⟨g, i * E.k, none⟩ (.agg (E.enc z).toArray)).run P w = .ok () w' ∧ OwnAt E w' t g cap (D.set i z) ∧ Kept (fun b => b = g) w w' := by
  obtain ⟨cs, h1, h2, h3, h4, h5⟩ := hO
  have hm := Nat.mul_le_mul_right E.k (show i + 1 ≤ cap by omega)
  rw [Nat.add_mul, Nat.one_mul] at hm
  obtain ⟨cur', r1, r2, r3, r4⟩ := run_storeCells_at (P := P) g t (i * E.k) (E.enc z) 0 cs w h1 (by rw [E.len]; omega) (E.one z)
  rw [Nat.add_zero] at r3 r4
  refine ⟨w.setRow g cur', ?_, ⟨cur', Blk.row h1 cur', by omega, by simpa using h3, h4, fun n y hy j u hu => ?_⟩, Kept.setRow (Kept.refl (fun b => b = g) w) (fun _ => rfl) cur'⟩
  · cases hq : P.info? ty with
    | none => simp [hq] at hinfo
    | some q =>
      have hs : (E.enc z).length = q.size := by simp [hq] at hinfo; rw [E.len]; omega
      simp [storeVar, sizeOf, typeInfo, hq, Value.cells, hs, r1]
  · have hj : j < E.k := by rw [← E.len y]; exact (List.getElem?_eq_some_iff.1 hu).1
    by_cases hn : i = n
    · subst hn
      simp [hi] at hy
      subst hy
      rw [r3 j (by rw [E.len]; exact hj)]
      exact hu
    · rw [List.getElem?_set_ne hn] at hy
      have ho : n * E.k + j < i * E.k ∨ i * E.k + (E.enc z).length ≤ n * E.k + j := by
        rw [E.len]
        rcases Nat.lt_or_gt_of_ne hn with h | h
        · right
          have := Nat.mul_le_mul_right E.k (show i + 1 ≤ n by omega)
          rw [Nat.add_mul, Nat.one_mul] at this
          omega
        · left
          have := Nat.mul_le_mul_right E.k (show n + 1 ≤ i by omega)
          rw [Nat.add_mul, Nat.one_mul] at this
          omega
      rw [r4 _ ho]
      exact h5 n y hy j u hu
/-- a struct's value goes into an element -/
theorem wpList_store_elem {ops : Array Oper} {rest : List Oper} {o : Oper} {a : Act} {Q : Exit → Act → World → Prop} (hgd : o.guard = none) (ty : TypeId) (x y : Operand) (ho : o.op = .store ty x y) {t : TypeId} {g cap i : Nat} {D : List α} (z : α)
    (hx : a.eval x = .pointer (some ⟨g, i * E.k, none⟩)) (hy : a.eval y = .agg (E.enc z).toArray) (hO : OwnAt E w t g cap D) (hi : i < D.length) (hinfo : (P.info? ty).map (·.size) = some E.k)
    (h : ∀ w', OwnAt E w' t g cap (D.set i z) → Kept (fun b => b = g) w w' → wpList P ops Q rest (a.put o.dst undef) w') : wpList P ops Q (o :: rest) a w :=
  wpList_plain hgd fun _ hK => by
    obtain ⟨w', r1, r2, r3⟩ := run_storeVar_elem (P := P) (ty := ty) (z := z) hO hi hinfo
    unfold Oper.wp execOp
    simp only [ho, hx, hy, Instr.storeAt, Instr.sureAddr, Sem.run_bind, Sem.run_pure, Result.andThen_ok, r1]
    exact hK _ _ (h w' r2 r3)
theorem run_loadVar_elem {ty : TypeId} {g off : Nat} {z : α} {d : TypeDesc} (hc : ∀ j u, (E.enc z)[j]? = some u → w.cell? ⟨g, off + j, none⟩ = some u) (hu : P.underlying ty = some d) (hd : (match d with | .struct _ | .array _ _ => true | _ => false) = true)
    (hinfo : (P.info? ty).map (·.size) = some E.k) : (loadVar ty ⟨g, off, none⟩).run P w = .ok (.agg (E.enc z).toArray) w := by
  have hl := run_loadCells_list (P := P) w ⟨g, off, none⟩ (E.enc z) (fun j v hv => by rw [Addr.add_lit]; exact hc j v hv)
  rw [E.len] at hl
  cases hq : P.info? ty with
  | none => simp [hq] at hinfo
  | some i =>
    have hs : i.size = E.k := by simpa [hq] using hinfo
    have hagg : (isAgg ty).run P w = .ok true w := by
      unfold isAgg
      rw [Sem.run_bind, run_underlying hu w]
      cases d <;> simp_all
    simp [loadVar, Sem.run_bind, hagg, sizeOf, typeInfo, hq, hs, hl]
/-- an element is loaded whole -/
theorem wpList_load_elem {ops : Array Oper} {rest : List Oper} {o : Oper} {a : Act} {Q : Exit → Act → World → Prop} (hgd : o.guard = none) (ty : TypeId) (x : Operand) (ho : o.op = .load ty x) {t : TypeId} {g cap i : Nat} {D : List α} {z : α} {d : TypeDesc}
    (hx : a.eval x = .pointer (some ⟨g, i * E.k, none⟩)) (hO : OwnAt E w t g cap D) (hz : D[i]? = some z) (hu : P.underlying ty = some d) (hd : (match d with | .struct _ | .array _ _ => true | _ => false) = true) (hinfo : (P.info? ty).map (·.size) = some E.k)
    (h : wpList P ops Q rest (a.put o.dst (.agg (E.enc z).toArray)) w) : wpList P ops Q (o :: rest) a w :=
  wpList_plain hgd fun _ hK => by
    unfold Oper.wp execOp
    simp only [ho, hx, Instr.loadAt, Instr.sureAddr, Sem.run_bind, Sem.run_pure, Result.andThen_ok, run_loadVar_elem (P := P) (E := E) (z := z) (g := g) (off := i * E.k) (fun j u hu => hO.cell hz hu) hu hd hinfo]
    exact hK _ _ h
end
end Go.Proofs.Ytaaeomapbigfgaa
namespace Go.Proofs.Ytaaeomapbigfgaa
open Go.RowKit Go.Proofs.Ytaaeomapbigfgaa.St
/-- a step of a script -/
structure StV where
  e : Ent
  no : Bool
  tk : Int
def stE : Enc StV := ⟨13, fun s => s.e.v.cells ++ [.bool s.no, .int .i64 s.tk], fun _ => rfl, by decide, fun s u hu => by
  rcases List.mem_append.1 hu with h | h
  · exact entE.one s.e u h
  · rcases List.mem_cons.1 h with rfl | h
    · rfl
    · rw [List.mem_singleton.1 h]; rfl⟩
def bigP (x : OpV) : Prop := 3000 < x.deps.n ∨ 3000 < x.gone.n ∨ 3000 < x.text.size
instance (x : OpV) : Decidable (bigP x) := by unfold bigP; infer_instance
def muchP (L : List StV) : Prop := 300 < L.length ∨ ∃ s ∈ L, bigP s.e.v
instance (L : List StV) : Decidable (muchP L) := by unfold muchP; infer_instance
set_option maxRecDepth 100000 in
set_option maxHeartbeats 2000000 in
theorem big_any {w : World} (x : OpV) : Calls Try.prog 39 #[.agg (opA x)] w fun r w' => r = .returned (.bool (decide (bigP x))) ∧ Kept (fun _ => False) w w' := by
  have hB := Blk.new w 34 (opA x)
  have k0 : Kept (fun _ => False) w (w.alloc (.cells (opA x) 34)) := (Kept.refl _ _).alloc _
  have b2 : (w.alloc (.cells (opA x) 34)).cell? ⟨w.heap.size, 2, none⟩ = some (.slice x.deps.a x.deps.n x.deps.c) := hB.cell' (i := 2) rfl
  have b8 : (w.alloc (.cells (opA x) 34)).cell? ⟨w.heap.size, 8, none⟩ = some (.string x.text) := hB.cell' (i := 8) rfl
  have b9 : (w.alloc (.cells (opA x) 34)).cell? ⟨w.heap.size, 9, none⟩ = some (.slice x.gone.a x.gone.n x.gone.c) := hB.cell' (i := 9) rfl
  clear hB
  by_cases h1 : 3000 < x.deps.n
  · have ANS := Lib.hid (show decide (bigP x) = true from decide_eq_true (.inl h1))
    have e1 : (3000 : Int) < x.deps.n := by omega
    clear h1
    go_enter Try.func39, Try.ntmps39
    go_wp2_with fail
    go_ret
    exact ⟨by rw [ANS.out]; rfl, k0⟩
  have e1 : ¬ (3000 : Int) < x.deps.n := by omega
  by_cases h2 : 3000 < x.gone.n
  · have ANS := Lib.hid (show decide (bigP x) = true from decide_eq_true (.inr (.inl h2)))
    have e2 : (3000 : Int) < x.gone.n := by omega
    clear h1 h2
    go_enter Try.func39, Try.ntmps39
    go_wp2_with fail
    go_ret
    exact ⟨by rw [ANS.out]; rfl, k0⟩
  have e2 : ¬ (3000 : Int) < x.gone.n := by omega
  by_cases h3 : 3000 < x.text.size
  · have ANS := Lib.hid (show decide (bigP x) = true from decide_eq_true (.inr (.inr h3)))
    have e3 : (3000 : Int) < x.text.size := by omega
    clear h1 h2 h3
    go_enter Try.func39, Try.ntmps39
    go_wp2_with fail
    go_ret
    exact ⟨by rw [ANS.out]; rfl, k0⟩
  · have ANS := Lib.hid (show decide (bigP x) = false from decide_eq_false (fun h => by unfold bigP at h; omega))
    have e3 : ¬ (3000 : Int) < x.text.size := by omega
    clear h1 h2 h3
    go_enter Try.func39, Try.ntmps39
    go_wp2_with fail
    go_ret
    exact ⟨by rw [ANS.out]; rfl, k0⟩
/-- a struct that lies in cells one behind the other is loaded whole -/
theorem wpList_load_at {P : Program} {α : Type} {E : Enc α} {w : World} {ops : Array Oper} {rest : List Oper} {o : Oper} {a : Act} {Q : Exit → Act → World → Prop} (hgd : o.guard = none) (ty : TypeId) (x : Operand) (ho : o.op = .load ty x) {g off : Nat} {z : α} {d : TypeDesc}
    (hx : a.eval x = .pointer (some ⟨g, off, none⟩)) (hc : ∀ j u, (E.enc z)[j]? = some u → w.cell? ⟨g, off + j, none⟩ = some u) (hu : P.underlying ty = some d) (hd : (match d with | .struct _ | .array _ _ => true | _ => false) = true) (hinfo : (P.info? ty).map (·.size) = some E.k)
    (h : wpList P ops Q rest (a.put o.dst (.agg (E.enc z).toArray)) w) : wpList P ops Q (o :: rest) a w :=
  wpList_plain hgd fun _ hK => by
    unfold Oper.wp execOp
    simp only [ho, hx, Instr.loadAt, Instr.sureAddr, Sem.run_bind, Sem.run_pure, Result.andThen_ok, run_loadVar_elem (P := P) (E := E) (z := z) (g := g) (off := off) hc hu hd hinfo]
    exact hK _ _ h
/-- what a row of steps holds -/
theorem SlAt.step {w : World} {v : Value} {L : List StV} (h : SlAt stE w v L) (hn : 0 < L.length) : ∃ g o c, v = .slice (some ⟨g, o, none⟩) L.length c ∧ ∀ (i : Nat) (x : StV), L[i]? = some x →
    (∀ j u, (entE.enc x.e)[j]? = some u → w.cell? ⟨g, o + i * 13 + j, none⟩ = some u) ∧ w.cell? ⟨g, o + i * 13 + 11, none⟩ = some (.bool x.no) ∧ w.cell? ⟨g, o + i * 13 + 12, none⟩ = some (.int .i64 x.tk) := by
  obtain ⟨g, o, c, rfl, _, _, _, hc⟩ := h.one hn
  refine ⟨g, o, c, rfl, fun i x hx => ⟨fun j u hu => ?_, hc i x hx 11 _ rfl, hc i x hx 12 _ rfl⟩⟩
  have hj : j < (x.e.v.cells).length := (List.getElem?_eq_some_iff.1 hu).1
  have h2 := hc i x hx j u (by show (x.e.v.cells ++ _)[j]? = some u; rw [List.getElem?_append_left hj]; exact hu)
  rw [← Nat.add_assoc] at h2
  exact h2
set_option maxRecDepth 100000 in
set_option maxHeartbeats 2000000 in
theorem much_any {w : World} {v : Value} {L : List StV} (h : SlAt stE w v L) : Calls Try.prog 13 #[v] w fun r w' => r = .returned (.bool (decide (muchP L))) ∧ Kept (fun _ => False) w w' := by
  obtain ⟨a, c, rfl, _, _⟩ := h.sl
  have HL := Lib.hid h
  clear h
  by_cases h1 : 300 < L.length
  · have ANS := Lib.hid (show decide (muchP L) = true from decide_eq_true (.inl h1))
    have e1 : (300 : Int) < L.length := by omega
    clear h1
    go_enter Try.func13, Try.ntmps13
    go_wp2_with fail
    go_ret
    exact ⟨by rw [ANS.out]; rfl, Kept.refl _ _⟩
  have e1 : ¬ (300 : Int) < L.length := by omega
  go_enter Try.func13, Try.ntmps13
  go_wp2_with fail
  clear e1
  go_loopw [3] (fun iv wr => ∃ n : Nat, iv = .int .i64 n ∧ n ≤ L.length ∧ (∀ s ∈ L.take n, ¬ bigP s.e.v) ∧ Kept (fun _ => False) w wr) (fun iv _ => L.length - (intOf iv).toNat)
  case atStart => exact ⟨0, rfl, Nat.zero_le _, fun s hs => by simp at hs, Kept.refl _ _⟩
  case round =>
    obtain ⟨n, rfl, hn, hno, hk⟩ := hrel
    have NO := Lib.hid hno
    have KW := Lib.hid hk
    clear hno hk
    have hn0 : (0 : Int) ≤ n := by omega
    by_cases hlt : n < L.length
    case neg =>
      have hltI : ¬ (n : Int) < L.length := by omega
      have ANS := Lib.hid (show decide (muchP L) = false from decide_eq_false (fun h => by
        rcases h with h | ⟨s, hs, hb⟩
        · exact h1 h
        · exact NO.out s (by rw [List.take_of_length_le (by omega)]; exact hs) hb))
      go_wp2_with fail
      go_ret
      exact ⟨by rw [ANS.out]; rfl, KW.out⟩
    case pos =>
      have hltI : (n : Int) < L.length := by omega
      obtain ⟨x, hx⟩ := get_of_lt hlt
      obtain ⟨g, o, c', e2, hcs⟩ := SlAt.step (HL.out.kept KW.out) (by omega)
      injection e2 with e3 _ e4
      subst e3 e4
      have CS := Lib.hid (hcs n x hx).1
      have HX := Lib.hid hx
      have HB := Lib.hid (big_any (w := wr) x.e.v)
      clear hcs hx
      by_cases hb : bigP x.e.v
      · rw [decide_eq_true hb] at HB
        have ANS := Lib.hid (show decide (muchP L) = true from decide_eq_true (.inr ⟨x, List.mem_of_getElem? HX.out, hb⟩))
        clear hb
        go_wp2_with (first
          | (refine wpList_load_at (E := entE) (z := x.e) rfl 34 _ rfl rfl CS.out Try.underlying34 rfl size_op ?_)
          | (go_at_call 39; refine HB.out.mono ?_; rintro r w2 ⟨rfl, hk2⟩))
        go_ret
        exact ⟨by rw [ANS.out]; rfl, KW.out.trans hk2 (fun _ _ h => h)⟩
      · rw [decide_eq_false hb] at HB
        have NB := Lib.hid hb
        clear hb
        go_wp2_with (first
          | (refine wpList_load_at (E := entE) (z := x.e) rfl 34 _ rfl rfl CS.out Try.underlying34 rfl size_op ?_)
          | (go_at_call 39; refine HB.out.mono ?_; rintro r w2 ⟨rfl, hk2⟩))
        go_roundw
        case rel =>
          refine ⟨n + 1, by go_num, by omega, fun s hs => ?_, KW.out.trans hk2 (fun _ _ h => h)⟩
          rw [List.take_add_one, HX.out] at hs
          rcases List.mem_append.1 hs with hs | hs
          · exact NO.out s hs
          · obtain rfl : s = x := by simpa using hs
            exact NB.out
        case measure => simp [intOf] <;> omega
end Go.Proofs.Ytaaeomapbigfgaa
