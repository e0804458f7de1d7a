/- Arrays in blocks of their own: loaded whole, stored whole. They speak of no program of their own. Elements of several cells, loaded whole and stored whole. They speak of no program of their own. append of a row that reads as a list to an owned row. append of one element to a row of the call's own: what becomes of the old row. -/
import Derived.Test.YtlafodnaifghcaaK5
import Derived.Laws.Rows
import Derived.Laws.Tables
import Derived.Deep.WholeRow
import Derived.Laws.AppendOwnNone
import Derived.Maps.AppendAt
import Derived.Deep.AppendSrc
namespace Go.Proofs.Ytlafodnaifghcaa
open Go.RowKit
section
variable {P : Program} {w w' : World} {g b : Nat} {t t' : TypeId} {cs old : Array Value}
theorem Blk.loads (h : Blk w g t cs) {n : Nat} (hn : cs.size = n) : (loadCellsFrom ⟨g, 0, none⟩ 0 n #[]).run P w = .ok cs w := by
  subst hn
  have := run_loadCells_list (P := P) w ⟨g, 0, none⟩ cs.toList (fun j v hv => by
    have hadd : (⟨g, 0, none⟩ : Addr).add j = ⟨g, j, none⟩ := by unfold Addr.add; split <;> simp_all
    rw [hadd, h.cell]
    simpa using hv)
  simpa [loadCells] using this
theorem Blk.stores (h : Blk w g t old) (hs : old.size = cs.size) (h1 : cs.all (·.oneCell') = true) : (storeCells ⟨g, 0, none⟩ cs.toList 0).run P w = .ok () (w.setRow g cs) := by
  have := run_storeCells_from (P := P) g t cs.toList 0 old w h (by simp; omega) (fun v hv => (Array.all_eq_true_iff_forall_mem.1 h1) v (by simpa using hv))
  simpa [hs] using this
theorem Blk.row (h : Blk w g t old) (cs : Array Value) : Blk (w.setRow g cs) g t cs := setRow_heap w g old cs t (0, 0) h
theorem Blk.row_far (h : Blk w b t old) (hne : b ≠ g) (cs : Array Value) : Blk (w.setRow g cs) b t old := (setRow_other w g b cs hne).trans h
theorem Kept.setRow {S : Nat → Prop} (h : Kept S w w') (hg : g < w.heap.size → S g) (cs : Array Value) : Kept S w (w'.setRow g cs) :=
  ⟨h.os, h.tape, h.output, by rw [setRow_size]; exact h.size, fun k hk hs => by rw [setRow_other _ _ _ _ (fun e => by subst e; exact hs (hg hk))]; exact h.block k hk hs⟩
theorem Grew.setRow (h : Grew w w') (hg : w.heap.size ≤ g) (cs : Array Value) : Grew w (w'.setRow g cs) := by
  obtain ⟨q, os, rfl⟩ := h
  have hs : ((Sort.grow (w.drewN q) os).setRow g cs).heap.size = w.heap.size + os.size := by rw [setRow_size]; simp [Sort.grow, World.drewN]
  have hh : ((Sort.grow (w.drewN q) os).setRow g cs).heap = w.heap ++ ((Sort.grow (w.drewN q) os).setRow g cs).heap.extract w.heap.size ((Sort.grow (w.drewN q) os).setRow g cs).heap.size := by
    apply Array.ext
    · simp [hs]
    · intro i h1 h2
      rw [Array.getElem_append]
      split
      · rename_i hi
        simp only [World.setRow, Sort.grow, World.drewN, Array.getElem_modify]
        rw [if_neg (by omega), Array.getElem_append_left hi]
      · rename_i hi
        rw [Array.getElem_extract]
        congr 1
        omega
  obtain ⟨os', hh⟩ : ∃ os', ((Sort.grow (w.drewN q) os).setRow g cs).heap = w.heap ++ os' := ⟨_, hh⟩
  refine ⟨q, os', ?_⟩
  have e : (Sort.grow (w.drewN q) os).setRow g cs = { w.drewN q with heap := ((Sort.grow (w.drewN q) os).setRow g cs).heap } := rfl
  rw [e, hh]
  rfl
theorem Kept.cell (hk : Kept (fun _ => False) w w') {a : Addr} {v : Value} (h : w.cell? a = some v) : w'.cell? a = some v := by
  have hlt := World.block_lt_of_cell? w _ h
  have hb := hk.block a.block hlt (fun h => h)
  unfold World.cell? at h ⊢
  rw [hb]
  exact h
theorem owns_lower {base base' n size : Nat} {e : TypeId} {v : Value} {xs : List Value} (h : w.ownsRow base e size v n xs) (hb : base' ≤ base) : w.ownsRow base' e size v n xs := by
  refine ⟨h.1, ?_⟩
  rcases h.2 with h2 | ⟨g, c, cur, e2, h1, h3⟩
  · exact .inl h2
  · exact .inr ⟨g, c, cur, e2, Nat.le_trans hb h1, h3⟩
theorem Blk.result {fn : Func} {p : Tmp} {ty : TypeId} {d : TypeDesc} (hr : fn.results = #[.cell p ty]) (tmps : Array Value) (h : Blk w g t cs) (hp : tmps.getD p undef = .pointer (some ⟨g, 0, none⟩))
    (hu : P.underlying ty = some d) (hd : (match d with | .struct _ | .array _ _ => true | _ => false) = true) (hi : (P.info? ty).map (·.size) = some cs.size) : (results fn tmps).run P w = .ok (.agg cs) w :=
  results_cell_row hr tmps w g t cs (0, 0) d hp h hu hd hi
end
end Go.Proofs.Ytlafodnaifghcaa
namespace Go.Proofs.Ytlafodnaifghcaa
open Go.RowKit
section
variable {P : Program} {α : Type} {E : Enc α} {w w' : World}
theorem run_storeCells_el (g : Nat) (t : TypeId) (o : Nat) : ∀ (vs : List Value) (i : Nat) (cur : Array Value) (w : World), w.heap[g]? = some (.cells cur t (0, 0)) → o + i + vs.length ≤ cur.size → (∀ v ∈ vs, v.oneCell' = true) →
    ∃ cur' : Array Value, (storeCells ⟨g, o, none⟩ vs i).run P w = .ok () (w.setRow g cur') ∧ cur'.size = cur.size ∧ (∀ j, j < vs.length → cur'[o + i + j]? = vs[j]?) ∧ (∀ m, (m < o + i ∨ o + i + vs.length ≤ m) → cur'[m]? = cur[m]?)
  | [], i, cur, w, hg, hl, _ => by
    refine ⟨cur, ?_, rfl, fun j hj => by simp at hj, fun _ _ => rfl⟩
    have hv : w.heap[g]? = some (.cells cur t (0, 0)) := hg
    simp only [storeCells]
    show Result.ok () w = _
    congr 1
    unfold World.setRow
    cases w with
    | mk heap tape drawn os output =>
      congr 1
      apply Array.ext
      · simp
      · intro k h1 h2
        simp only [Array.getElem_modify]
        split
        · rename_i hk
          subst hk
          simp only [Array.getElem?_eq_getElem h1, Option.some.injEq] at hv
          rw [hv]
        · rfl
  | v :: rest, i, cur, w, hg, hl, h1 => by
    have hi : o + i < cur.size := by simp at hl; omega
    have hcell : w.cell? ⟨g, o + i, none⟩ = some cur[o + i] := by simp [World.cell?, hg, hi]
    have hfro : w.frozen? ⟨g, o + i, none⟩ = false := by simp [World.frozen?, hg]
    have hst : (store ((⟨g, o, none⟩ : Addr).add i) v).run P w = .ok () (w.setRow g (cur.setIfInBounds (o + i) v)) := by
      rw [Addr.add_lit, run_store P w _ v _ (h1 v (by simp)), hcell]
      simp [hfro, setCell_eq_setRow w g (o + i) cur t (0, 0) v hg]
    obtain ⟨cur', h2, h3, h4, h5⟩ := run_storeCells_el g t o rest (i + 1) (cur.setIfInBounds (o + i) v) (w.setRow g (cur.setIfInBounds (o + i) v)) (setRow_heap w g cur _ t _ hg) (by simp at hl ⊢; omega) (fun x hx => h1 x (by simp [hx]))
    refine ⟨cur', ?_, by rw [h3]; simp, fun j hj => ?_, fun m hm => ?_⟩
    · simp only [storeCells, Sem.run_bind, hst, Result.andThen_ok, h2, setRow_setRow]
    · cases j with
      | zero =>
        rw [Nat.add_zero, h5 (o + i) (.inl (by omega)), Array.getElem?_setIfInBounds_self_of_lt hi]
        rfl
      | succ j =>
        rw [show o + i + (j + 1) = o + (i + 1) + j by omega, h4 j (by simpa using hj)]
        rfl
    · rw [h5 m (by simp at hm; omega), Array.getElem?_setIfInBounds_ne (by simp at hm; omega)]
theorem run_storeVar_elem {t ty : TypeId} {g cap i : Nat} {D : List α} {z : α} (hO : OwnAt E w t g cap D) (hi : i < D.length) (hinfo : (P.info? ty).map (·.size) = some E.k) :
    ∃ w', (storeVar ty ⟨g, i * E.k, none⟩ (.agg (E.enc z).toArray)).run P w = .ok () w' ∧ OwnAt E w' t g cap (D.set i z) ∧ Kept (fun b => b = g) w w' := by
  obtain ⟨cs, h1, h2, h3, h4, h5⟩ := hO
  have hm := Nat.mul_le_mul_right E.k (show i + 1 ≤ cap by omega)
  rw [Nat.add_mul, Nat.one_mul] at hm
  obtain ⟨cur', r1, r2, r3, r4⟩ := run_storeCells_el (P := P) g t (i * E.k) (E.enc z) 0 cs w h1 (by rw [E.len]; omega) (E.one z)
  rw [Nat.add_zero] at r3 r4
  refine ⟨w.setRow g cur', ?_, ⟨cur', Blk.row h1 cur', by omega, by simpa using h3, h4, fun n y hy j u hu => ?_⟩, Kept.setRow (Kept.refl (fun b => b = g) w) (fun _ => rfl) cur'⟩
  · cases hq : P.info? ty with
    | none => simp [hq] at hinfo
    | some q =>
      have hs : (E.enc z).length = q.size := by simp [hq] at hinfo; rw [E.len]; omega
      simp [storeVar, sizeOf, typeInfo, hq, Value.cells, hs, r1]
  · have hj : j < E.k := by rw [← E.len y]; exact (List.getElem?_eq_some_iff.1 hu).1
    by_cases hn : i = n
    · subst hn
      simp [hi] at hy
      subst hy
      rw [r3 j (by rw [E.len]; exact hj)]
      exact hu
    · rw [List.getElem?_set_ne hn] at hy
      have ho : n * E.k + j < i * E.k ∨ i * E.k + (E.enc z).length ≤ n * E.k + j := by
        rw [E.len]
        rcases Nat.lt_or_gt_of_ne hn with h | h
        · right
          have := Nat.mul_le_mul_right E.k (show i + 1 ≤ n by omega)
          rw [Nat.add_mul, Nat.one_mul] at this
          omega
        · left
          have := Nat.mul_le_mul_right E.k (show n + 1 ≤ i by omega)
          rw [Nat.add_mul, Nat.one_mul] at this
          omega
      rw [r4 _ ho]
      exact h5 n y hy j u hu
/-- a struct's value goes into an element -/
theorem wpList_store_elem {ops : Array Oper} {rest : List Oper} {o : Oper} {a : Act} {Q : Exit → Act → World → Prop} (hgd : o.guard = none) (ty : TypeId) (x y : Operand) (ho : o.op = .store ty x y) {t : TypeId} {g cap i : Nat} {D : List α} (z : α)
    (hx : a.eval x = .pointer (some ⟨g, i * E.k, none⟩)) (hy : a.eval y = .agg (E.enc z).toArray) (hO : OwnAt E w t g cap D) (hi : i < D.length) (hinfo : (P.info? ty).map (·.size) = some E.k)
    (h : ∀ w', OwnAt E w' t g cap (D.set i z) → Kept (fun b => b = g) w w' → wpList P ops Q rest (a.put o.dst undef) w') : wpList P ops Q (o :: rest) a w :=
  wpList_plain hgd fun _ hK => by
    obtain ⟨w', r1, r2, r3⟩ := run_storeVar_elem (P := P) (ty := ty) (z := z) hO hi hinfo
    unfold Oper.wp execOp
    simp only [ho, hx, hy, Instr.storeAt, Instr.sureAddr, Sem.run_bind, Sem.run_pure, Result.andThen_ok, r1]
    exact hK _ _ (h w' r2 r3)
theorem run_loadVar_elem {ty : TypeId} {g off : Nat} {z : α} {d : TypeDesc} (hc : ∀ j u, (E.enc z)[j]? = some u → w.cell? ⟨g, off + j, none⟩ = some u) (hu : P.underlying ty = some d) (hd : (match d with | .struct _ | .array _ _ => true | _ => false) = true)
    (hinfo : (P.info? ty).map (·.size) = some E.k) : (loadVar ty ⟨g, off, none⟩).run P w = .ok (.agg (E.enc z).toArray) w := by
  have hl := run_loadCells_list (P := P) w ⟨g, off, none⟩ (E.enc z) (fun j v hv => by rw [Addr.add_lit]; exact hc j v hv)
  rw [E.len] at hl
  cases hq : P.info? ty with
  | none => simp [hq] at hinfo
  | some i =>
    have hs : i.size = E.k := by simpa [hq] using hinfo
    have hagg : (isAgg ty).run P w = .ok true w := by
      unfold isAgg
      rw [Sem.run_bind, run_underlying hu w]
      cases d <;> simp_all
    simp [loadVar, Sem.run_bind, hagg, sizeOf, typeInfo, hq, hs, hl]
/-- an element is loaded whole -/
theorem wpList_load_elem {ops : Array Oper} {rest : List Oper} {o : Oper} {a : Act} {Q : Exit → Act → World → Prop} (hgd : o.guard = none) (ty : TypeId) (x : Operand) (ho : o.op = .load ty x) {t : TypeId} {g cap i : Nat} {D : List α} {z : α} {d : TypeDesc}
    (hx : a.eval x = .pointer (some ⟨g, i * E.k, none⟩)) (hO : OwnAt E w t g cap D) (hz : D[i]? = some z) (hu : P.underlying ty = some d) (hd : (match d with | .struct _ | .array _ _ => true | _ => false) = true) (hinfo : (P.info? ty).map (·.size) = some E.k)
    (h : wpList P ops Q rest (a.put o.dst (.agg (E.enc z).toArray)) w) : wpList P ops Q (o :: rest) a w :=
  wpList_plain hgd fun _ hK => by
    unfold Oper.wp execOp
    simp only [ho, hx, Instr.loadAt, Instr.sureAddr, Sem.run_bind, Sem.run_pure, Result.andThen_ok, run_loadVar_elem (P := P) (E := E) (z := z) (g := g) (off := i * E.k) (fun j u hu => hO.cell hz hu) hu hd hinfo]
    exact hK _ _ h
end
end Go.Proofs.Ytlafodnaifghcaa
namespace Go.Proofs.Ytlafodnaifghcaa
open Go.RowKit
theorem wpList_append_row {P : Program} {α : Type} (E : Enc α) {w : World} {ops : Array Oper} {rest : List Oper} {o : Oper} {a : Act} {Q : Exit → Act → World → Prop} (hgd : o.guard = none) (s x : Operand) (t : TypeId)
    (ho : o.op = .call { callee := .builtin .append, args := #[s, x], argTypes := #[t, t] }) (base : Nat) (e : TypeId) (z : Value) (bytes : Nat) (ht : P.underlying t = some (.slice e))
    (hinfo : (P.info? e).map (fun i => (i.zero, i.size, i.bytes)) = some (some z, E.k, bytes)) (hzs : z.cells.size = E.k) {v vs : Value} {D L : List α} (hs : a.eval s = v) (hx : a.eval x = vs)
    (hown : w.ownsRow base e E.k v D.length (E.flat D)) (hL : SlAt E w vs L) (h63 : D.length + L.length ≤ maxLen) (hbytes : (D.length + L.length) * bytes ≤ 140737488355328) (hbase : base ≤ w.heap.size)
    (h : ∀ v' w', w'.ownsRow base e E.k v' (D ++ L).length (E.flat (D ++ L)) → Kept (fun b => v.ownBlock = some b) w w' → wpList P ops Q rest (a.put o.dst v') w') : wpList P ops Q (o :: rest) a w := by
  obtain ⟨i0, hi, hz0, hz1, hz2⟩ := info_parts hinfo
  obtain ⟨ad, c, rfl, _, _⟩ := hL.sl
  cases ad with
  | none =>
    obtain ⟨rfl, _, rfl⟩ := hL.none_
    refine wpList_append_own_none hgd s x t ho base e i0 E.k ht hi v D.length (E.flat D) hs hown hx ?_
    refine h v w ?_ (Kept.refl _ _)
    rw [List.append_nil]
    exact hown
  | some y =>
    obtain ⟨_, hn⟩ := hL.at_
    refine wpList_append_own _ hgd s x t ho base e i0 z E.k bytes ht hi hz0 hz1 hz2 hzs E.pos v D.length (E.flat D) hs hown y L.length c (E.flat L) hx (E.flat_len L) hn (E.flat_one_cell L) h63 hbytes hbase ?_
    intro v' w' ho' hg _
    refine h v' w' ?_ (Kept.grown (Kept.refl _ _) hg (fun k e _ => e))
    rw [List.length_append, E.flat_append]
    exact ho'
theorem owns_new {w : World} {base n size : Nat} {e : TypeId} {v : Value} {xs : List Value} (h : w.ownsRow base e size v n xs) : ∀ b, v.ownBlock = some b → base ≤ b := fun b hb => by
  rcases h.2 with ⟨e2, _⟩ | ⟨g3, c2, cur, e2, h1, h2, _⟩
  · rw [e2] at hb; cases hb
  · rw [e2] at hb; cases hb; exact h1
/-- a frame that spares what was there at w -/
theorem Kept.over {w w1 w2 : World} {S : Nat → Prop} (h : Kept (fun _ => False) w w1) (k : Kept S w1 w2) (hb : ∀ b, S b → w.heap.size ≤ b) : Kept (fun _ => False) w w2 := h.trans k fun i hi e => by have := hb i e; omega
theorem SlAt.lit {α : Type} {E : Enc α} {w : World} {t : TypeId} (L : List α) (cs : Array Value) (hc : cs = (E.flat L).toArray) (hl : L.length ≤ maxLen) : SlAt E (w.alloc (.cells cs t)) (.slice (some ⟨w.heap.size, 0, none⟩) L.length L.length) L := by
  subst hc
  refine .inr ⟨⟨w.heap.size, 0, none⟩, L.length, rfl, Nat.le_refl _, hl, fun _ => rfl, fun i y hy j u hu => ?_⟩
  rw [Nat.zero_add]
  refine (Blk.new w t _).cell' ?_
  rw [← Array.getElem?_toList]
  exact E.flat_get hy hu
end Go.Proofs.Ytlafodnaifghcaa
namespace Go.Proofs.Ytlafodnaifghcaa
open Go.RowKit
/-- the row went on in its own block, or a new block was made and nothing else has changed -/
def Grow1 (w w' : World) (v v' : Value) : Prop := (v'.ownBlock = v.ownBlock ∧ Kept (fun b => v.ownBlock = some b) w w') ∨ (v'.ownBlock = some w.heap.size ∧ Kept (fun _ => False) w w')
theorem run_append_keeps {P : Program} {α : Type} (E : Enc α) {w : World} (t ty e : TypeId) (base : Nat) (z : Value) (bytes : Nat) (ht : P.underlying t = some (.slice e))
    (hinfo : (P.info? e).map (fun i => (i.zero, i.size, i.bytes)) = some (some z, E.k, bytes)) (hzs : z.cells.size = E.k) (hb4 : bytes ≤ 4096) {v : Value} {D : List α} {x : α}
    (hown : w.ownsRow base e E.k v D.length (E.flat D)) {ad : Addr} {c : Nat} (hL : SlAt E w (.slice (some ad) 1 c) [x]) (h63 : D.length ≤ 1000000) (hbase : base ≤ w.heap.size) :
    ∃ v' w', (Builtin.append_ #[t, t] ty #[v, .slice (some ad) 1 c]).run P w = .ok v' w' ∧ w'.ownsRow base e E.k v' (D.length + 1) (E.flat (D ++ [x])) ∧ Grow1 w w' v v' := by
  obtain ⟨i, hi, hz, hsize, hby⟩ := info_parts hinfo
  obtain ⟨_, hn⟩ := hL.at_
  have hbb : (D.length + 1) * bytes ≤ 140737488355328 := by
    have : (D.length + 1) * bytes ≤ 1000001 * 4096 := Nat.mul_le_mul (by omega) hb4
    omega
  have hm1 : D.length + 1 ≤ maxLen := by unfold maxLen; omega
  obtain ⟨v', w', hr, h2, h3, _, h5⟩ := run_append_own_at (P := P) w base t ty e i z E.k bytes ht hi hz hsize hby hzs E.pos v D.length (E.flat D) hown ad 1 c (E.flat [x]) (E.flat_len [x]) hn (E.flat_one_cell [x]) hm1 hbb hbase
  refine ⟨v', w', hr, by rw [E.flat_append]; exact h2, ?_⟩
  rcases h5 with h5 | h5
  · exact .inl ⟨h5, Kept.grown (Kept.refl _ _) h3 (fun k e _ => e)⟩
  · right
    refine ⟨h5, ?_⟩
    have hs : Src P i.size t (.slice (some ad) 1 c) 1 (E.flat [x]) w := by
      rw [hsize]
      exact Src.ofSlice w ht ad 1 c (E.flat [x]) (E.flat_len [x]) hn (E.flat_one_cell [x])
    have hcap : ∀ old, old < D.length + 1 → Builtin.nextslicecap (D.length + 1) old * i.bytes ≤ 281474976710656 := fun old h => by
      have h1 := nextslicecap_le h
      rw [hby]
      have : Builtin.nextslicecap (D.length + 1) old * bytes ≤ 4000000 * 4096 := Nat.mul_le_mul (by omega) hb4
      omega
    rcases hown.2 with ⟨rfl, hxs⟩ | ⟨g, cap, cur, rfl, hbg, hg, hnc, hcm, hcs, htake⟩
    · have hD : D.length = 0 := by assumption
      rw [hD] at hcap
      have hrun := run_append_grow_src (P := P) (w := w) t t ty e i z ht hi hz none 0 0 [] (run_firstCells_none _ _ _ _ _) (.slice (some ad) 1 c) 1 (E.flat [x]) hs (by omega) (by omega) (hcap 0 (by omega))
      rw [hr] at hrun
      injection hrun with e1 e2
      rw [e2]
      exact ((Kept.refl _ _).drew).alloc _
    · by_cases hroom : D.length + 1 ≤ cap
      · exfalso
        have hblk : Blk w g e cur := hg
        have hsz : (D.length + 1) * E.k ≤ cap * E.k := Nat.mul_le_mul_right _ hroom
        have hl1 : (E.flat [x]).length = E.k := by rw [E.flat_len]; simp
        have hrun := run_append_room_src (P := P) (w := w) t t ty e i ht hi g 0 D.length cap (.slice (some ad) 1 c) 1 (E.flat [x]) hs hroom (fun j hj => by
          rw [hblk.cell, hsize]
          rw [hl1] at hj
          rw [Nat.add_mul] at hsz
          rw [Array.getElem?_eq_getElem (show 0 + D.length * E.k + j < cur.size by omega)]
          rfl) (fun j _ => hblk.frozen _)
        rw [hr] at hrun
        injection hrun with e1 e2
        rw [e1] at h5
        have hlt := hblk.lt
        have hgs : g = w.heap.size := by simpa [Value.ownBlock] using h5
        omega
      · have hold : (Builtin.firstCells i.size D.length (.slice (some ⟨g, 0, none⟩) D.length cap)).run P w.drew = .ok (E.flat D).toArray w.drew := by
          rw [hsize]
          refine run_firstCells_some _ E.k D.length ⟨g, 0, none⟩ D.length cap (E.flat D) hown.1 (fun j u hu => ?_)
          rw [Addr.add_lit, Nat.zero_add]
          show w.cell? ⟨g, j, none⟩ = some u
          have hblk : Blk w g e cur := hg
          rw [hblk.cell]
          rw [← htake, List.getElem?_take] at hu
          split at hu
          · simpa using hu
          · cases hu
        have hrun := run_append_grow_src (P := P) (w := w) t t ty e i z ht hi hz (some ⟨g, 0, none⟩) D.length cap (E.flat D) hold (.slice (some ad) 1 c) 1 (E.flat [x]) hs (by omega) (by omega) (hcap cap (by omega))
        rw [hr] at hrun
        injection hrun with e1 e2
        rw [e2]
        exact ((Kept.refl _ _).drew).alloc _
theorem wpList_append_keeps {P : Program} {α : Type} (E : Enc α) {w : World} {ops : Array Oper} {rest : List Oper} {o : Oper} {a : Act} {Q : Exit → Act → World → Prop} (hgd : o.guard = none) (s y : Operand) (t : TypeId)
    (ho : o.op = .call { callee := .builtin .append, args := #[s, y], argTypes := #[t, t] }) (base : Nat) (e : TypeId) (z : Value) (bytes : Nat) (ht : P.underlying t = some (.slice e))
    (hinfo : (P.info? e).map (fun i => (i.zero, i.size, i.bytes)) = some (some z, E.k, bytes)) (hzs : z.cells.size = E.k) (hb4 : bytes ≤ 4096) {v : Value} {D : List α} {x : α} {ad : Addr} {c : Nat} (hs : a.eval s = v) (hx : a.eval y = .slice (some ad) 1 c)
    (hown : w.ownsRow base e E.k v D.length (E.flat D)) (hL : SlAt E w (.slice (some ad) 1 c) [x]) (h63 : D.length ≤ 1000000) (hbase : base ≤ w.heap.size)
    (h : ∀ v' w', w'.ownsRow base e E.k v' (D.length + 1) (E.flat (D ++ [x])) → Grow1 w w' v v' → wpList P ops Q rest (a.put o.dst v') w') : wpList P ops Q (o :: rest) a w := by
  refine wpList_plain hgd fun K hK => ?_
  obtain ⟨v', w', hr, h2, h3⟩ := run_append_keeps (P := P) E t o.type e base z bytes ht hinfo hzs hb4 hown hL h63 hbase
  unfold Oper.wp execOp
  simp only [ho, resolve, invoke, builtin, Sem.run_bind, Sem.run_pure, Result.andThen_ok, List.map_toArray, List.map_cons, List.map_nil, hs, hx, hr]
  exact hK _ _ (h v' w' h2 h3)
end Go.Proofs.Ytlafodnaifghcaa
