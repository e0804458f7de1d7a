/- Arrays in blocks of their own: loaded whole, stored whole. They speak of no program of their own. Elements of several cells, loaded whole and stored whole. They speak of no program of their own. append of a row that reads as a list to an owned row. append of one element to a row of the call's own: what becomes of the old row. Maps with keys of whatever kind, told as lists of entries. -/
import Derived.Test.YtlafodnaifghcaaGreatH4
import Derived.Laws.Rows
import Derived.Laws.Tables
import Derived.Deep.WholeRow
import Derived.Laws.AppendOwnNone
import Derived.Maps.AppendAt
import Derived.Deep.AppendSrc
import Derived.WalkKit
namespace Go.Proofs.YtlafodnaifghcaaGreat
open Go.RowKit
section
variable {P : Program} {w w' : World} {g b : Nat} {t t' : TypeId} {cs old : Array Value}
theorem Blk.loads (h : Blk w g t cs) {n : Nat} (hn : cs.size = n) : (loadCellsFrom ⟨g, 0, none⟩ 0 n #[]).run P w = .ok cs w := by
  subst hn
  have := run_loadCells_list (P := P) w ⟨g, 0, none⟩ cs.toList (fun j v hv => by
    have hadd : (⟨g, 0, none⟩ : Addr).add j = ⟨g, j, none⟩ := by unfold Addr.add; split <;> simp_all
    rw [hadd, h.cell]
    simpa using hv)
  simpa [loadCells] using this
theorem Blk.stores (h : Blk w g t old) (hs : old.size = cs.size) (h1 : cs.all (·.oneCell') = true) : (storeCells ⟨g, 0, none⟩ cs.toList 0).run P w = .ok () (w.setRow g cs) := by
  have := run_storeCells_from (P := P) g t cs.toList 0 old w h (by simp; omega) (fun v hv => (Array.all_eq_true_iff_forall_mem.1 h1) v (by simpa using hv))
  simpa [hs] using this
theorem Blk.row (h : Blk w g t old) (cs : Array Value) : Blk (w.setRow g cs) g t cs := setRow_heap w g old cs t (0, 0) h
theorem Blk.row_far (h : Blk w b t old) (hne : b ≠ g) (cs : Array Value) : Blk (w.setRow g cs) b t old := (setRow_other w g b cs hne).trans h
theorem Kept.setRow {S : Nat → Prop} (h : Kept S w w') (hg : g < w.heap.size → S g) (cs : Array Value) : Kept S w (w'.setRow g cs) :=
  ⟨h.os, h.tape, h.output, by rw [setRow_size]; exact h.size, fun k hk hs => by rw [setRow_other _ _ _ _ (fun e => by subst e; exact hs (hg hk))]; exact h.block k hk hs⟩
theorem Grew.setRow (h : Grew w w') (hg : w.heap.size ≤ g) (cs : Array Value) : Grew w (w'.setRow g cs) := by
  obtain ⟨q, os, rfl⟩ := h
  have hs : ((Sort.grow (w.drewN q) os).setRow g cs).heap.size = w.heap.size + os.size := by rw [setRow_size]; simp [Sort.grow, World.drewN]
  have hh : ((Sort.grow (w.drewN q) os).setRow g cs).heap = w.heap ++ ((Sort.grow (w.drewN q) os).setRow g cs).heap.extract w.heap.size ((Sort.grow (w.drewN q) os).setRow g cs).heap.size := by
    apply Array.ext
    · simp [hs]
    · intro i h1 h2
      rw [Array.getElem_append]
      split
      · rename_i hi
        simp only [World.setRow, Sort.grow, World.drewN, Array.getElem_modify]
        rw [if_neg (by omega), Array.getElem_append_left hi]
      · rename_i hi
        rw [Array.getElem_extract]
        congr 1
        omega
  obtain ⟨os', hh⟩ : ∃ os', ((Sort.grow (w.drewN q) os).setRow g cs).heap = w.heap ++ os' := ⟨_, hh⟩
  refine ⟨q, os', ?_⟩
  have e : (Sort.grow (w.drewN q) os).setRow g cs = { w.drewN q with heap := ((Sort.grow (w.drewN q) os).setRow g cs).heap } := rfl
  rw [e, hh]
  rfl
theorem Kept.cell (hk : Kept (fun _ => False) w w') {a : Addr} {v : Value} (h : w.cell? a = some v) : w'.cell? a = some v := by
  have hlt := World.block_lt_of_cell? w _ h
  have hb := hk.block a.block hlt (fun h => h)
  unfold World.cell? at h ⊢
  rw [hb]
  exact h
theorem owns_lower {base base' n size : Nat} {e : TypeId} {v : Value} {xs : List Value} (h : w.ownsRow base e size v n xs) (hb : base' ≤ base) : w.ownsRow base' e size v n xs := by
  refine ⟨h.1, ?_⟩
  rcases h.2 with h2 | ⟨g, c, cur, e2, h1, h3⟩
  · exact .inl h2
  · exact .inr ⟨g, c, cur, e2, Nat.le_trans hb h1, h3⟩
theorem Blk.result {fn : Func} {p : Tmp} {ty : TypeId} {d : TypeDesc} (hr : fn.results = #[.cell p ty]) (tmps : Array Value) (h : Blk w g t cs) (hp : tmps.getD p undef = .pointer (some ⟨g, 0, none⟩))
    (hu : P.underlying ty = some d) (hd : (match d with | .struct _ | .array _ _ => true | _ => false) = true) (hi : (P.info? ty).map (·.size) = some cs.size) : (results fn tmps).run P w = .ok (.agg cs) w :=
  results_cell_row hr tmps w g t cs (0, 0) d hp h hu hd hi
end
end Go.Proofs.YtlafodnaifghcaaGreat
namespace Go.Proofs.YtlafodnaifghcaaGreat
open Go.RowKit
section
variable {P : Program} {α : Type} {E : Enc α} {w w' : World}
theorem run_storeCells_el (g : Nat) (t : TypeId) (o : Nat) : ∀ (vs : List Value) (i : Nat) (cur : Array Value) (w : World), w.heap[g]? = some (.cells cur t (0, 0)) → o + i + vs.length ≤ cur.size → (∀ v ∈ vs, v.oneCell' = true) →
    ∃ cur' : Array Value, (storeCells ⟨g, o, none⟩ vs i).run P w = .ok () (w.setRow g cur') ∧ cur'.size = cur.size ∧ (∀ j, j < vs.length → cur'[o + i + j]? = vs[j]?) ∧ (∀ m, (m < o + i ∨ o + i + vs.length ≤ m) → cur'[m]? = cur[m]?)
  | [], i, cur, w, hg, hl, _ => by
    refine ⟨cur, ?_, rfl, fun j hj => by simp at hj, fun _ _ => rfl⟩
    have hv : w.heap[g]? = some (.cells cur t (0, 0)) := hg
    simp only [storeCells]
    show Result.ok () w = _
    congr 1
    unfold World.setRow
    cases w with
    | mk heap tape drawn os output =>
      congr 1
      apply Array.ext
      · simp
      · intro k h1 h2
        simp only [Array.getElem_modify]
        split
        · rename_i hk
          subst hk
          simp only [Array.getElem?_eq_getElem h1, Option.some.injEq] at hv
          rw [hv]
        · rfl
  | v :: rest, i, cur, w, hg, hl, h1 => by
    have hi : o + i < cur.size := by simp at hl; omega
    have hcell : w.cell? ⟨g, o + i, none⟩ = some cur[o + i] := by simp [World.cell?, hg, hi]
    have hfro : w.frozen? ⟨g, o + i, none⟩ = false := by simp [World.frozen?, hg]
    have hst : (store ((⟨g, o, none⟩ : Addr).add i) v).run P w = .ok () (w.setRow g (cur.setIfInBounds (o + i) v)) := by
      rw [Addr.add_lit, run_store P w _ v _ (h1 v (by simp)), hcell]
      simp [hfro, setCell_eq_setRow w g (o + i) cur t (0, 0) v hg]
    obtain ⟨cur', h2, h3, h4, h5⟩ := run_storeCells_el g t o rest (i + 1) (cur.setIfInBounds (o + i) v) (w.setRow g (cur.setIfInBounds (o + i) v)) (setRow_heap w g cur _ t _ hg) (by simp at hl ⊢; omega) (fun x hx => h1 x (by simp [hx]))
    refine ⟨cur', ?_, by rw [h3]; simp, fun j hj => ?_, fun m hm => ?_⟩
    · simp only [storeCells, Sem.run_bind, hst, Result.andThen_ok, h2, setRow_setRow]
    · cases j with
      | zero =>
        rw [Nat.add_zero, h5 (o + i) (.inl (by omega)), Array.getElem?_setIfInBounds_self_of_lt hi]
        rfl
      | succ j =>
        rw [show o + i + (j + 1) = o + (i + 1) + j by omega, h4 j (by simpa using hj)]
        rfl
    · rw [h5 m (by simp at hm; omega), Array.getElem?_setIfInBounds_ne (by simp at hm; omega)]
theorem run_storeVar_elem {t ty : TypeId} {g cap i : Nat} {D : List α} {z : α} (hO : OwnAt E w t g cap D) (hi : i < D.length) (hinfo : (P.info? ty).map (·.size) = some E.k) :
    ∃ w', (storeVar ty ⟨g, i * E.k, none⟩ (.agg (E.enc z).toArray)).run P w = .ok () w' ∧ OwnAt E w' t g cap (D.set i z) ∧ Kept (fun b => b = g) w w' := by
  obtain ⟨cs, h1, h2, h3, h4, h5⟩ := hO
  have hm := Nat.mul_le_mul_right E.k (show i + 1 ≤ cap by omega)
  rw [Nat.add_mul, Nat.one_mul] at hm
  obtain ⟨cur', r1, r2, r3, r4⟩ := run_storeCells_el (P := P) g t (i * E.k) (E.enc z) 0 cs w h1 (by rw [E.len]; omega) (E.one z)
  rw [Nat.add_zero] at r3 r4
  refine ⟨w.setRow g cur', ?_, ⟨cur', Blk.row h1 cur', by omega, by simpa using h3, h4, fun n y hy j u hu => ?_⟩, Kept.setRow (Kept.refl (fun b => b = g) w) (fun _ => rfl) cur'⟩
  · cases hq : P.info? ty with
    | none => simp [hq] at hinfo
    | some q =>
      have hs : (E.enc z).length = q.size := by simp [hq] at hinfo; rw [E.len]; omega
      simp [storeVar, sizeOf, typeInfo, hq, Value.cells, hs, r1]
  · have hj : j < E.k := by rw [← E.len y]; exact (List.getElem?_eq_some_iff.1 hu).1
    by_cases hn : i = n
    · subst hn
      simp [hi] at hy
      subst hy
      rw [r3 j (by rw [E.len]; exact hj)]
      exact hu
    · rw [List.getElem?_set_ne hn] at hy
      have ho : n * E.k + j < i * E.k ∨ i * E.k + (E.enc z).length ≤ n * E.k + j := by
        rw [E.len]
        rcases Nat.lt_or_gt_of_ne hn with h | h
        · right
          have := Nat.mul_le_mul_right E.k (show i + 1 ≤ n by omega)
          rw [Nat.add_mul, Nat.one_mul] at this
          omega
        · left
          have := Nat.mul_le_mul_right E.k (show n + 1 ≤ i by omega)
          rw [Nat.add_mul, Nat.one_mul] at this
          omega
      rw [r4 _ ho]
      exact h5 n y hy j u hu
/-- a struct's value goes into an element -/
theorem wpList_store_elem {ops : Array Oper} {rest : List Oper} {o : Oper} {a : Act} {Q : Exit → Act → World → Prop} (hgd : o.guard = none) (ty : TypeId) (x y : Operand) (ho : o.op = .store ty x y) {t : TypeId} {g cap i : Nat} {D : List α} (z : α)
    (hx : a.eval x = .pointer (some ⟨g, i * E.k, none⟩)) (hy : a.eval y = .agg (E.enc z).toArray) (hO : OwnAt E w t g cap D) (hi : i < D.length) (hinfo : (P.info? ty).map (·.size) = some E.k)
    (h : ∀ w', OwnAt E w' t g cap (D.set i z) → Kept (fun b => b = g) w w' → wpList P ops Q rest (a.put o.dst undef) w') : wpList P ops Q (o :: rest) a w :=
  wpList_plain hgd fun _ hK => by
    obtain ⟨w', r1, r2, r3⟩ := run_storeVar_elem (P := P) (ty := ty) (z := z) hO hi hinfo
    unfold Oper.wp execOp
    simp only [ho, hx, hy, Instr.storeAt, Instr.sureAddr, Sem.run_bind, Sem.run_pure, Result.andThen_ok, r1]
    exact hK _ _ (h w' r2 r3)
theorem run_loadVar_elem {ty : TypeId} {g off : Nat} {z : α} {d : TypeDesc} (hc : ∀ j u, (E.enc z)[j]? = some u → w.cell? ⟨g, off + j, none⟩ = some u) (hu : P.underlying ty = some d) (hd : (match d with | .struct _ | .array _ _ => true | _ => false) = true)
    (hinfo : (P.info? ty).map (·.size) = some E.k) : (loadVar ty ⟨g, off, none⟩).run P w = .ok (.agg (E.enc z).toArray) w := by
  have hl := run_loadCells_list (P := P) w ⟨g, off, none⟩ (E.enc z) (fun j v hv => by rw [Addr.add_lit]; exact hc j v hv)
  rw [E.len] at hl
  cases hq : P.info? ty with
  | none => simp [hq] at hinfo
  | some i =>
    have hs : i.size = E.k := by simpa [hq] using hinfo
    have hagg : (isAgg ty).run P w = .ok true w := by
      unfold isAgg
      rw [Sem.run_bind, run_underlying hu w]
      cases d <;> simp_all
    simp [loadVar, Sem.run_bind, hagg, sizeOf, typeInfo, hq, hs, hl]
/-- an element is loaded whole -/
theorem wpList_load_elem {ops : Array Oper} {rest : List Oper} {o : Oper} {a : Act} {Q : Exit → Act → World → Prop} (hgd : o.guard = none) (ty : TypeId) (x : Operand) (ho : o.op = .load ty x) {t : TypeId} {g cap i : Nat} {D : List α} {z : α} {d : TypeDesc}
    (hx : a.eval x = .pointer (some ⟨g, i * E.k, none⟩)) (hO : OwnAt E w t g cap D) (hz : D[i]? = some z) (hu : P.underlying ty = some d) (hd : (match d with | .struct _ | .array _ _ => true | _ => false) = true) (hinfo : (P.info? ty).map (·.size) = some E.k)
    (h : wpList P ops Q rest (a.put o.dst (.agg (E.enc z).toArray)) w) : wpList P ops Q (o :: rest) a w :=
  wpList_plain hgd fun _ hK => by
    unfold Oper.wp execOp
    simp only [ho, hx, Instr.loadAt, Instr.sureAddr, Sem.run_bind, Sem.run_pure, Result.andThen_ok, run_loadVar_elem (P := P) (E := E) (z := z) (g := g) (off := i * E.k) (fun j u hu => hO.cell hz hu) hu hd hinfo]
    exact hK _ _ h
end
end Go.Proofs.YtlafodnaifghcaaGreat
namespace Go.Proofs.YtlafodnaifghcaaGreat
open Go.RowKit
theorem wpList_append_row {P : Program} {α : Type} (E : Enc α) {w : World} {ops : Array Oper} {rest : List Oper} {o : Oper} {a : Act} {Q : Exit → Act → World → Prop} (hgd : o.guard = none) (s x : Operand) (t : TypeId)
    (ho : o.op = .call { callee := .builtin .append, args := #[s, x], argTypes := #[t, t] }) (base : Nat) (e : TypeId) (z : Value) (bytes : Nat) (ht : P.underlying t = some (.slice e))
    (hinfo : (P.info? e).map (fun i => (i.zero, i.size, i.bytes)) = some (some z, E.k, bytes)) (hzs : z.cells.size = E.k) {v vs : Value} {D L : List α} (hs : a.eval s = v) (hx : a.eval x = vs)
    (hown : w.ownsRow base e E.k v D.length (E.flat D)) (hL : SlAt E w vs L) (h63 : D.length + L.length ≤ maxLen) (hbytes : (D.length + L.length) * bytes ≤ 140737488355328) (hbase : base ≤ w.heap.size)
    (h : ∀ v' w', w'.ownsRow base e E.k v' (D ++ L).length (E.flat (D ++ L)) → Kept (fun b => v.ownBlock = some b) w w' → wpList P ops Q rest (a.put o.dst v') w') : wpList P ops Q (o :: rest) a w := by
  obtain ⟨i0, hi, hz0, hz1, hz2⟩ := info_parts hinfo
  obtain ⟨ad, c, rfl, _, _⟩ := hL.sl
  cases ad with
  | none =>
    obtain ⟨rfl, _, rfl⟩ := hL.none_
    refine wpList_append_own_none hgd s x t ho base e i0 E.k ht hi v D.length (E.flat D) hs hown hx ?_
    refine h v w ?_ (Kept.refl _ _)
    rw [List.append_nil]
    exact hown
  | some y =>
    obtain ⟨_, hn⟩ := hL.at_
    refine wpList_append_own _ hgd s x t ho base e i0 z E.k bytes ht hi hz0 hz1 hz2 hzs E.pos v D.length (E.flat D) hs hown y L.length c (E.flat L) hx (E.flat_len L) hn (E.flat_one_cell L) h63 hbytes hbase ?_
    intro v' w' ho' hg _
    refine h v' w' ?_ (Kept.grown (Kept.refl _ _) hg (fun k e _ => e))
    rw [List.length_append, E.flat_append]
    exact ho'
theorem owns_new {w : World} {base n size : Nat} {e : TypeId} {v : Value} {xs : List Value} (h : w.ownsRow base e size v n xs) : ∀ b, v.ownBlock = some b → base ≤ b := fun b hb => by
  rcases h.2 with ⟨e2, _⟩ | ⟨g3, c2, cur, e2, h1, h2, _⟩
  · rw [e2] at hb; cases hb
  · rw [e2] at hb; cases hb; exact h1
/-- a frame that spares what was there at w -/
theorem Kept.over {w w1 w2 : World} {S : Nat → Prop} (h : Kept (fun _ => False) w w1) (k : Kept S w1 w2) (hb : ∀ b, S b → w.heap.size ≤ b) : Kept (fun _ => False) w w2 := h.trans k fun i hi e => by have := hb i e; omega
theorem SlAt.lit {α : Type} {E : Enc α} {w : World} {t : TypeId} (L : List α) (cs : Array Value) (hc : cs = (E.flat L).toArray) (hl : L.length ≤ maxLen) : SlAt E (w.alloc (.cells cs t)) (.slice (some ⟨w.heap.size, 0, none⟩) L.length L.length) L := by
  subst hc
  refine .inr ⟨⟨w.heap.size, 0, none⟩, L.length, rfl, Nat.le_refl _, hl, fun _ => rfl, fun i y hy j u hu => ?_⟩
  rw [Nat.zero_add]
  refine (Blk.new w t _).cell' ?_
  rw [← Array.getElem?_toList]
  exact E.flat_get hy hu
end Go.Proofs.YtlafodnaifghcaaGreat
namespace Go.Proofs.YtlafodnaifghcaaGreat
open Go.RowKit
/-- the row went on in its own block, or a new block was made and nothing else has changed -/
def Grow1 (w w' : World) (v v' : Value) : Prop := (v'.ownBlock = v.ownBlock ∧ Kept (fun b => v.ownBlock = some b) w w') ∨ (v'.ownBlock = some w.heap.size ∧ Kept (fun _ => False) w w')
theorem run_append_keeps {P : Program} {α : Type} (E : Enc α) {w : World} (t ty e : TypeId) (base : Nat) (z : Value) (bytes : Nat) (ht : P.underlying t = some (.slice e))
    (hinfo : (P.info? e).map (fun i => (i.zero, i.size, i.bytes)) = some (some z, E.k, bytes)) (hzs : z.cells.size = E.k) (hb4 : bytes ≤ 4096) {v : Value} {D : List α} {x : α}
    (hown : w.ownsRow base e E.k v D.length (E.flat D)) {ad : Addr} {c : Nat} (hL : SlAt E w (.slice (some ad) 1 c) [x]) (h63 : D.length ≤ 1000000) (hbase : base ≤ w.heap.size) :
    ∃ v' w', (Builtin.append_ #[t, t] ty #[v, .slice (some ad) 1 c]).run P w = .ok v' w' ∧ w'.ownsRow base e E.k v' (D.length + 1) (E.flat (D ++ [x])) ∧ Grow1 w w' v v' := by
  obtain ⟨i, hi, hz, hsize, hby⟩ := info_parts hinfo
  obtain ⟨_, hn⟩ := hL.at_
  have hbb : (D.length + 1) * bytes ≤ 140737488355328 := by
    have : (D.length + 1) * bytes ≤ 1000001 * 4096 := Nat.mul_le_mul (by omega) hb4
    omega
  have hm1 : D.length + 1 ≤ maxLen := by unfold maxLen; omega
  obtain ⟨v', w', hr, h2, h3, _, h5⟩ := run_append_own_at (P := P) w base t ty e i z E.k bytes ht hi hz hsize hby hzs E.pos v D.length (E.flat D) hown ad 1 c (E.flat [x]) (E.flat_len [x]) hn (E.flat_one_cell [x]) hm1 hbb hbase
  refine ⟨v', w', hr, by rw [E.flat_append]; exact h2, ?_⟩
  rcases h5 with h5 | h5
  · exact .inl ⟨h5, Kept.grown (Kept.refl _ _) h3 (fun k e _ => e)⟩
  · right
    refine ⟨h5, ?_⟩
    have hs : Src P i.size t (.slice (some ad) 1 c) 1 (E.flat [x]) w := by
      rw [hsize]
      exact Src.ofSlice w ht ad 1 c (E.flat [x]) (E.flat_len [x]) hn (E.flat_one_cell [x])
    have hcap : ∀ old, old < D.length + 1 → Builtin.nextslicecap (D.length + 1) old * i.bytes ≤ 281474976710656 := fun old h => by
      have h1 := nextslicecap_le h
      rw [hby]
      have : Builtin.nextslicecap (D.length + 1) old * bytes ≤ 4000000 * 4096 := Nat.mul_le_mul (by omega) hb4
      omega
    rcases hown.2 with ⟨rfl, hxs⟩ | ⟨g, cap, cur, rfl, hbg, hg, hnc, hcm, hcs, htake⟩
    · have hD : D.length = 0 := by assumption
      rw [hD] at hcap
      have hrun := run_append_grow_src (P := P) (w := w) t t ty e i z ht hi hz none 0 0 [] (run_firstCells_none _ _ _ _ _) (.slice (some ad) 1 c) 1 (E.flat [x]) hs (by omega) (by omega) (hcap 0 (by omega))
      rw [hr] at hrun
      injection hrun with e1 e2
      rw [e2]
      exact ((Kept.refl _ _).drew).alloc _
    · by_cases hroom : D.length + 1 ≤ cap
      · exfalso
        have hblk : Blk w g e cur := hg
        have hsz : (D.length + 1) * E.k ≤ cap * E.k := Nat.mul_le_mul_right _ hroom
        have hl1 : (E.flat [x]).length = E.k := by rw [E.flat_len]; simp
        have hrun := run_append_room_src (P := P) (w := w) t t ty e i ht hi g 0 D.length cap (.slice (some ad) 1 c) 1 (E.flat [x]) hs hroom (fun j hj => by
          rw [hblk.cell, hsize]
          rw [hl1] at hj
          rw [Nat.add_mul] at hsz
          rw [Array.getElem?_eq_getElem (show 0 + D.length * E.k + j < cur.size by omega)]
          rfl) (fun j _ => hblk.frozen _)
        rw [hr] at hrun
        injection hrun with e1 e2
        rw [e1] at h5
        have hlt := hblk.lt
        have hgs : g = w.heap.size := by simpa [Value.ownBlock] using h5
        omega
      · have hold : (Builtin.firstCells i.size D.length (.slice (some ⟨g, 0, none⟩) D.length cap)).run P w.drew = .ok (E.flat D).toArray w.drew := by
          rw [hsize]
          refine run_firstCells_some _ E.k D.length ⟨g, 0, none⟩ D.length cap (E.flat D) hown.1 (fun j u hu => ?_)
          rw [Addr.add_lit, Nat.zero_add]
          show w.cell? ⟨g, j, none⟩ = some u
          have hblk : Blk w g e cur := hg
          rw [hblk.cell]
          rw [← htake, List.getElem?_take] at hu
          split at hu
          · simpa using hu
          · cases hu
        have hrun := run_append_grow_src (P := P) (w := w) t t ty e i z ht hi hz (some ⟨g, 0, none⟩) D.length cap (E.flat D) hold (.slice (some ad) 1 c) 1 (E.flat [x]) hs (by omega) (by omega) (hcap cap (by omega))
        rw [hr] at hrun
        injection hrun with e1 e2
        rw [e2]
        exact ((Kept.refl _ _).drew).alloc _
theorem wpList_append_keeps {P : Program} {α : Type} (E : Enc α) {w : World} {ops : Array Oper} {rest : List Oper} {o : Oper} {a : Act} {Q : Exit → Act → World → Prop} (hgd : o.guard = none) (s y : Operand) (t : TypeId)
    (ho : o.op = .call { callee := .builtin .append, args := #[s, y], argTypes := #[t, t] }) (base : Nat) (e : TypeId) (z : Value) (bytes : Nat) (ht : P.underlying t = some (.slice e))
    (hinfo : (P.info? e).map (fun i => (i.zero, i.size, i.bytes)) = some (some z, E.k, bytes)) (hzs : z.cells.size = E.k) (hb4 : bytes ≤ 4096) {v : Value} {D : List α} {x : α} {ad : Addr} {c : Nat} (hs : a.eval s = v) (hx : a.eval y = .slice (some ad) 1 c)
    (hown : w.ownsRow base e E.k v D.length (E.flat D)) (hL : SlAt E w (.slice (some ad) 1 c) [x]) (h63 : D.length ≤ 1000000) (hbase : base ≤ w.heap.size)
    (h : ∀ v' w', w'.ownsRow base e E.k v' (D.length + 1) (E.flat (D ++ [x])) → Grow1 w w' v v' → wpList P ops Q rest (a.put o.dst v') w') : wpList P ops Q (o :: rest) a w := by
  refine wpList_plain hgd fun K hK => ?_
  obtain ⟨v', w', hr, h2, h3⟩ := run_append_keeps (P := P) E t o.type e base z bytes ht hinfo hzs hb4 hown hL h63 hbase
  unfold Oper.wp execOp
  simp only [ho, resolve, invoke, builtin, Sem.run_bind, Sem.run_pure, Result.andThen_ok, List.map_toArray, List.map_cons, List.map_nil, hs, hx, hr]
  exact hK _ _ (h v' w' h2 h3)
end Go.Proofs.YtlafodnaifghcaaGreat
namespace Go.Proofs.YtlafodnaifghcaaGreat
open Go.RowKit

/-- how a key stands: what the model's look for it gives -/
structure KeyE (P : Program) (kt : TypeId) (κ : Type) [DecidableEq κ] where
  enc : κ → Value
  check : ∀ (e : Bool) (k : κ) (w : World), (Instr.checkKey e 10000 kt (enc k)).run P w = .ok () w
  now : ∀ (k x : κ) (d : TypeDesc), P.underlying kt = some d → Instr.sameNow d (enc k) (enc x) = none ∨ Instr.sameNow d (enc k) (enc x) = some (decide (k = x))
  ask : ∀ (k x : κ) (w : World), (Op.equal kt (enc k) (enc x)).run P w = .ok (decide (k = x)) w
  bits : ∀ k, Instr.sameBits 10000 (enc k) (enc k) = true
  und : ∃ d, P.underlying kt = some d
section
variable {κ : Type} [DecidableEq κ]
def getK (kvs : List (κ × Value)) (k : κ) : Option Value := (kvs.find? fun x => decide (x.1 = k)).map (·.2)
def putK : List (κ × Value) → κ → Value → List (κ × Value)
  | [], k, v => [(k, v)]
  | x :: r, k, v => if x.1 = k then (k, v) :: r else x :: putK r k v
def delK : List (κ × Value) → κ → List (κ × Value)
  | [], _ => []
  | x :: r, k => if x.1 = k then r else x :: delK r k
def findK : List (κ × Value) → κ → Nat → Option (Nat × Value)
  | [], _, _ => none
  | x :: r, k, i => if x.1 = k then some (i, x.2) else findK r k (i + 1)
theorem findK_get (kvs : List (κ × Value)) (k : κ) : ∀ i, (findK kvs k i).map (·.2) = getK kvs k := by
  induction kvs with
  | nil => intro i; rfl
  | cons x r ih =>
    intro i
    by_cases h : x.1 = k
    · simp [findK, getK, h]
    · have := ih (i + 1)
      simp only [getK] at this
      simp [findK, getK, h, this]
theorem findK_spec (kvs : List (κ × Value)) (k : κ) : ∀ i n v, findK kvs k i = some (n, v) → i ≤ n ∧ ∃ x, kvs[n - i]? = some x ∧ x.1 = k ∧ x.2 = v := by
  induction kvs with
  | nil => intro i n v h; simp [findK] at h
  | cons x r ih =>
    intro i n v h
    by_cases hx : x.1 = k
    · simp [findK, hx] at h
      obtain ⟨rfl, rfl⟩ := h
      exact ⟨Nat.le_refl _, x, by simp, hx, rfl⟩
    · simp [findK, hx] at h
      obtain ⟨h1, y, h2, h3, h4⟩ := ih _ _ _ h
      exact ⟨by omega, y, by rw [show n - i = (n - (i + 1)) + 1 by omega]; simpa using h2, h3, h4⟩
theorem putK_found (kvs : List (κ × Value)) (k : κ) (v : Value) : ∀ i n u, findK kvs k i = some (n, u) → putK kvs k v = kvs.set (n - i) (k, v) := by
  induction kvs with
  | nil => intro i n u h; simp [findK] at h
  | cons x r ih =>
    intro i n u h
    by_cases hx : x.1 = k
    · simp [findK, hx] at h
      obtain ⟨rfl, _⟩ := h
      simp [putK, hx]
    · simp [findK, hx] at h
      have := findK_spec r k _ _ _ h
      rw [show n - i = (n - (i + 1)) + 1 by omega]
      simp [putK, hx, ih _ _ _ h]
theorem putK_none (kvs : List (κ × Value)) (k : κ) (v : Value) : ∀ i, findK kvs k i = none → putK kvs k v = kvs ++ [(k, v)] := by
  induction kvs with
  | nil => intro i h; rfl
  | cons x r ih =>
    intro i h
    by_cases hx : x.1 = k
    · simp [findK, hx] at h
    · simp [findK, hx] at h
      simp [putK, hx, ih _ h]
theorem delK_found (kvs : List (κ × Value)) (k : κ) : ∀ i n u, findK kvs k i = some (n, u) → delK kvs k = kvs.eraseIdx (n - i) := by
  induction kvs with
  | nil => intro i n u h; simp [findK] at h
  | cons x r ih =>
    intro i n u h
    by_cases hx : x.1 = k
    · simp [findK, hx] at h
      obtain ⟨rfl, _⟩ := h
      simp [delK, hx]
    · simp [findK, hx] at h
      have := findK_spec r k _ _ _ h
      rw [show n - i = (n - (i + 1)) + 1 by omega]
      simp [delK, hx, ih _ _ _ h]
theorem delK_none (kvs : List (κ × Value)) (k : κ) : ∀ i, findK kvs k i = none → delK kvs k = kvs := by
  induction kvs with
  | nil => intro i h; rfl
  | cons x r ih =>
    intro i h
    by_cases hx : x.1 = k
    · simp [findK, hx] at h
    · simp [findK, hx] at h
      simp [delK, hx, ih _ h]
theorem findK_none_iff (kvs : List (κ × Value)) (k : κ) (i : Nat) : findK kvs k i = none ↔ getK kvs k = none := by
  rw [← findK_get kvs k i]; cases findK kvs k i <;> simp
theorem getK_put (kvs : List (κ × Value)) (k x : κ) (v : Value) : getK (putK kvs k v) x = if k = x then some v else getK kvs x := by
  induction kvs with
  | nil => by_cases h : k = x <;> simp [putK, getK, h]
  | cons y r ih =>
    unfold putK
    by_cases hy : y.1 = k
    · rw [if_pos hy]
      by_cases h : k = x
      · simp [getK, h]
      · have : ¬ y.1 = x := fun e => h (hy.symm.trans e)
        simp [getK, h, this]
    · rw [if_neg hy]
      by_cases hyx : y.1 = x
      · have : ¬ k = x := fun e => hy (hyx.trans e.symm)
        simp [getK, hyx, this]
      · unfold getK at ih ⊢
        rw [List.find?_cons_of_neg (by simpa using hyx), ih, List.find?_cons_of_neg (by simpa using hyx)]
/-- no key twice -/
def KeysOk (kvs : List (κ × Value)) : Prop := (kvs.map (·.1)).Nodup
theorem getK_none {kvs : List (κ × Value)} {x : κ} : getK kvs x = none ↔ x ∉ kvs.map (·.1) := by
  induction kvs with
  | nil => simp [getK]
  | cons y r ih =>
    by_cases h : y.1 = x
    · simp [getK, h]
    · unfold getK at ih ⊢
      rw [List.find?_cons_of_neg (by simpa using h), ih]
      simp only [List.map_cons, List.mem_cons, not_or]
      exact ⟨fun h1 => ⟨fun e => h e.symm, h1⟩, fun h1 => h1.2⟩
theorem KeysOk.put {kvs : List (κ × Value)} (h : KeysOk kvs) (k : κ) (v : Value) : KeysOk (putK kvs k v) := by
  unfold KeysOk at h ⊢
  induction kvs with
  | nil => simp [putK]
  | cons y r ih =>
    simp only [List.map_cons, List.nodup_cons] at h
    unfold putK
    by_cases hy : y.1 = k
    · rw [if_pos hy]; simp only [List.map_cons, List.nodup_cons]; rw [← hy]; exact h
    · rw [if_neg hy]
      simp only [List.map_cons, List.nodup_cons]
      refine ⟨?_, ih h.2⟩
      rw [← getK_none, getK_put, if_neg (fun e => hy e.symm), getK_none]
      exact h.1
theorem getK_del {kvs : List (κ × Value)} (h : KeysOk kvs) (k x : κ) : getK (delK kvs k) x = if k = x then none else getK kvs x := by
  unfold KeysOk at h
  induction kvs with
  | nil => simp [delK, getK]
  | cons y r ih =>
    simp only [List.map_cons, List.nodup_cons] at h
    unfold delK
    by_cases hy : y.1 = k
    · rw [if_pos hy]
      by_cases hx : k = x
      · rw [if_pos hx, getK_none, ← hx, ← hy]; exact h.1
      · rw [if_neg hx]
        have : ¬ y.1 = x := fun e => hx (hy.symm.trans e)
        unfold getK
        rw [List.find?_cons_of_neg (by simpa using this)]
    · rw [if_neg hy]
      by_cases hyx : y.1 = x
      · have : ¬ k = x := fun e => hy (hyx.trans e.symm)
        simp [getK, hyx, this]
      · have := ih h.2
        unfold getK at this ⊢
        rw [List.find?_cons_of_neg (by simpa using hyx), this, List.find?_cons_of_neg (by simpa using hyx)]
theorem KeysOk.del {kvs : List (κ × Value)} (h : KeysOk kvs) (k : κ) : KeysOk (delK kvs k) := by
  unfold KeysOk at h ⊢
  have : (delK kvs k).map (·.1) |>.Sublist (kvs.map (·.1)) := by
    refine List.Sublist.map _ ?_
    clear h
    induction kvs with
    | nil => exact List.Sublist.refl _
    | cons y r ih =>
      unfold delK
      split
      · exact List.sublist_cons_self _ _
      · exact ih.cons_cons _
  exact this.nodup h

/-- block b is a map of these entries, in their order -/
def MapK {P : Program} {kt : TypeId} (K : KeyE P kt κ) (w : World) (b : Nat) (kvs : List (κ × Value)) : Prop :=
  ∃ es clk, w.heap[b]? = some (.map es clk) ∧ es.toList.map (fun e => (e.key, e.val)) = kvs.map (fun x => (K.enc x.1, x.2))
variable {P : Program} {w : World} {T kt et : TypeId} {K : KeyE P kt κ} {b : Nat} {kvs : List (κ × Value)} {k : κ}
theorem run_findAsking : ∀ (l : List MapEntry) (kvs : List (κ × Value)) (i : Nat), l.map (fun e => (e.key, e.val)) = kvs.map (fun x => (K.enc x.1, x.2)) → (Instr.findAsking kt (K.enc k) l i).run P w = .ok (findK kvs k i) w := by
  intro l
  induction l with
  | nil => intro kvs i h; cases kvs with | nil => simp [Instr.findAsking, findK] | cons x r => simp at h
  | cons e l ih =>
    intro kvs i h
    cases kvs with
    | nil => simp at h
    | cons x r =>
      simp only [List.map_cons, List.cons.injEq, Prod.mk.injEq] at h
      obtain ⟨⟨h1, h2⟩, h3⟩ := h
      have ha := K.ask k x.1 w
      rw [← h1] at ha
      by_cases hx : x.1 = k
      · simp [Instr.findAsking, ha, hx, findK, h2]
      · have hx' : ¬ k = x.1 := fun e => hx e.symm
        simp [Instr.findAsking, ha, hx, hx', findK, ih r (i + 1) h3]
theorem findNow_any {d : TypeDesc} (hd : P.underlying kt = some d) : ∀ (l : List MapEntry) (kvs : List (κ × Value)) (i : Nat), l.map (fun e => (e.key, e.val)) = kvs.map (fun x => (K.enc x.1, x.2)) →
    Instr.findNow d (K.enc k) l i = none ∨ Instr.findNow d (K.enc k) l i = some (findK kvs k i) := by
  intro l
  induction l with
  | nil => intro kvs i h; cases kvs with | nil => exact .inr rfl | cons x r => simp at h
  | cons e l ih =>
    intro kvs i h
    cases kvs with
    | nil => simp at h
    | cons x r =>
      simp only [List.map_cons, List.cons.injEq, Prod.mk.injEq] at h
      obtain ⟨⟨h1, h2⟩, h3⟩ := h
      have hn := K.now k x.1 d hd
      rw [← h1] at hn
      rcases hn with hn | hn
      · left; simp [Instr.findNow, hn]
      · by_cases hx : x.1 = k
        · right; simp [Instr.findNow, hn, hx, findK, h2]
        · have hx' : ¬ k = x.1 := fun e => hx e.symm
          rcases ih r (i + 1) h3 with h4 | h4
          · left; simp [Instr.findNow, hn, hx', h4]
          · right; simp [Instr.findNow, hn, hx, hx', findK, h4]
theorem run_findKey_any {es : List MapEntry} (he : es.map (fun e => (e.key, e.val)) = kvs.map (fun x => (K.enc x.1, x.2))) : (Instr.findKey kt (K.enc k) es).run P w = .ok (findK kvs k 0) w := by
  obtain ⟨d, hd⟩ := K.und
  rcases findNow_any (k := k) hd es kvs 0 he with h | h
  · simp [Instr.findKey, run_underlying hd, h, run_findAsking es kvs 0 he]
  · simp [Instr.findKey, run_underlying hd, h]
theorem run_lookupK_ok (ht : P.underlying T = some (.map kt et)) (hm : MapK K w b kvs) {v : Value} (hv : getK kvs k = some v) :
    (Instr.lookup T (.map (some b)) (K.enc k) true).run P w = .ok (.tuple #[v, .bool true]) w := by
  obtain ⟨es, clk, hb, he⟩ := hm
  have hg := findK_get kvs k 0
  rw [hv] at hg
  obtain ⟨⟨n, u⟩, hf, rfl⟩ : ∃ x, findK kvs k 0 = some x ∧ x.2 = v := by cases h : findK kvs k 0 <;> simp_all
  simp [Instr.lookup, run_underlying ht, MapKept.run_getObj_map hb, Result.andThen, K.check, run_findKey_any he, hf]
theorem run_lookupK_none_ok (ht : P.underlying T = some (.map kt et)) (hm : MapK K w b kvs) (hv : getK kvs k = none) {z : Value} (hz : (zeroValue et).run P w = .ok z w) :
    (Instr.lookup T (.map (some b)) (K.enc k) true).run P w = .ok (.tuple #[z, .bool false]) w := by
  obtain ⟨es, clk, hb, he⟩ := hm
  simp [Instr.lookup, run_underlying ht, MapKept.run_getObj_map hb, Result.andThen, K.check, run_findKey_any he, (findK_none_iff kvs k 0).2 hv, hz]
theorem run_lookupK (ht : P.underlying T = some (.map kt et)) (hm : MapK K w b kvs) {v : Value} (hv : getK kvs k = some v) :
    (Instr.lookup T (.map (some b)) (K.enc k) false).run P w = .ok v w := by
  obtain ⟨es, clk, hb, he⟩ := hm
  have hg := findK_get kvs k 0
  rw [hv] at hg
  obtain ⟨⟨n, u⟩, hf, rfl⟩ : ∃ x, findK kvs k 0 = some x ∧ x.2 = v := by cases h : findK kvs k 0 <;> simp_all
  simp [Instr.lookup, run_underlying ht, MapKept.run_getObj_map hb, Result.andThen, K.check, run_findKey_any he, hf]
theorem run_lookupK_none (ht : P.underlying T = some (.map kt et)) (hm : MapK K w b kvs) (hv : getK kvs k = none) {z : Value} (hz : (zeroValue et).run P w = .ok z w) :
    (Instr.lookup T (.map (some b)) (K.enc k) false).run P w = .ok z w := by
  obtain ⟨es, clk, hb, he⟩ := hm
  simp [Instr.lookup, run_underlying ht, MapKept.run_getObj_map hb, Result.andThen, K.check, run_findKey_any he, (findK_none_iff kvs k 0).2 hv, hz]
theorem MapK.lt (h : MapK K w b kvs) : b < w.heap.size := by
  obtain ⟨es, clk, h1, h2⟩ := h
  rcases Nat.lt_or_ge b w.heap.size with h | h
  · exact h
  · simp [Array.getElem?_eq_none h] at h1
theorem MapK.keep {S : Nat → Prop} {w' : World} (h : MapK K w b kvs) (hk : Kept S w w') (hb : ¬ S b) : MapK K w' b kvs := by
  have hlt := h.lt
  obtain ⟨es, clk, h1, h2⟩ := h
  exact ⟨es, clk, by rw [hk.block b hlt hb]; exact h1, h2⟩
theorem MapK.ne_blk {g : Nat} {t : TypeId} {cs : Array Value} (h : MapK K w b kvs) (hb : Blk w g t cs) : g ≠ b := by
  rintro rfl
  obtain ⟨es, clk, h1, h2⟩ := h
  unfold Blk at hb
  rw [hb] at h1
  cases h1
theorem MapK.made (w : World) : MapK K (w.alloc (.map #[] 0)) w.heap.size [] := ⟨#[], 0, heap_alloc_new w _, rfl⟩
theorem kept_obj (w : World) (b : Nat) (o : Obj) : Kept (· = b) w { w with heap := w.heap.setIfInBounds b o } := ⟨rfl, rfl, rfl, by simp, fun i _ hn => by
  show (w.heap.setIfInBounds b o)[i]? = _
  rw [Array.getElem?_setIfInBounds_ne (fun e => hn e.symm)]⟩
theorem run_updateK (ht : P.underlying T = some (.map kt et)) (hm : MapK K w b kvs) (v : Value) :
    ∃ w', (Instr.mapUpdate T (.map (some b)) (K.enc k) v).run P w = .ok () w' ∧ MapK K w' b (putK kvs k v) ∧ Kept (· = b) w w' := by
  have hlt := hm.lt
  obtain ⟨es, clk, hb, he⟩ := hm
  cases hf : findK kvs k 0 with
  | none =>
    refine ⟨{ w with heap := w.heap.setIfInBounds b (.map (es.push { key := K.enc k, val := v, born := clk }) (clk + 1)) }, ?_, ⟨es.push { key := K.enc k, val := v, born := clk }, clk + 1, ?_, ?_⟩, kept_obj _ _ _⟩
    · simp [Instr.mapUpdate, run_underlying ht, MapKept.run_getObj_map hb, Result.andThen, K.check, run_findKey_any he, hf, MapKept.run_setObj_map _ hb]
    · simp [hlt]
    · rw [putK_none kvs k v 0 hf]; simp [he]
  | some x =>
    obtain ⟨n, u⟩ := x
    obtain ⟨-, x, hx, rfl, rfl⟩ := findK_spec kvs k 0 n u hf
    have hn : n < kvs.length := by
      rcases Nat.lt_or_ge n kvs.length with h | h
      · exact h
      · rw [List.getElem?_eq_none (by omega)] at hx; cases hx
    have hlen : es.size = kvs.length := by have := congrArg List.length he; simpa using this
    have hkey : es[n].key = K.enc x.1 := by
      have h0 := congrArg (·[n]?) he
      simp only [List.getElem?_map] at h0
      rw [Nat.sub_zero] at hx
      rw [hx] at h0
      simp [Array.getElem?_eq_getElem (show n < es.size by omega)] at h0
      exact h0.1
    refine ⟨{ w with heap := w.heap.setIfInBounds b (.map (es.modify n fun e => { e with key := K.enc x.1, val := v }) clk) }, ?_, ⟨es.modify n fun e => { e with key := K.enc x.1, val := v }, clk, ?_, ?_⟩, kept_obj _ _ _⟩
    · simp [Instr.mapUpdate, run_underlying ht, MapKept.run_getObj_map hb, Result.andThen, K.check, run_findKey_any he, hf, MapKept.run_setObj_map _ hb, Array.getElem?_eq_getElem (show n < es.size by omega), hkey, Instr.keyThatStays, K.bits]
    · simp [hlt]
    · rw [putK_found kvs x.1 v 0 n _ hf]
      apply List.ext_getElem?
      intro i
      have h0 := congrArg (·[i]?) he
      simp only [List.getElem?_map] at h0 ⊢
      rw [Nat.sub_zero, Array.getElem?_toList, Array.getElem?_modify, List.getElem?_set]
      rw [Array.getElem?_toList] at h0
      by_cases hi : n = i
      · subst hi
        simp [hn, Array.getElem?_eq_getElem (show n < es.size by omega)]
      · simp [hi, h0]
theorem run_deleteK (ht : P.underlying T = some (.map kt et)) (ty : TypeId) (hm : MapK K w b kvs) :
    ∃ w', (Builtin.delete_ #[T, kt] ty #[.map (some b), K.enc k]).run P w = .ok (.tuple #[]) w' ∧ MapK K w' b (delK kvs k) ∧ Kept (· = b) w w' := by
  have hlt := hm.lt
  obtain ⟨es, clk, hb, he⟩ := hm
  cases hf : findK kvs k 0 with
  | none =>
    refine ⟨{ w with heap := w.heap.setIfInBounds b (.map es clk) }, ?_, ⟨es, clk, ?_, ?_⟩, kept_obj _ _ _⟩
    · simp [Builtin.delete_, run_underlying ht, MapKept.run_getObj_map hb, Result.andThen, K.check, run_findKey_any he, hf, MapKept.run_setObj_map _ hb]
    · simp [hlt]
    · rw [delK_none kvs k 0 hf]; exact he
  | some x =>
    obtain ⟨n, u⟩ := x
    refine ⟨{ w with heap := w.heap.setIfInBounds b (.map (es.eraseIdxIfInBounds n) clk) }, ?_, ⟨es.eraseIdxIfInBounds n, clk, ?_, ?_⟩, kept_obj _ _ _⟩
    · simp [Builtin.delete_, run_underlying ht, MapKept.run_getObj_map hb, Result.andThen, K.check, run_findKey_any he, hf, MapKept.run_setObj_map _ hb]
    · simp [hlt]
    · rw [delK_found kvs k 0 n _ hf, Array.toList_eraseIdxIfInBounds, Nat.sub_zero, Go.ChangeMaps.map_eraseIdx, he, ← Go.ChangeMaps.map_eraseIdx]
end
end Go.Proofs.YtlafodnaifghcaaGreat
