/- append of one element to a row of the call's own: what becomes of the old row. A row whose head may have been cut off, appended to by one. It speaks of no program of its own. -/
import Derived.Test.YtaaeomapbigfgaaGreatV4
import Derived.Maps.AppendAt
import Derived.Deep.AppendSrc
import Derived.Test.YtaaeomapbigfgaaGreatV6
namespace Go.Proofs.YtaaeomapbigfgaaGreat
open Go.RowKit
/-- the row went on in its own block, or a new block was made and nothing else has changed -/
def Grow1 (w w' : World) (v v' : Value) : Prop := (v'.ownBlock = v.ownBlock ∧ Kept (fun b => v.ownBlock = some b) w w') ∨ (v'.ownBlock = some w.heap.size ∧ Kept (fun _ => False) w w')
theorem run_append_keeps {P : Program} {α : Type} (E : Enc α) {w : World} (t ty e : TypeId) (base : Nat) (z : Value) (bytes : Nat) (ht : P.underlying t = some (.slice e))
    (hinfo : (P.info? e).map (fun i => (i.zero, i.size, i.bytes)) = some (some z, E.k, bytes)) (hzs : z.cells.size = E.k) (hb4 : bytes ≤ 4096) {v : Value} {D : List α} {x : α}
    (hown : w.ownsRow base e E.k v D.length (E.flat D)) {ad : Addr} {c : Nat} (hL : SlAt E w (.slice (some ad) 1 c) [x]) (h63 : D.length ≤ 1000000) (hbase : base ≤ w.heap.size) :
    ∃ v' w', (Builtin.append_ #[t, t] ty #[v, .slice (some ad) 1 c]).run P w = .ok v' w' ∧ w'.ownsRow base e E.k v' (D.length + 1) (E.flat (D ++ [x])) ∧ Grow1 w w' v v' := by
  obtain ⟨i, hi, hz, hsize, hby⟩ := info_parts hinfo
  obtain ⟨_, hn⟩ := hL.at_
  have hbb : (D.length + 1) * bytes ≤ 140737488355328 := by
    have : (D.length + 1) * bytes ≤ 1000001 * 4096 := Nat.mul_le_mul (by omega) hb4
    omega
  have hm1 : D.length + 1 ≤ maxLen := by unfold maxLen; omega
  obtain ⟨v', w', hr, h2, h3, _, h5⟩ := run_append_own_at (P := P) w base t ty e i z E.k bytes ht hi hz hsize hby hzs E.pos v D.length (E.flat D) hown ad 1 c (E.flat [x]) (E.flat_len [x]) hn (E.flat_one_cell [x]) hm1 hbb hbase
  refine ⟨v', w', hr, by rw [E.flat_append]; exact h2, ?_⟩
  rcases h5 with h5 | h5
  · exact .inl ⟨h5, Kept.grown (Kept.refl _ _) h3 (fun k e _ => e)⟩
  · right
    refine ⟨h5, ?_⟩
    have hs : Src P i.size t (.slice (some ad) 1 c) 1 (E.flat [x]) w := by
      rw [hsize]
      exact Src.ofSlice w ht ad 1 c (E.flat [x]) (E.flat_len [x]) hn (E.flat_one_cell [x])
    have hcap : ∀ old, old < D.length + 1 → Builtin.nextslicecap (D.length + 1) old * i.bytes ≤ 281474976710656 := fun old h => by
      have h1 := nextslicecap_le h
      rw [hby]
      have : Builtin.nextslicecap (D.length + 1) old * bytes ≤ 4000000 * 4096 := Nat.mul_le_mul (by omega) hb4
      omega
    rcases hown.2 with ⟨rfl, hxs⟩ | ⟨g, cap, cur, rfl, hbg, hg, hnc, hcm, hcs, htake⟩
    · have hD : D.length = 0 := by assumption
      rw [hD] at hcap
      have hrun := run_append_grow_src (P := P) (w := w) t t ty e i z ht hi hz none 0 0 [] (run_firstCells_none _ _ _ _ _) (.slice (some ad) 1 c) 1 (E.flat [x]) hs (by omega) (by omega) (hcap 0 (by omega))
      rw [hr] at hrun
      injection hrun with e1 e2
      rw [e2]
      exact ((Kept.refl _ _).drew).alloc _
    · by_cases hroom : D.length + 1 ≤ cap
      · exfalso
        have hblk : Blk w g e cur := hg
        have hsz : (D.length + 1) * E.k ≤ cap * E.k := Nat.mul_le_mul_right _ hroom
        have hl1 : (E.flat [x]).length = E.k := by rw [E.flat_len]; simp
        have hrun := run_append_room_src (P := P) (w := w) t t ty e i ht hi g 0 D.length cap (.slice (some ad) 1 c) 1 (E.flat [x]) hs hroom (fun j hj => by
          rw [hblk.cell, hsize]
          rw [hl1] at hj
          rw [Nat.add_mul] at hsz
          rw [Array.getElem?_eq_getElem (show 0 + D.length * E.k + j < cur.size by omega)]
          rfl) (fun j _ => hblk.frozen _)
        rw [hr] at hrun
        injection hrun with e1 e2
        rw [e1] at h5
        have hlt := hblk.lt
        have hgs : g = w.heap.size := by simpa [Value.ownBlock] using h5
        omega
      · have hold : (Builtin.firstCells i.size D.length (.slice (some ⟨g, 0, none⟩) D.length cap)).run P w.drew = .ok (E.flat D).toArray w.drew := by
          rw [hsize]
          refine run_firstCells_some _ E.k D.length ⟨g, 0, none⟩ D.length cap (E.flat D) hown.1 (fun j u hu => ?_)
          rw [Addr.add_lit, Nat.zero_add]
          show w.cell? ⟨g, j, none⟩ = some u
          have hblk : Blk w g e cur := hg
          rw [hblk.cell]
          rw [← htake, List.getElem?_take] at hu
          split at hu
          · simpa using hu
          · cases hu
        have hrun := run_append_grow_src (P := P) (w := w) t t ty e i z ht hi hz (some ⟨g, 0, none⟩) D.length cap (E.flat D) hold (.slice (some ad) 1 c) 1 (E.flat [x]) hs (by omega) (by omega) (hcap cap (by omega))
        rw [hr] at hrun
        injection hrun with e1 e2
        rw [e2]
        exact ((Kept.refl _ _).drew).alloc _
theorem wpList_append_keeps {P : Program} {α : Type} (E : Enc α) {w : World} {ops : Array Oper} {rest : List Oper} {o : Oper} {a : Act} {Q : Exit → Act → World → Prop} (hgd : o.guard = none) (s y : Operand) (t : TypeId)
    (ho : o.op = .call { callee := .builtin .append, args := #[s, y], argTypes := #[t, t] }) (base : Nat) (e : TypeId) (z : Value) (bytes : Nat) (ht : P.underlying t = some (.slice e))
    (hinfo : (P.info? e).map (fun i => (i.zero, i.size, i.bytes)) = some (some z, E.k, bytes)) (hzs : z.cells.size = E.k) (hb4 : bytes ≤ 4096) {v : Value} {D : List α} {x : α} {ad : Addr} {c : Nat} (hs : a.eval s = v) (hx : a.eval y = .slice (some ad) 1 c)
    (hown : w.ownsRow base e E.k v D.length (E.flat D)) (hL : SlAt E w (.slice (some ad) 1 c) [x]) (h63 : D.length ≤ 1000000) (hbase : base ≤ w.heap.size)
    (h : ∀ v' w', w'.ownsRow base e E.k v' (D.length + 1) (E.flat (D ++ [x])) → Grow1 w w' v v' → wpList P ops Q rest (a.put o.dst v') w') : wpList P ops Q (o :: rest) a w := by
  refine wpList_plain hgd fun K hK => ?_
  obtain ⟨v', w', hr, h2, h3⟩ := run_append_keeps (P := P) E t o.type e base z bytes ht hinfo hzs hb4 hown hL h63 hbase
  unfold Oper.wp execOp
  simp only [ho, resolve, invoke, builtin, Sem.run_bind, Sem.run_pure, Result.andThen_ok, List.map_toArray, List.map_cons, List.map_nil, hs, hx, hr]
  exact hK _ _ (h v' w' h2 h3)
end Go.Proofs.YtaaeomapbigfgaaGreat
namespace Go.Proofs.YtaaeomapbigfgaaGreat
open Go.RowKit
section
variable {P : Program} {α : Type} {E : Enc α} {w w' : World} {t : TypeId} {v : Value} {O : List α}
variable (E) in
/-- v is O, in a row of one's own behind what was cut off (or of no room at all) -/
def OutAt (w : World) (t : TypeId) (v : Value) (O : List α) : Prop :=
  (∃ a, v = .slice a 0 0 ∧ O = []) ∨ ∃ g cap R, v = .slice (some ⟨g, R.length * E.k, none⟩) O.length (cap - R.length) ∧ R.length < cap ∧ OwnAt E w t g cap (R ++ O)
theorem OutAt.nil (w : World) (t : TypeId) : OutAt E w t (.slice none 0 0) ([] : List α) := .inl ⟨none, rfl, rfl⟩
theorem OutAt.len (h : OutAt E w t v O) : ∃ a c, v = .slice a O.length c := by
  rcases h with ⟨a, rfl, rfl⟩ | ⟨g, cap, R, rfl, _⟩
  · exact ⟨_, _, rfl⟩
  · exact ⟨_, _, rfl⟩
theorem OutAt.keep {S : Nat → Prop} (h : OutAt E w t v O) (hk : Kept S w w') (hs : ∀ b, v.ownBlock = some b → (∃ cs, Blk w b t cs) → ¬ S b) : OutAt E w' t v O := by
  rcases h with h | ⟨g, cap, R, rfl, h1, h2⟩
  · exact .inl h
  · refine .inr ⟨g, cap, R, rfl, h1, h2.keep hk (hs g rfl ?_)⟩
    obtain ⟨cs, hc, _⟩ := h2
    exact ⟨cs, hc⟩
theorem OutAt.of_own {n base : Nat} (h : w.ownsRow base t E.k v n (E.flat O)) : OutAt E w t v O := by
  obtain ⟨hl, ⟨rfl, rfl⟩ | ⟨g, cap, rfl, _, hO⟩⟩ := own_of (E := E) h
  · exact .inl ⟨_, rfl, rfl⟩
  · by_cases hc : cap = 0
    · have := hO.le
      have h0 : O.length = 0 := by omega
      obtain rfl : O = [] := List.eq_nil_of_length_eq_zero h0
      subst hc
      subst hl
      exact .inl ⟨_, rfl, rfl⟩
    · refine .inr ⟨g, cap, [], ?_, by simp; omega, by simpa using hO⟩
      subst hl
      simp
/-- the frame of an append -/
def OutGrow (w w' : World) (t : TypeId) (v v' : Value) : Prop := Kept (fun b => v.ownBlock = some b ∧ ∃ cs, Blk w b t cs) w w' ∧ (v'.ownBlock = v.ownBlock ∨ v'.ownBlock = some w.heap.size)
theorem run_append_out (t ty e : TypeId) {z : Value} {bytes : Nat} (ht : P.underlying t = some (.slice e)) (hinfo : (P.info? e).map (fun i => (i.zero, i.size, i.bytes)) = some (some z, E.k, bytes)) (hzs : z.cells.size = E.k) (hb4 : bytes ≤ 4096)
    {x : α} {ad : Addr} {c : Nat} (h : OutAt E w e v O) (hL : SlAt E w (.slice (some ad) 1 c) [x]) (h63 : O.length ≤ 1000000) :
    ∃ v' w', (Builtin.append_ #[t, t] ty #[v, .slice (some ad) 1 c]).run P w = .ok v' w' ∧ OutAt E w' e v' (O ++ [x]) ∧ OutGrow w w' e v v' := by
  obtain ⟨i, hi, hz, hsize, hby⟩ := info_parts hinfo
  obtain ⟨_, hn⟩ := hL.at_
  have hs : Src P i.size t (.slice (some ad) 1 c) 1 (E.flat [x]) w := by
    rw [hsize]
    exact Src.ofSlice w ht ad 1 c (E.flat [x]) (E.flat_len [x]) hn (E.flat_one_cell [x])
  have hcap : ∀ old, old < O.length + 1 → Builtin.nextslicecap (O.length + 1) old * i.bytes ≤ 281474976710656 := fun old h => by
    have h1 := nextslicecap_le h
    rw [hby]
    have : Builtin.nextslicecap (O.length + 1) old * bytes ≤ 4000000 * 4096 := Nat.mul_le_mul (by omega) hb4
    omega
  have hl1 : (E.flat [x]).length = E.k := by rw [E.flat_len]; simp
  -- the arm that grows
  have grown : ∀ (a : Option Addr) (old : Nat), old < O.length + 1 → (Builtin.firstCells i.size O.length (.slice a O.length old)).run P w.drew = .ok (E.flat O).toArray w.drew → v = .slice a O.length old →
      ∃ v' w', (Builtin.append_ #[t, t] ty #[v, .slice (some ad) 1 c]).run P w = .ok v' w' ∧ OutAt E w' e v' (O ++ [x]) ∧ OutGrow w w' e v v' := by
    intro a old hold hf hv
    have hrun := run_append_grow_src (P := P) (w := w) t t ty e i z ht hi hz a O.length old (E.flat O) hf (.slice (some ad) 1 c) 1 (E.flat [x]) hs hold (by omega) (hcap old hold)
    have hge := grownCap_ge w (O.length + 1) old e
    have hcm := grownCap_le_maxLen w (O.length + 1) old e (by unfold maxLen; omega)
    refine ⟨_, _, hv ▸ hrun, .inr ⟨w.heap.size, grownCap w (O.length + 1) old e, [], ?_, by simp; omega, ?_⟩, ?_, .inr rfl⟩
    · simp
    · refine ⟨_, heap_alloc_new w.drew _, ?_, by simpa using hge, hcm, ?_⟩
      · simp only [Array.size_append, List.size_toArray, size_zeroCells, hzs, E.flat_len, List.length_append, ← Nat.add_mul]
        congr 1
        simp
        omega
      · refine Enc.Row.of_flat ?_
        rw [List.nil_append]
        simp only [Array.toList_append, E.flat_append]
        rw [List.take_append_of_le_length (by simp [E.flat_len, Nat.add_mul])]
        exact List.take_of_length_le (by simp [E.flat_len, Nat.add_mul])
    · exact ((Kept.refl _ _).drew).alloc _
  rcases h with ⟨a, rfl, rfl⟩ | ⟨g, cap, R, rfl, hR, hO⟩
  · refine grown a 0 (by simp) ?_ rfl
    have hl : ∀ (y : Addr), (loadCells y 0).run P w.drew = .ok #[] w.drew := fun y => by simpa using run_loadCells_list (P := P) w.drew y [] (by simp)
    cases a with
    | none => exact run_firstCells_none _ _ _ _ _
    | some y => exact run_firstCells_some _ _ 0 y 0 0 [] (by simp) (fun j u hu => by simp at hu)
  · obtain ⟨cs, h1, h2, h3, h4, h5⟩ := hO
    rw [List.length_append] at h3
    by_cases hroom : O.length + 1 ≤ cap - R.length
    · have hsz : (R.length + O.length + 1) * E.k ≤ cap * E.k := Nat.mul_le_mul_right _ (by omega)
      rw [Nat.succ_mul, Nat.add_mul] at hsz
      have hrun := run_append_room_src (P := P) (w := w) t t ty e i ht hi g (R.length * E.k) O.length (cap - R.length) (.slice (some ad) 1 c) 1 (E.flat [x]) hs hroom (fun j hj => by
        rw [h1.cell, hsize]
        rw [hl1] at hj
        rw [Array.getElem?_eq_getElem (show R.length * E.k + O.length * E.k + j < cs.size by omega)]
        rfl) (fun j _ => h1.frozen _)
      obtain ⟨cs', g1, g2, g3⟩ := Blk.setCells (E.flat [x]) (R.length * E.k + O.length * i.size) h1
      refine ⟨_, _, hrun, .inr ⟨g, cap, R, by simp, hR, cs', g1, by omega, by simp; omega, h4, ?_⟩, (Kept.setCells g _ _ (Kept.refl _ _)).mono (fun b _ e => by rw [e]; exact ⟨rfl, _, h1⟩), .inl rfl⟩
      intro m y hy j u hu
      have hj : j < E.k := by rw [← E.len y]; exact (List.getElem?_eq_some_iff.1 hu).1
      rw [← List.append_assoc] at hy
      by_cases hm : m < R.length + O.length
      · rw [List.getElem?_append_left (by simpa using hm)] at hy
        have hmk := Nat.mul_le_mul_right E.k (show m + 1 ≤ R.length + O.length by omega)
        rw [Nat.succ_mul, Nat.add_mul] at hmk
        rw [g3 _ (by rw [hsize]; omega)]
        exact h5 m y hy j u hu
      · have hlt := (List.getElem?_eq_some_iff.1 hy).1
        simp at hlt
        obtain rfl : m = R.length + O.length := by omega
        rw [List.getElem?_append_right (by simp)] at hy
        simp at hy
        subst hy
        rw [← g1.cell, Nat.add_mul, hsize, ← E.flat_one] at *
        rw [World.cell?_setCells_in g (E.flat [x]) (R.length * E.k + O.length * E.k) w (fun j hj => by
          rw [h1.cell, Array.getElem?_eq_getElem (show R.length * E.k + O.length * E.k + j < cs.size by omega)]
          rfl) j (by omega)]
        exact (List.getElem?_eq_getElem _).symm.trans hu
    · refine grown (some ⟨g, R.length * E.k, none⟩) (cap - R.length) (by omega) ?_ rfl
      rw [hsize]
      refine run_firstCells_some _ E.k O.length ⟨g, R.length * E.k, none⟩ O.length (cap - R.length) (E.flat O) (E.flat_len O) (fun j u hu => ?_)
      rw [Addr.add_lit]
      show w.cell? ⟨g, R.length * E.k + j, none⟩ = some u
      obtain ⟨i', j', y, hj, hy, hu'⟩ := E.flat_inv hu
      rw [h1.cell, hj, ← Nat.add_assoc, ← Nat.add_mul]
      exact h5 (R.length + i') y (by rw [List.getElem?_append_right (by omega)]; simpa using hy) j' u hu'
/-- the append of one to a row of one's own, as a step of a drawn region -/
theorem step_append_row {ops : Array Oper} {o : Oper} {a : Act} {K : Act → World → Prop} {Q : Exit → Act → World → Prop} {G : Prop} (hgd : o.guard = none) (s y : Operand) (t : TypeId)
    (hop : o.op = Op.call { callee := Callee.builtin Builtin.append, args := #[s, y], argTypes := #[t, t] }) (base : Nat) (e : TypeId) (z : Value) (bytes : Nat) (ht : P.underlying t = some (.slice e))
    (hinfo : (P.info? e).map (fun i => (i.zero, i.size, i.bytes)) = some (some z, E.k, bytes)) (hzs : z.cells.size = E.k) (hb4 : bytes ≤ 4096) {D : List α} {x : α} {ad : Addr} {c : Nat} (hs : a.eval s = v) (hx : a.eval y = .slice (some ad) 1 c)
    (hown : w.ownsRow base e E.k v D.length (E.flat D)) (hL : SlAt E w (.slice (some ad) 1 c) [x]) (h63 : D.length ≤ 1000000) (hbase : base ≤ w.heap.size)
    (hK : ∀ v' w', w'.ownsRow base e E.k v' (D.length + 1) (E.flat (D ++ [x])) → Grow1 w w' v v' → K (a.put o.dst v') w') : if Region.wanted o (yielded ops a.tmps) = true then Oper.wp P o a w K Q else G := by
  have hw : Region.wanted o (yielded ops a.tmps) = true := by simp [Region.wanted, hgd]
  rw [if_pos hw]
  obtain ⟨v', w', hr, h2, h3⟩ := run_append_keeps (P := P) E t o.type e base z bytes ht hinfo hzs hb4 hown hL h63 hbase
  unfold Oper.wp
  simp [execOp, hop, resolve, invoke, builtin, hs, hx, hr, Result.andThen]
  exact hK v' w' h2 h3
/-- the append of one, as a step of a drawn region -/
theorem step_append_out {ops : Array Oper} {o : Oper} {a : Act} {K : Act → World → Prop} {Q : Exit → Act → World → Prop} {F : Prop} (hgd : o.guard = none) (s y : Operand) (t e : TypeId)
    (hop : o.op = Op.call { callee := Callee.builtin Builtin.append, args := #[s, y], argTypes := #[t, t] }) {z : Value} {bytes : Nat} (ht : P.underlying t = some (.slice e)) (hinfo : (P.info? e).map (fun i => (i.zero, i.size, i.bytes)) = some (some z, E.k, bytes))
    (hzs : z.cells.size = E.k) (hb4 : bytes ≤ 4096) {x : α} {ad : Addr} {c : Nat} (hs : a.eval s = v) (hx : a.eval y = .slice (some ad) 1 c) (h : OutAt E w e v O) (hL : SlAt E w (.slice (some ad) 1 c) [x]) (h63 : O.length ≤ 1000000)
    (hK : ∀ v' w', OutAt E w' e v' (O ++ [x]) → OutGrow w w' e v v' → K (a.put o.dst v') w') : if Region.wanted o (yielded ops a.tmps) = true then Oper.wp P o a w K Q else F := by
  have hw : Region.wanted o (yielded ops a.tmps) = true := by simp [Region.wanted, hgd]
  rw [if_pos hw]
  obtain ⟨v', w', hr, h2, h3⟩ := run_append_out (P := P) t o.type e ht hinfo hzs hb4 h hL h63
  unfold Oper.wp
  simp [execOp, hop, resolve, invoke, builtin, hs, hx, hr, Result.andThen]
  exact hK v' w' h2 h3
end
end Go.Proofs.YtaaeomapbigfgaaGreat
