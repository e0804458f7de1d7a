/- append of one element to a row of the call's own: what becomes of the old row. -/
import Derived.Test.YtaaeomapbigfgaaStRowApp
import Derived.Maps.AppendAt
import Derived.Deep.AppendSrc
namespace Go.Proofs.Ytaaeomapbigfgaa
open Go.RowKit
/-- the row went on in its own block, or a new block was made and nothing else has changed -/
def Grow1 (w w' : World) (v v' : Value) : Prop := (v'.ownBlock = v.ownBlock ∧ Kept (fun b => v.ownBlock = some b) w w') ∨ (v'.ownBlock = some w.heap.size ∧ Kept (fun _ => False) w w')
theorem run_append_keeps {P : Program} {α : Type} (E : Enc α) {w : World} (t ty e : TypeId) (base : Nat) (z : Value) (bytes : Nat) (ht : P.underlying t = some (.slice e))
    (hinfo : (P.info? e).map (fun i => (i.zero, i.size, i.bytes)) = some (some z, E.k, bytes)) (hzs : z.cells.size = E.k) (hb4 : bytes ≤ 4096) {v : Value} {D : List α} {x : α}
    (hown : w.ownsRow base e E.k v D.length (E.flat D)) {ad : Addr} {c : Nat} (hL : SlAt E w (.slice (some ad) 1 c) [x]) (h63 : D.length ≤ 1000000) (hbase : base ≤ w.heap.size) :
    ∃ v' w', (Builtin.append_ #[t, t] ty #[v, .slice (some ad) 1 c]).run P w = .ok v' w' ∧ w'.ownsRow base e E.k v' (D.length + 1) (E.flat (D ++ [x])) ∧ Grow1 w w' v v' := by
  obtain ⟨i, hi, hz, hsize, hby⟩ := info_parts hinfo
  obtain ⟨_, hn⟩ := hL.at_
  have hbb : (D.length + 1) * bytes ≤ 140737488355328 := by
    have : (D.length + 1) * bytes ≤ 1000001 * 4096 := Nat.mul_le_mul (by omega) hb4
    omega
  have hm1 : D.length + 1 ≤ maxLen := by unfold maxLen; omega
  obtain ⟨v', w', hr, h2, h3, _, h5⟩ := run_append_own_at (P := P) w base t ty e i z E.k bytes ht hi hz hsize hby hzs E.pos v D.length (E.flat D) hown ad 1 c (E.flat [x]) (E.flat_len [x]) hn (E.flat_one_cell [x]) hm1 hbb hbase
  refine ⟨v', w', hr, by rw [E.flat_append]; exact h2, ?_⟩
  rcases h5 with h5 | h5
  · exact .inl ⟨h5, Kept.grown (Kept.refl _ _) h3 (fun k e _ => e)⟩
  · right
    refine ⟨h5, ?_⟩
    have hs : Src P i.size t (.slice (some ad) 1 c) 1 (E.flat [x]) w := by
      rw [hsize]
      exact Src.ofSlice w ht ad 1 c (E.flat [x]) (E.flat_len [x]) hn (E.flat_one_cell [x])
    have hcap : ∀ old, old < D.length + 1 → Builtin.nextslicecap (D.length + 1) old * i.bytes ≤ 281474976710656 := fun old h => by
      have h1 := nextslicecap_le h
      rw [hby]
      have : Builtin.nextslicecap (D.length + 1) old * bytes ≤ 4000000 * 4096 := Nat.mul_le_mul (by omega) hb4
      omega
    rcases hown.2 with ⟨rfl, hxs⟩ | ⟨g, cap, cur, rfl, hbg, hg, hnc, hcm, hcs, htake⟩
    · have hD : D.length = 0 := by assumption
      rw [hD] at hcap
      have hrun := run_append_grow_src (P := P) (w := w) t t ty e i z ht hi hz none 0 0 [] (run_firstCells_none _ _ _ _ _) (.slice (some ad) 1 c) 1 (E.flat [x]) hs (by omega) (by omega) (hcap 0 (by omega))
      rw [hr] at hrun
      injection hrun with e1 e2
      rw [e2]
      exact ((Kept.refl _ _).drew).alloc _
    · by_cases hroom : D.length + 1 ≤ cap
      · exfalso
        have hblk : Blk w g e cur := hg
        have hsz : (D.length + 1) * E.k ≤ cap * E.k := Nat.mul_le_mul_right _ hroom
        have hl1 : (E.flat [x]).length = E.k := by rw [E.flat_len]; simp
        have hrun := run_append_room_src (P := P) (w := w) t t ty e i ht hi g 0 D.length cap (.slice (some ad) 1 c) 1 (E.flat [x]) hs hroom (fun j hj => by
          rw [hblk.cell, hsize]
          rw [hl1] at hj
          rw [Nat.add_mul] at hsz
          rw [Array.getElem?_eq_getElem (show 0 + D.length * E.k + j < cur.size by omega)]
          rfl) (fun j _ => hblk.frozen _)
        rw [hr] at hrun
        injection hrun with e1 e2
        rw [e1] at h5
        have hlt := hblk.lt
        have hgs : g = w.heap.size := by simpa [Value.ownBlock] using h5
        omega
      · have hold : (Builtin.firstCells i.size D.length (.slice (some ⟨g, 0, none⟩) D.length cap)).run P w.drew = .ok (E.flat D).toArray w.drew := by
          rw [hsize]
          refine run_firstCells_some _ E.k D.length ⟨g, 0, none⟩ D.length cap (E.flat D) hown.1 (fun j u hu => ?_)
          rw [Addr.add_lit, Nat.zero_add]
          show w.cell? ⟨g, j, none⟩ = some u
          have hblk : Blk w g e cur := hg
          rw [hblk.cell]
          rw [← htake, List.getElem?_take] at hu
          split at hu
          · simpa using hu
          · cases hu
        have hrun := run_append_grow_src (P := P) (w := w) t t ty e i z ht hi hz (some ⟨g, 0, none⟩) D.length cap (E.flat D) hold (.slice (some ad) 1 c) 1 (E.flat [x]) hs (by omega) (by omega) (hcap cap (by omega))
        rw [hr] at hrun
        injection hrun with e1 e2
        rw [e2]
        exact ((Kept.refl _ _).drew).alloc _
theorem wpList_append_keeps {P : Program} {α : Type} (E : Enc α) {w : World} {ops : Array Oper} {rest : List Oper} {o : Oper} {a : Act} {Q : Exit → Act → World → Prop} (hgd : o.guard = none) (s y : Operand) (t : TypeId)
    (ho : o.op = .call { callee := .builtin .append, args := #[s, y], argTypes := #[t, t] }) (base : Nat) (e : TypeId) (z : Value) (bytes : Nat) (ht : P.underlying t = some (.slice e))
    (hinfo : (P.info? e).map (fun i => (i.zero, i.size, i.bytes)) = some (some z, E.k, bytes)) (hzs : z.cells.size = E.k) (hb4 : bytes ≤ 4096) {v : Value} {D : List α} {x : α} {ad : Addr} {c : Nat} (hs : a.eval s = v) (hx : a.eval y = .slice (some ad) 1 c)
    (hown : w.ownsRow base e E.k v D.length (E.flat D)) (hL : SlAt E w (.slice (some ad) 1 c) [x]) (h63 : D.length ≤ 1000000) (hbase : base ≤ w.heap.size)
    (h : ∀ v' w', w'.ownsRow base e E.k v' (D.length + 1) (E.flat (D ++ [x])) → Grow1 w w' v v' → wpList P ops Q rest (a.put o.dst v') w') : wpList P ops Q (o :: rest) a w := by
  refine wpList_plain hgd fun K hK => ?_
  obtain ⟨v', w', hr, h2, h3⟩ := run_append_keeps (P := P) E t o.type e base z bytes ht hinfo hzs hb4 hown hL h63 hbase
  unfold Oper.wp execOp
  simp only [ho, resolve, invoke, builtin, Sem.run_bind, Sem.run_pure, Result.andThen_ok, List.map_toArray, List.map_cons, List.map_nil, hs, hx, hr]
  exact hK _ _ (h v' w' h2 h3)
end Go.Proofs.Ytaaeomapbigfgaa

