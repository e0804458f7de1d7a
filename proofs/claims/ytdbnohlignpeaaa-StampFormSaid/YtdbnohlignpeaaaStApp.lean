/- append of a string to a row of the call's own: where the new row lies. -/
import Derived.Test.YtdbnohlignpeaaaStMem
import Derived.Lib.AppendStr
import Derived.Deep.AppendSrc
import Derived.OwnWalk
namespace Go.Proofs.Ytdbnohlignpeaaa
open Go.RowKit
section
variable {P : Program} {w : World}
theorem strCells_bytes (s : ByteArray) : Lib.strCells s = byteCells s := rfl
theorem append_string_at (t u ty e : TypeId) (i : TypeInfo) (ht : P.underlying t = some (.slice e)) (hu : P.underlying u = some .string) (hi : P.info? e = some i) (hz : i.zero = some (.int .u8 0)) (hsize : i.size = 1) (hby : i.bytes = 1)
    {base n : Nat} {v v' : Value} {w' : World} {xs : List Value} (hown : w.ownsRow base e 1 v n xs) (s : ByteArray) (hn : n + s.size ≤ 1000000000) (hr : (Builtin.append_ #[t, u] ty #[v, .string s]).run P w = .ok v' w') :
    v'.ownBlock = v.ownBlock ∨ v'.ownBlock = some w.heap.size := by
  have hs : Src P i.size u (.string s) s.size (byteCells s) w := by rw [hsize]; exact Src.ofString w hu s
  have hcap : ∀ old, old < n + s.size → Builtin.nextslicecap (n + s.size) old * i.bytes ≤ 281474976710656 := fun old h => by
    have := nextslicecap_le h
    rw [hby]
    omega
  rcases hown.2 with ⟨rfl, rfl⟩ | ⟨g, cap, cur, rfl, hb, hg, h1, h2, h3, h4⟩
  · rcases Nat.eq_zero_or_pos s.size with h0 | h0
    · have hrun : (Builtin.append_ #[t, u] ty #[.slice none 0 0, .string s]).run P w = .ok (.slice none 0 0) w := by
        have hc := hs.cells
        have hl := hs.len w
        rw [h0] at hc hl
        simp [Builtin.append_, run_underlying ht, run_underlying hu, sizeOf, typeInfo, hi, hl, hc]
      rw [hr] at hrun
      injection hrun with e1 e2
      left; rw [e1]
    · have hrun := run_append_grow_src (P := P) (w := w) t u ty e i _ ht hi hz none 0 0 [] (run_firstCells_none _ _ _ _ _) (.string s) s.size (byteCells s) hs (by omega) (by omega) (hcap 0 (by omega))
      rw [hr] at hrun
      injection hrun with e1 e2
      right; rw [e1]; rfl
  · have hblk : Blk w g e cur := hg
    by_cases hroom : n + s.size ≤ cap
    · have hl : (byteCells s).length = s.size := byteCells_length s
      have hrun := run_append_room_src (P := P) (w := w) t u ty e i ht hi g 0 n cap (.string s) s.size (byteCells s) hs hroom (fun j hj => by
        rw [hblk.cell, hsize]
        have : n + j < cur.size := by omega
        simp [this]) (fun j _ => hblk.frozen _)
      rw [hr] at hrun
      injection hrun with e1 e2
      left; rw [e1]; rfl
    · have hold : (Builtin.firstCells i.size n (.slice (some ⟨g, 0, none⟩) n cap)).run P w.drew = .ok xs.toArray w.drew := by
        rw [hsize]
        refine run_firstCells_some _ 1 n ⟨g, 0, none⟩ n cap xs hown.1 (fun j x hx => ?_)
        rw [Addr.add_lit, Nat.zero_add]
        show w.cell? ⟨g, j, none⟩ = some x
        rw [hblk.cell]
        rw [← h4, List.getElem?_take] at hx
        split at hx
        · simpa using hx
        · cases hx
      have hrun := run_append_grow_src (P := P) (w := w) t u ty e i _ ht hi hz (some ⟨g, 0, none⟩) n cap xs hold (.string s) s.size (byteCells s) hs (by omega) (by omega) (hcap cap (by omega))
      rw [hr] at hrun
      injection hrun with e1 e2
      right; rw [e1]; rfl
theorem wpList_append_string_at {ops : Array Oper} {rest : List Oper} {o : Oper} {a : Act} {Q : Exit → Act → World → Prop} (hgd : o.guard = none) (sl x : Operand) (t u : TypeId)
    (ho : o.op = .call { callee := .builtin .append, args := #[sl, x], argTypes := #[t, u] })
    (base : Nat) (e : TypeId) (i : TypeInfo) (ht : P.underlying t = some (.slice e)) (hu : P.underlying u = some .string) (hi : P.info? e = some i) (hz : i.zero = some (.int .u8 0))
    (hsize : i.size = 1) (hby : i.bytes = 1)
    (v : Value) (n : Nat) (xs : List Value) (hs : a.eval sl = v) (hown : w.ownsRow base e 1 v n xs) (s : ByteArray) (hx : a.eval x = .string s)
    (hn : n + s.size ≤ 1000000000) (hbase : base ≤ w.heap.size)
    (h : ∀ v' w', w'.ownsRow base e 1 v' (n + s.size) (xs ++ Lib.strCells s) → w.grownBy w' v.ownBlock → (v'.ownBlock = v.ownBlock ∨ v'.ownBlock = some w.heap.size) → wpList P ops Q rest (a.put o.dst v') w') : wpList P ops Q (o :: rest) a w := by
  refine wpList_plain hgd fun K hK => ?_
  obtain ⟨v', w', hr, h2, h3, h4⟩ := Lib.run_append_own_string (P := P) w base t u o.type e i ht hu hi hz hsize hby v n xs hown s (by unfold maxLen; omega) (by omega) hbase
  have hat := append_string_at t u o.type e i ht hu hi hz hsize hby hown s hn hr
  unfold Oper.wp execOp
  simp only [ho, resolve, invoke, builtin, Sem.run_bind, Sem.run_pure, Result.andThen_ok, List.map_toArray, List.map_cons, List.map_nil, hs, hx, hr]
  exact hK _ _ (h v' w' h2 h3 hat)
end
end Go.Proofs.Ytdbnohlignpeaaa
