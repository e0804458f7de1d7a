/- append of a row that reads as a list to an owned row. -/
import Derived.Test.YtaaeomapbigfgaaStRow
import Derived.Laws.AppendOwnNone
namespace Go.Proofs.Ytaaeomapbigfgaa
open Go.RowKit
theorem wpList_append_row {P : Program} {α : Type} (E : Enc α) {w : World} {ops : Array Oper} {rest : List Oper} {o : Oper} {a : Act} {Q : Exit → Act → World → Prop} (hgd : o.guard = none) (s x : Operand) (t : TypeId)
    (ho : o.op = .call { callee := .builtin .append, args := #[s, x], argTypes := #[t, t] }) (base : Nat) (e : TypeId) (z : Value) (bytes : Nat) (ht : P.underlying t = some (.slice e))
    (hinfo : (P.info? e).map (fun i => (i.zero, i.size, i.bytes)) = some (some z, E.k, bytes)) (hzs : z.cells.size = E.k) {v vs : Value} {D L : List α} (hs : a.eval s = v) (hx : a.eval x = vs)
    (hown : w.ownsRow base e E.k v D.length (E.flat D)) (hL : SlAt E w vs L) (h63 : D.length + L.length ≤ maxLen) (hbytes : (D.length + L.length) * bytes ≤ 140737488355328) (hbase : base ≤ w.heap.size)
    (h : ∀ v' w', w'.ownsRow base e E.k v' (D ++ L).length (E.flat (D ++ L)) → Kept (fun b => v.ownBlock = some b) w w' → wpList P ops Q rest (a.put o.dst v') w') : wpList P ops Q (o :: rest) a w := by
  obtain ⟨i0, hi, hz0, hz1, hz2⟩ := info_parts hinfo
  obtain ⟨ad, c, rfl, _, _⟩ := hL.sl
  cases ad with
  | none =>
    obtain ⟨rfl, _, rfl⟩ := hL.none_
    refine wpList_append_own_none hgd s x t ho base e i0 E.k ht hi v D.length (E.flat D) hs hown hx ?_
    refine h v w ?_ (Kept.refl _ _)
    rw [List.append_nil]
    exact hown
  | some y =>
    obtain ⟨_, hn⟩ := hL.at_
    refine wpList_append_own _ hgd s x t ho base e i0 z E.k bytes ht hi hz0 hz1 hz2 hzs E.pos v D.length (E.flat D) hs hown y L.length c (E.flat L) hx (E.flat_len L) hn (E.flat_one_cell L) h63 hbytes hbase ?_
    intro v' w' ho' hg _
    refine h v' w' ?_ (Kept.grown (Kept.refl _ _) hg (fun k e _ => e))
    rw [List.length_append, E.flat_append]
    exact ho'
theorem owns_new {w : World} {base n size : Nat} {e : TypeId} {v : Value} {xs : List Value} (h : w.ownsRow base e size v n xs) : ∀ b, v.ownBlock = some b → base ≤ b := fun b hb => by
  rcases h.2 with ⟨e2, _⟩ | ⟨g3, c2, cur, e2, h1, h2, _⟩
  · rw [e2] at hb; cases hb
  · rw [e2] at hb; cases hb; exact h1
/-- a frame that spares what was there at w -/
theorem Kept.over {w w1 w2 : World} {S : Nat → Prop} (h : Kept (fun _ => False) w w1) (k : Kept S w1 w2) (hb : ∀ b, S b → w.heap.size ≤ b) : Kept (fun _ => False) w w2 := h.trans k fun i hi e => by have := hb i e; omega
theorem SlAt.lit {α : Type} {E : Enc α} {w : World} {t : TypeId} (L : List α) (cs : Array Value) (hc : cs = (E.flat L).toArray) (hl : L.length ≤ maxLen) : SlAt E (w.alloc (.cells cs t)) (.slice (some ⟨w.heap.size, 0, none⟩) L.length L.length) L := by
  subst hc
  refine .inr ⟨⟨w.heap.size, 0, none⟩, L.length, rfl, Nat.le_refl _, hl, fun _ => rfl, fun i y hy j u hu => ?_⟩
  rw [Nat.zero_add]
  refine (Blk.new w t _).cell' ?_
  rw [← Array.getElem?_toList]
  exact E.flat_get hy hu
end Go.Proofs.Ytaaeomapbigfgaa

