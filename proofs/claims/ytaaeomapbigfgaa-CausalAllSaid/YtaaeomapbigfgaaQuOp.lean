/- Operations in memory; slices.Clone of Dots. -/
import Derived.Test.YtaaeomapbigfgaaVeAdd
import Derived.Test.YtaaeomapbigfgaaVeCheck
import Derived.Test.YtaaeomapbigfgaaStClone
namespace Go.Proofs.Ytaaeomapbigfgaa
open Go.RowKit Go.Proofs.Ytaaeomapbigfgaa.St
set_option maxRecDepth 100000 in
set_option maxHeartbeats 1000000 in
theorem clone_dot {w : World} {v : Value} {L : List Dot} (h : SlAt dotE w v L) (hb : L.length ≤ 1000000000) :
    Calls Try.prog 23 #[v] w fun e w' => ∃ v', e = .returned v' ∧ w'.ownsRow w.heap.size 27 2 v' L.length (dotE.flat L) ∧ Kept (fun _ => False) w w' := by
  have q := fun (w : World) (a : Option Addr) (n c n' c' : Nat) => Lib.run_eql_slice_nil (P := Try.prog) w 29 _ a n c n' c' Try.underlying29
  obtain ⟨a, c, rfl, hle, hc⟩ := h.sl
  cases a with
  | none =>
    obtain ⟨rfl, _, rfl⟩ := h.none_
    clear h hb hc hle
    go_enter Try.func23, Try.ntmps23
    go_wp2
    go_ret
    exact ⟨_, rfl, World.ownsRow_nil _ _ _ _, Kept.refl _ _⟩
  | some x =>
    obtain ⟨_, hn⟩ := h.at_
    obtain ⟨i0, hi, hz0, hz1, hz2⟩ := info_parts info_dot
    have hl := dotE.flat_len L
    have h1 := dotE.flat_one_cell L
    generalize dotE.flat L = news at hn hl h1 ⊢
    generalize L.length = n at *
    have hl2 : news.length = n * 2 := hl
    have hn2 : ∀ j u, news[j]? = some u → (w.alloc (.cells #[] 27)).cell? (x.add j) = some u := fun j u hu => by
      have hc := hn j u hu
      rw [World.cell?_of_block (a := x.add j) (w := w)]
      · exact hc
      · exact Below.heap_alloc w _ _ (World.block_lt_of_cell? w _ hc)
    have N := Lib.hid hn2
    have I := Lib.hid hi
    have Z0 := Lib.hid hz0
    have Z1 := Lib.hid hz1
    have Z2 := Lib.hid hz2
    have HL := Lib.hid hl2
    have H1 := Lib.hid h1
    have h63 : 0 + n ≤ maxLen := by unfold maxLen; omega
    have hby : (0 + n) * 16 ≤ 140737488355328 := by omega
    clear hn hn2 hi hz0 hz1 hz2 hl hl2 h1 h hc
    go_enter Try.func23, Try.ntmps23
    go_wp2_with (at_builtin; refine wpList_append_own _ rfl _ _ 29 rfl w.heap.size 27 i0 (.agg #[.int .i64 0, .int .i64 0]) 2 16 Try.underlying29 I.out Z0.out Z1.out Z2.out rfl (by decide) _ _ _ rfl (World.ownsRow_made w #[] 0 (Nat.le_refl _) (Nat.zero_le _) (by simp)) x n c news rfl HL.out N.out H1.out h63 hby (by simp) ?_)
    intro v' w1 hown hgrow _
    go_wp2
    go_ret
    refine ⟨v', rfl, by simpa using hown, ?_⟩
    exact ((Kept.refl _ _).alloc _).grown hgrow (fun k e hk => by simp [Value.ownBlock] at e; omega)
/-- a slice's own words -/
structure Sl where
  a : Option Addr
  n : Nat
  c : Nat
def Sl.v (s : Sl) : Value := .slice s.a s.n s.c
theorem Sl.of {α : Type} {E : Enc α} {w : World} {v : Value} {L : List α} (h : SlAt E w v L) : ∃ s : Sl, v = s.v := by
  obtain ⟨a, c, rfl, _⟩ := h.sl
  exact ⟨⟨a, _, c⟩, rfl⟩
/-- an operation as it stands in cells -/
structure OpV where
  dot : Dot
  deps : Sl
  kind : Int
  id : ID
  ref : ID
  text : ByteArray
  gone : Sl
  site : Int
def OpV.cells (x : OpV) : List Value := [.int .i64 x.dot.site, .int .i64 x.dot.seq, x.deps.v, .int .i64 x.kind, .int .i64 x.id.t, .int .i64 x.id.s, .int .i64 x.ref.t, .int .i64 x.ref.s, .string x.text, x.gone.v, .int .i64 x.site]
def opA (x : OpV) : Array Value := x.cells.toArray
theorem opA_size (x : OpV) : (opA x).size = 11 := rfl
theorem opA_one (x : OpV) : (opA x).all (·.oneCell') = true := by simp [opA, OpV.cells, Value.oneCell', Sl.v]
/-- an operation with what its lists say -/
structure Ent where
  v : OpV
  D : List Dot
  G : List Run
def entE : Enc Ent := ⟨11, fun e => e.v.cells, fun _ => rfl, by decide, fun e u hu => by
  have h := (Array.all_eq_true_iff_forall_mem.1 (opA_one e.v)) u (by simpa [opA] using hu)
  exact h⟩
structure Ent.At (w : World) (e : Ent) : Prop where
  deps : SlAt dotE w e.v.deps.v e.D
  gone : SlAt runE w e.v.gone.v e.G
def Ent.can (V : List Dot) (d : Dot) (D : List Dot) : Prop := d.seq = getV V d.site + 1 ∧ coversV V D
instance (V : List Dot) (d : Dot) (D : List Dot) : Decidable (Ent.can V d D) := by unfold Ent.can; infer_instance
theorem info_op : (Try.prog.info? 34).map (fun i => (i.zero, i.size, i.bytes)) = some (some (.agg #[.int .i64 0, .int .i64 0, .slice none 0 0, .int .i64 0, .int .i64 0, .int .i64 0, .int .i64 0, .int .i64 0, .string ByteArray.empty, .slice none 0 0, .int .i64 0]), 11, 128) := by kernel_rfl
end Go.Proofs.Ytaaeomapbigfgaa

