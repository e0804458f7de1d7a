/- op.Check of a join. -/
import Derived.Test.YtaaeomapbigfgaaQuOf
import Derived.Test.YtaaeomapbigfgaaVeCheck
namespace Go.Proofs.Ytaaeomapbigfgaa
open Go.RowKit Go.Proofs.Ytaaeomapbigfgaa.St
open Go.Sort (grow)
theorem meth_right (s : Int) (w : World) : Sem.run Try.prog (method 264 101 (.agg #[.int .i64 s]) "hearsay/op.right") w = .ok (109, .agg #[.int .i64 s]) w := by kernel_rfl
theorem enRight : ∀ args w, Sem.run Try.prog (callFunc 109 args) w = .ok (.enter 109 args) w := Go.Proofs.enters_of Try.func109 (by kernel_rfl) rfl
set_option maxRecDepth 100000 in
set_option maxHeartbeats 8000000 in
theorem check_join {w : World} {x : OpV} {D : List Dot} (hx : x.Join) (hd : x.dot.Ok) (hD : SlAt dotE w x.deps.v D) (hDl : D.length ≤ 1000000) (hch : chkV 0 D = 0) (hget : getV D x.dot.site = x.dot.seq - 1) :
    Calls Try.prog 24 #[.agg (opA x)] w fun e w' => e = .returned (.int .i64 0) ∧ Kept (fun _ => False) w w' := by
  have hmix : Try.prog.follows .mixedOrders = true := by kernel_rfl
  have hB := Blk.new w 34 (opA x)
  have k0 : Kept (fun _ => False) w (w.alloc (.cells (opA x) 34)) := (Kept.refl _ _).alloc _
  have h1 := hd.1
  have h2 := hd.2.1
  have h3 := hd.2.2.1
  have h4 := hd.2.2.2
  have hs1 : ¬ x.dot.site < 1 := by omega
  have hs2 : ¬ 16 < x.dot.site := by omega
  have hs3 : ¬ x.dot.seq < 1 := by omega
  have hs4 : ¬ 2147483647 < x.dot.seq := by omega
  have hw : IntKind.i64.wrap (x.dot.seq - 1) = x.dot.seq - 1 := IntWalk.i64_in _ (by omega)
  go_enter Try.func24, Try.ntmps24
  go_upto_region 1 with fail
  generalize w.alloc (.cells (opA x) 34) = w0 at *
  have HB := Lib.hid hB
  have HOF := Lib.hid (fun (w' : World) => of_join (w := w') hx.kind)
  have HRI := Lib.hid (fun (w' : World) => right_join (w := w') hx)
  have HCH := Lib.hid (fun (w' : World) (hk : Kept (fun _ => False) w w') => vcheck_any (hD.kept hk) (by omega))
  have HGE := Lib.hid (fun (w' : World) (hk : Kept (fun _ => False) w w') => get_grew (hD.kept hk) (by omega) x.dot.site)
  rw [hch] at HCH
  rw [hget] at HGE
  have K0 := Lib.hid k0
  clear hB k0 hD hch hget h1 h2 h3 h4 hd hx
  go_upto_region 2 with (first
    | (refine wpList_load_row rfl 34 _ rfl w.heap.size rfl 34 _ (0, 0) _ HB.out Try.underlying34 rfl (by rw [opA_size]; kernel_rfl) ?_)
    | (go_at_call 42; refine (HOF.out _).mono ?_; rintro r w1 ⟨rfl, hg1⟩))
  have B1 := hg1.kept.blk (fun h => h) HB.out
  have K1 := Lib.hid (K0.out.trans hg1.kept (fun _ _ h => h))
  have b0 : w1.cell? ⟨w.heap.size, 0, none⟩ = some (.int .i64 x.dot.site) := B1.cell' (i := 0) rfl
  have b1 : w1.cell? ⟨w.heap.size, 1, none⟩ = some (.int .i64 x.dot.seq) := B1.cell' (i := 1) rfl
  have b2 : w1.cell? ⟨w.heap.size, 2, none⟩ = some x.deps.v := B1.cell' (i := 2) rfl
  have HB1 := Lib.hid B1
  clear B1 hg1 HB K0
  go_wp2_with (go_at_call 22; refine (HCH.out _ K1.out).mono ?_; rintro r w2 ⟨rfl, hk2⟩; have K2 := Lib.hid (K1.out.trans hk2 (fun _ _ h => h)); have HB2 := Lib.hid (hk2.blk (fun h => h) HB1.out))
  have hbl := HB2.out.lt
  have c0 := cell_grown (w := w2) (by show w.heap.size < _; omega) (show w2.cell? ⟨w.heap.size, 0, none⟩ = some (.int .i64 x.dot.site) from HB2.out.cell' (i := 0) rfl)
  have c1 := cell_grown (w := w2) (by show w.heap.size < _; omega) (show w2.cell? ⟨w.heap.size, 1, none⟩ = some (.int .i64 x.dot.seq) from HB2.out.cell' (i := 1) rfl)
  have c2 := cell_grown (w := w2) (by show w.heap.size < _; omega) (show w2.cell? ⟨w.heap.size, 2, none⟩ = some x.deps.v from HB2.out.cell' (i := 2) rfl)
  have HG2 := Lib.hid (fun (w' : World) (hk : Grew w2 w') => HGE.out w' (K2.out.trans hk.kept (fun _ _ h => h)))
  clear b0 b1 b2 hk2
  go_quiet_grown (first
    | (go_at_call 43; exact grown_call HG2.out _ _))
  clear c0 c1 c2
  have B3 := Lib.hid ((Grew.grown (w := w2) nq osq).kept.blk (fun h => h) HB2.out)
  have K3 := Lib.hid (K2.out.trans (Grew.grown (w := w2) nq osq).kept (fun _ _ h => h))
  generalize grow (w2.drewN nq) osq = w3 at *
  have hme := meth_right x.site
  have hen := enRight
  go_wp2_with (first
    | (refine wpList_load_row rfl 34 _ rfl w.heap.size rfl 34 _ (0, 0) _ B3.out Try.underlying34 rfl (by rw [opA_size]; kernel_rfl) ?_)
    | (go_at_call 109; refine (HRI.out _).mono ?_; rintro r w4 ⟨rfl, hg4⟩))
  go_ret
  exact ⟨rfl, K3.out.trans hg4.kept (fun _ _ h => h)⟩
end Go.Proofs.Ytaaeomapbigfgaa

