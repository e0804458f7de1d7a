/- causal.twin. -/
import Derived.Test.YtaaeomapbigfgaaQuGone
namespace Go.Proofs.Ytaaeomapbigfgaa
open Go.RowKit Go.Proofs.Ytaaeomapbigfgaa.St
theorem opA_set (x : OpV) (d s : Sl) : ((opA x).setIfInBounds 2 d.v).setIfInBounds 9 s.v = opA { x with deps := d, gone := s } := rfl
set_option maxRecDepth 100000 in
set_option maxHeartbeats 8000000 in
theorem twin_any {w : World} {x : OpV} {D : List Dot} {G : List Run} (hD : SlAt dotE w x.deps.v D) (hG : SlAt runE w x.gone.v G) (hDl : D.length ≤ 1000000000) (hGl : G.length ≤ 1000000000) :
    Calls Try.prog 28 #[.agg (opA x)] w fun r w' => ∃ d s : Sl, r = .returned (.agg (opA { x with deps := d, gone := s })) ∧ w'.ownsRow w.heap.size 27 2 d.v D.length (dotE.flat D) ∧ w'.ownsRow w.heap.size 55 3 s.v G.length (runE.flat G) ∧ Kept (fun _ => False) w w' := by
  have hX := (Blk.new w 34 (opA x)).alloc (.cells zeroOp 34)
  have hZ := Blk.new (w.alloc (.cells (opA x) 34)) 34 zeroOp
  rw [World.size_alloc] at hZ
  have k0 : Kept (fun _ => False) w ((w.alloc (.cells (opA x) 34)).alloc (.cells zeroOp 34)) := ((Kept.refl _ _).alloc _).alloc _
  have s0 : ((w.alloc (.cells (opA x) 34)).alloc (.cells zeroOp 34)).heap.size = w.heap.size + 2 := by simp
  go_enter Try.func28, Try.ntmps28
  go_upto_region 1 with fail
  generalize ((w.alloc (.cells (opA x) 34)).alloc (.cells zeroOp 34)) = W at *
  have x2 : W.cell? ⟨w.heap.size, 2, none⟩ = some x.deps.v := hX.cell' (i := 2) rfl
  have x9 : W.cell? ⟨w.heap.size, 9, none⟩ = some x.gone.v := hX.cell' (i := 9) rfl
  have kD := k0.drew
  have CD := Lib.hid (clone_dot (hD.kept kD) hDl)
  have CG := Lib.hid (fun (w' : World) (hk : Kept (fun _ => False) w w') => clone_run (hG.kept hk) hGl)
  have K0 := Lib.hid kD
  have KW := Lib.hid (show Kept (fun _ => False) W W.drew from (Kept.refl _ _).drew)
  have HX := Lib.hid hX
  have HZ := Lib.hid hZ
  clear k0 kD hX hZ hD hG
  go_wp2_with fail
  go_region_with (first
    | (go_at_call 23; refine CD.out.mono ?_; rintro r w1 ⟨v1, rfl, ho1, hk1⟩; have O1 := Lib.hid ho1; obtain ⟨a1, c1, rfl⟩ := owns_sl ho1; have x9 := hk1.cell x9; have K1 := Lib.hid (K0.out.trans hk1 (fun _ _ h => h)); have KW1 := Lib.hid (KW.out.trans hk1 (fun _ _ h => h)))
    | (go_at_call 45; refine (CG.out _ K1.out).mono ?_; rintro r w2 ⟨v2, rfl, ho2, hk2⟩; have O2 := Lib.hid ho2; obtain ⟨a2, c2, rfl⟩ := owns_sl ho2; have K2 := Lib.hid (K1.out.trans hk2 (fun _ _ h => h)); have BX := Lib.hid ((KW1.out.trans hk2 (fun _ _ h => h)).blk (fun h => h) HX.out); have x2 := BX.out.cell' (i := 2) rfl; have x9 := BX.out.cell' (i := 9) rfl; have f2 := BX.out.frozen 2; have f9 := BX.out.frozen 9))
  all_goals
    have n1 := owns_new O1.out
    have n2 := owns_new O2.out
    have sW : W.drew.heap.size = w.heap.size + 2 := s0
    have z1 : W.drew.heap.size ≤ w1.heap.size := hk1.size
    have kS : Kept (fun b => b = w.heap.size) w2 ((w2.setCell ⟨w.heap.size, 2, none⟩ (.slice a1 D.length c1)).setCell ⟨w.heap.size, 9, none⟩ (.slice a2 G.length c2)) := ((Kept.refl (fun b => b = w.heap.size) w2).setCell (p := ⟨w.heap.size, 2, none⟩) (fun _ => rfl) _).setCell (p := ⟨w.heap.size, 9, none⟩) (fun _ => rfl) _
    have P1 := Lib.hid (owns_keep (owns_keep O1.out hk2 (fun _ _ h => h)) kS (fun b hb e => by have := n1 b hb; omega))
    have P2 := Lib.hid (owns_keep O2.out kS (fun b hb e => by have := n2 b hb; omega))
    have BX3 : Hid (Blk ((w2.setCell ⟨w.heap.size, 2, none⟩ (.slice a1 D.length c1)).setCell ⟨w.heap.size, 9, none⟩ (.slice a2 G.length c2)) w.heap.size 34 (opA { x with deps := ⟨a1, D.length, c1⟩, gone := ⟨a2, G.length, c2⟩ })) := Lib.hid ((BX.out.set_ 2 (.slice a1 D.length c1)).set_ 9 (.slice a2 G.length c2))
    have BZ3 := Lib.hid (kS.blk (fun e => by have e : w.heap.size + 1 = w.heap.size := e; omega) ((KW1.out.trans hk2 (fun _ _ h => h)).blk (fun h => h) HZ.out))
    have K3 := Lib.hid (K2.out.trans kS (fun b hb e => by omega))
    clear kS hk1 hk2 x2 x9 f2 f9 ho1 ho2 n1 n2
    generalize ((w2.setCell ⟨w.heap.size, 2, none⟩ (.slice a1 D.length c1)).setCell ⟨w.heap.size, 9, none⟩ (.slice a2 G.length c2)) = w3 at *
    have kR : Kept (fun b => b = w.heap.size + 1) w3 (w3.setRow (w.heap.size + 1) (opA { x with deps := ⟨a1, D.length, c1⟩, gone := ⟨a2, G.length, c2⟩ })) := (Kept.refl (fun b => b = w.heap.size + 1) w3).setRow (fun _ => rfl) _
    have m1 := owns_new P1.out
    have m2 := owns_new P2.out
    have R1 := Lib.hid (owns_keep P1.out kR (fun b hb e => by have := m1 b hb; omega))
    have R2 := Lib.hid (owns_keep P2.out kR (fun b hb e => by have := m2 b hb; omega))
    have K4 := Lib.hid (K3.out.trans kR (fun b hb e => by omega))
    clear kR m1 m2
    go_wp2_with (first
      | (refine wpList_load_row rfl 34 _ rfl w.heap.size rfl 34 _ (0, 0) _ BX3.out Try.underlying34 rfl (by rw [opA_size]; exact size_op) ?_)
      | (refine wpList_store_row rfl 34 _ _ rfl (w.heap.size + 1) (opA { x with deps := ⟨a1, D.length, c1⟩, gone := ⟨a2, G.length, c2⟩ }) rfl rfl 34 zeroOp BZ3.out (by rw [opA_size]; exact size_op) (by rw [opA_size]; rfl) (opA_one _) ?_))
    exact bodyPost_ret (Blk.result rfl _ (BZ3.out.row _) rfl Try.underlying34 rfl (by rw [opA_size]; exact size_op)) rfl ⟨⟨a1, D.length, c1⟩, ⟨a2, G.length, c2⟩, rfl, owns_lower R1.out (by omega), owns_lower R2.out (by omega), K4.out⟩
end Go.Proofs.Ytaaeomapbigfgaa

