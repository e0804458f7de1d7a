/- op.Check of a join. op.of, whatever the kind; its methods. op.Check of any operation. -/
import Derived.Test.YtaaeomapbigfgaaGreatV27
import Derived.Test.YtaaeomapbigfgaaGreatV5
import Derived.Test.YtaaeomapbigfgaaGreatV28
namespace Go.Proofs.YtaaeomapbigfgaaGreat
open Go.RowKit Go.Proofs.YtaaeomapbigfgaaGreat.St
open Go.Sort (grow)
theorem meth_right (s : Int) (w : World) : Sem.run Tryz.prog (method 285 112 (.agg #[.int .i64 s]) "hearsay/op.right") w = .ok (144, .agg #[.int .i64 s]) w := by kernel_rfl
theorem enRight : ∀ args w, Sem.run Tryz.prog (callFunc 144 args) w = .ok (.enter 144 args) w := Go.Proofs.enters_of Tryz.func144 (by kernel_rfl) rfl
set_option maxRecDepth 100000 in
set_option maxHeartbeats 8000000 in
theorem check_join {w : World} {x : OpV} {D : List Dot} (hx : x.Join) (hd : x.dot.Ok) (hD : SlAt dotE w x.deps.v D) (hDl : D.length ≤ 1000000) (hch : chkV 0 D = 0) (hget : getV D x.dot.site = x.dot.seq - 1) :
    Calls Tryz.prog 37 #[.agg (opA x)] w fun e w' => e = .returned (.int .i64 0) ∧ Kept (fun _ => False) w w' := by
  have hmix : Tryz.prog.follows .mixedOrders = true := by kernel_rfl
  have hB := Blk.new w 42 (opA x)
  have k0 : Kept (fun _ => False) w (w.alloc (.cells (opA x) 42)) := (Kept.refl _ _).alloc _
  have h1 := hd.1
  have h2 := hd.2.1
  have h3 := hd.2.2.1
  have h4 := hd.2.2.2
  have hs1 : ¬ x.dot.site < 1 := by omega
  have hs2 : ¬ 16 < x.dot.site := by omega
  have hs3 : ¬ x.dot.seq < 1 := by omega
  have hs4 : ¬ 2147483647 < x.dot.seq := by omega
  have hw : IntKind.i64.wrap (x.dot.seq - 1) = x.dot.seq - 1 := IntWalk.i64_in _ (by omega)
  go_enter Tryz.func37, Tryz.ntmps37
  go_upto_region 1 with fail
  generalize w.alloc (.cells (opA x) 42) = w0 at *
  have HB := Lib.hid hB
  have HOF := Lib.hid (fun (w' : World) => of_join (w := w') hx.kind)
  have HRI := Lib.hid (fun (w' : World) => right_join (w := w') hx)
  have HCH := Lib.hid (fun (w' : World) (hk : Kept (fun _ => False) w w') => vcheck_any (hD.kept hk) (by omega))
  have HGE := Lib.hid (fun (w' : World) (hk : Kept (fun _ => False) w w') => get_grew (hD.kept hk) (by omega) x.dot.site)
  rw [hch] at HCH
  rw [hget] at HGE
  have K0 := Lib.hid k0
  clear hB k0 hD hch hget h1 h2 h3 h4 hd hx
  go_upto_region 2 with (first
    | (refine wpList_load_row rfl 42 _ rfl w.heap.size rfl 42 _ (0, 0) _ HB.out Tryz.underlying42 rfl (by rw [opA_size]; kernel_rfl) ?_)
    | (go_at_call 63; refine (HOF.out _).mono ?_; rintro r w1 ⟨rfl, hg1⟩))
  have B1 := hg1.kept.blk (fun h => h) HB.out
  have K1 := Lib.hid (K0.out.trans hg1.kept (fun _ _ h => h))
  have b0 : w1.cell? ⟨w.heap.size, 0, none⟩ = some (.int .i64 x.dot.site) := B1.cell' (i := 0) rfl
  have b1 : w1.cell? ⟨w.heap.size, 1, none⟩ = some (.int .i64 x.dot.seq) := B1.cell' (i := 1) rfl
  have b2 : w1.cell? ⟨w.heap.size, 2, none⟩ = some x.deps.v := B1.cell' (i := 2) rfl
  have HB1 := Lib.hid B1
  clear B1 hg1 HB K0
  go_wp2_with (go_at_call 29; refine (HCH.out _ K1.out).mono ?_; rintro r w2 ⟨rfl, hk2⟩; have K2 := Lib.hid (K1.out.trans hk2 (fun _ _ h => h)); have HB2 := Lib.hid (hk2.blk (fun h => h) HB1.out))
  have hbl := HB2.out.lt
  have c0 := cell_grown (w := w2) (by show w.heap.size < _; omega) (show w2.cell? ⟨w.heap.size, 0, none⟩ = some (.int .i64 x.dot.site) from HB2.out.cell' (i := 0) rfl)
  have c1 := cell_grown (w := w2) (by show w.heap.size < _; omega) (show w2.cell? ⟨w.heap.size, 1, none⟩ = some (.int .i64 x.dot.seq) from HB2.out.cell' (i := 1) rfl)
  have c2 := cell_grown (w := w2) (by show w.heap.size < _; omega) (show w2.cell? ⟨w.heap.size, 2, none⟩ = some x.deps.v from HB2.out.cell' (i := 2) rfl)
  have HG2 := Lib.hid (fun (w' : World) (hk : Grew w2 w') => HGE.out w' (K2.out.trans hk.kept (fun _ _ h => h)))
  clear b0 b1 b2 hk2
  go_quiet_grown (first
    | (go_at_call 64; exact grown_call HG2.out _ _))
  clear c0 c1 c2
  have B3 := Lib.hid ((Grew.grown (w := w2) nq osq).kept.blk (fun h => h) HB2.out)
  have K3 := Lib.hid (K2.out.trans (Grew.grown (w := w2) nq osq).kept (fun _ _ h => h))
  generalize grow (w2.drewN nq) osq = w3 at *
  have hme := meth_right x.site
  have hen := enRight
  go_wp2_with (first
    | (refine wpList_load_row rfl 42 _ rfl w.heap.size rfl 42 _ (0, 0) _ B3.out Tryz.underlying42 rfl (by rw [opA_size]; kernel_rfl) ?_)
    | (go_at_call 144; refine (HRI.out _).mono ?_; rintro r w4 ⟨rfl, hg4⟩))
  go_ret
  exact ⟨rfl, K3.out.trans hg4.kept (fun _ _ h => h)⟩
end Go.Proofs.YtaaeomapbigfgaaGreat
namespace Go.Proofs.YtaaeomapbigfgaaGreat
open Go.RowKit Go.Proofs.YtaaeomapbigfgaaGreat.St
open Go.Sort (grow)
/-- what an operation does, as an interface's value -/
def whatV (x : OpV) : Value :=
  if x.kind = 1 then .iface 108 (.agg #[.int .i64 x.id.t, .int .i64 x.id.s, .int .i64 x.ref.t, .int .i64 x.ref.s, .string x.text]) else
  if x.kind = 2 then .iface 110 (.agg #[x.gone.v]) else
  if x.kind = 3 then .iface 112 (.agg #[.int .i64 x.site]) else
  if x.kind = 4 then .iface 114 (.agg #[]) else .nilIface
set_option maxRecDepth 100000 in
set_option maxHeartbeats 4000000 in
theorem of_all {w : World} (x : OpV) : Calls Tryz.prog 63 #[.agg (opA x)] w fun e w' => e = .returned (whatV x) ∧ Grew w w' := by
  by_cases h3 : x.kind = 3
  · have e : whatV x = .iface 112 (.agg #[.int .i64 x.site]) := by unfold whatV; rw [if_neg (by omega), if_neg (by omega), if_pos h3]
    rw [e]
    exact of_join h3
  have hB := Blk.new w 42 (opA x)
  have k0 : Grew w (w.alloc (.cells (opA x) 42)) := (Grew.refl _).alloc _
  by_cases h1 : x.kind = 1
  · have WV := Lib.hid (show whatV x = .iface 108 (.agg #[.int .i64 x.id.t, .int .i64 x.id.s, .int .i64 x.ref.t, .int .i64 x.ref.s, .string x.text]) from if_pos h1)
    have b3 : (w.alloc (.cells (opA x) 42)).cell? ⟨w.heap.size, 3, none⟩ = some (.int .i64 1) := by rw [← h1]; exact hB.cell' (i := 3) rfl
    have b4 : (w.alloc (.cells (opA x) 42)).cell? ⟨w.heap.size, 4, none⟩ = some (.int .i64 x.id.t) := hB.cell' (i := 4) rfl
    have b5 : (w.alloc (.cells (opA x) 42)).cell? ⟨w.heap.size, 5, none⟩ = some (.int .i64 x.id.s) := hB.cell' (i := 5) rfl
    have b6 : (w.alloc (.cells (opA x) 42)).cell? ⟨w.heap.size, 6, none⟩ = some (.int .i64 x.ref.t) := hB.cell' (i := 6) rfl
    have b7 : (w.alloc (.cells (opA x) 42)).cell? ⟨w.heap.size, 7, none⟩ = some (.int .i64 x.ref.s) := hB.cell' (i := 7) rfl
    have b8 : (w.alloc (.cells (opA x) 42)).cell? ⟨w.heap.size, 8, none⟩ = some (.string x.text) := hB.cell' (i := 8) rfl
    clear hB h1 h3
    go_enter Tryz.func63, Tryz.ntmps63
    go_wp2_with fail
    go_ret
    exact ⟨by rw [WV.out]; rfl, k0⟩
  by_cases h2 : x.kind = 2
  · have WV := Lib.hid (show whatV x = .iface 110 (.agg #[.slice x.gone.a x.gone.n x.gone.c]) by unfold whatV; rw [if_neg h1, if_pos h2]; rfl)
    have b3 : (w.alloc (.cells (opA x) 42)).cell? ⟨w.heap.size, 3, none⟩ = some (.int .i64 2) := by rw [← h2]; exact hB.cell' (i := 3) rfl
    have b9 : (w.alloc (.cells (opA x) 42)).cell? ⟨w.heap.size, 9, none⟩ = some (.slice x.gone.a x.gone.n x.gone.c) := hB.cell' (i := 9) rfl
    clear hB h1 h2 h3
    go_enter Tryz.func63, Tryz.ntmps63
    go_wp2_with fail
    go_ret
    exact ⟨by rw [WV.out]; rfl, k0⟩
  by_cases h4 : x.kind = 4
  · have WV := Lib.hid (show whatV x = .iface 114 (.agg #[]) by unfold whatV; rw [if_neg h1, if_neg h2, if_neg h3, if_pos h4])
    have b3 : (w.alloc (.cells (opA x) 42)).cell? ⟨w.heap.size, 3, none⟩ = some (.int .i64 4) := by rw [← h4]; exact hB.cell' (i := 3) rfl
    clear hB h1 h2 h3 h4
    go_enter Tryz.func63, Tryz.ntmps63
    go_wp2_with fail
    go_ret
    exact ⟨by rw [WV.out]; rfl, k0⟩
  · have WV := Lib.hid (show whatV x = .nilIface by unfold whatV; rw [if_neg h1, if_neg h2, if_neg h3, if_neg h4])
    have b3 : (w.alloc (.cells (opA x) 42)).cell? ⟨w.heap.size, 3, none⟩ = some (.int .i64 x.kind) := hB.cell' (i := 3) rfl
    have e1 : (x.kind == 1) = false := beq_eq_false_iff_ne.2 h1
    have e2 : (x.kind == 2) = false := beq_eq_false_iff_ne.2 h2
    have e3 : (x.kind == 3) = false := beq_eq_false_iff_ne.2 h3
    have e4 : (x.kind == 4) = false := beq_eq_false_iff_ne.2 h4
    clear hB h1 h2 h3 h4
    go_enter Tryz.func63, Tryz.ntmps63
    go_wp2_with fail
    go_ret
    exact ⟨by rw [WV.out]; rfl, k0⟩
end Go.Proofs.YtaaeomapbigfgaaGreat
namespace Go.Proofs.YtaaeomapbigfgaaGreat
open Go.RowKit Go.Proofs.YtaaeomapbigfgaaGreat.St
open Go.Sort (grow)
set_option maxRecDepth 100000 in
set_option maxHeartbeats 8000000 in
/-- Check, where the operation is of some kind -/
theorem check_core {w : World} {x : OpV} {D : List Dot} {T : TypeId} {v : Value} {f : FuncId} {b : Bool} (hof : ∀ w', Calls Tryz.prog 63 #[.agg (opA x)] w' fun e w'' => e = .returned (.iface T v) ∧ Grew w' w'')
    (hme : ∀ w', Sem.run Tryz.prog (method 285 T v "hearsay/op.right") w' = .ok (f, v) w') (hen : ∀ args w', Sem.run Tryz.prog (callFunc f args) w' = .ok (.enter f args) w') (hr : ∀ w', Kept (fun _ => False) w w' → Calls Tryz.prog f #[v, .agg (opA x)] w' fun e w'' => e = .returned (.bool b) ∧ Kept (fun _ => False) w' w'')
    (hD : SlAt dotE w x.deps.v D) (hDl : D.length ≤ 1000000) :
    Calls Tryz.prog 37 #[.agg (opA x)] w fun e w' => e = .returned (.int .i64 (if x.dot.Ok ∧ chkV 0 D = 0 ∧ getV D x.dot.site = x.dot.seq - 1 ∧ b = true then 0 else 10)) ∧ Kept (fun _ => False) w w' := by
  have hmix : Tryz.prog.follows .mixedOrders = true := by kernel_rfl
  have hB := Blk.new w 42 (opA x)
  have k0 : Kept (fun _ => False) w (w.alloc (.cells (opA x) 42)) := (Kept.refl _ _).alloc _
  obtain ⟨c, hc⟩ : ∃ c : Int, (if x.dot.Ok ∧ chkV 0 D = 0 ∧ getV D x.dot.site = x.dot.seq - 1 ∧ b = true then 0 else 10) = c := ⟨_, rfl⟩
  rw [hc]
  have HC := Lib.hid hc
  clear hc
  have HCH := Lib.hid (fun (w' : World) (hk : Kept (fun _ => False) w w') => vcheck_any (hD.kept hk) (by omega))
  have HGE := Lib.hid (fun (w' : World) (hk : Kept (fun _ => False) w w') => get_grew (hD.kept hk) (by omega) x.dot.site)
  have HOF := Lib.hid hof
  have HRI := Lib.hid hr
  have ME := Lib.hid hme
  have EN := Lib.hid hen
  obtain ⟨ch, hch⟩ : ∃ n, chkV 0 D = n := ⟨_, rfl⟩
  obtain ⟨gv, hgv⟩ : ∃ n, getV D x.dot.site = n := ⟨_, rfl⟩
  rw [hch] at HCH
  rw [hgv] at HGE
  have ECH := Lib.hid hch
  have EGV := Lib.hid hgv
  clear hof hr hme hen hD hch hgv
  go_enter Tryz.func37, Tryz.ntmps37
  go_upto_region 1 with fail
  generalize w.alloc (.cells (opA x) 42) = w0 at *
  have HB := Lib.hid hB
  have K0 := Lib.hid k0
  clear hB k0
  go_upto_region 2 with (first
    | (refine wpList_load_row rfl 42 _ rfl w.heap.size rfl 42 _ (0, 0) _ HB.out Tryz.underlying42 rfl (by rw [opA_size]; kernel_rfl) ?_)
    | (go_at_call 63; refine (HOF.out _).mono ?_; rintro r w1 ⟨rfl, hg1⟩))
  have B1 := hg1.kept.blk (fun h => h) HB.out
  have K1 := Lib.hid (K0.out.trans hg1.kept (fun _ _ h => h))
  have b0 : w1.cell? ⟨w.heap.size, 0, none⟩ = some (.int .i64 x.dot.site) := B1.cell' (i := 0) rfl
  have b1 : w1.cell? ⟨w.heap.size, 1, none⟩ = some (.int .i64 x.dot.seq) := B1.cell' (i := 1) rfl
  have b2 : w1.cell? ⟨w.heap.size, 2, none⟩ = some x.deps.v := B1.cell' (i := 2) rfl
  have HB1 := Lib.hid B1
  clear B1 hg1 HB K0
  by_cases d1 : x.dot.site < 1
  case pos =>
    obtain rfl : c = 10 := HC.out.symm.trans (if_neg (fun h => by have := h.1; unfold Dot.Ok at this; omega))
    clear HC
    go_wp2_with fail
    go_ret
    exact ⟨rfl, K1.out⟩
  by_cases d2 : 16 < x.dot.site
  case pos =>
    obtain rfl : c = 10 := HC.out.symm.trans (if_neg (fun h => by have := h.1; unfold Dot.Ok at this; omega))
    clear HC
    go_wp2_with fail
    go_ret
    exact ⟨rfl, K1.out⟩
  by_cases d3 : x.dot.seq < 1
  case pos =>
    obtain rfl : c = 10 := HC.out.symm.trans (if_neg (fun h => by have := h.1; unfold Dot.Ok at this; omega))
    clear HC
    go_wp2_with fail
    go_ret
    exact ⟨rfl, K1.out⟩
  by_cases d4 : 2147483647 < x.dot.seq
  case pos =>
    obtain rfl : c = 10 := HC.out.symm.trans (if_neg (fun h => by have := h.1; unfold Dot.Ok at this; omega))
    clear HC
    go_wp2_with fail
    go_ret
    exact ⟨rfl, K1.out⟩
  by_cases d5 : ch = 0
  case neg =>
    obtain rfl : c = 10 := HC.out.symm.trans (if_neg (fun h => d5 (ECH.out.symm.trans h.2.1)))
    have e5 : (ch == 0) = false := beq_eq_false_iff_ne.2 d5
    clear HC d5
    go_wp2_with (go_at_call 29; refine (HCH.out _ K1.out).mono ?_; rintro r w2 ⟨rfl, hk2⟩)
    go_ret
    exact ⟨rfl, K1.out.trans hk2 (fun _ _ h => h)⟩
  subst d5
  have hw : IntKind.i64.wrap (x.dot.seq - 1) = x.dot.seq - 1 := IntWalk.i64_in _ (by omega)
  go_upto_region 8 with (go_at_call 29; refine (HCH.out _ K1.out).mono ?_; rintro r w2 ⟨rfl, hk2⟩; have K2 := Lib.hid (K1.out.trans hk2 (fun _ _ h => h)); have HB2 := Lib.hid (hk2.blk (fun h => h) HB1.out))
  have hbl := HB2.out.lt
  have c0 := cell_grown (w := w2) (by show w.heap.size < _; omega) (show w2.cell? ⟨w.heap.size, 0, none⟩ = some (.int .i64 x.dot.site) from HB2.out.cell' (i := 0) rfl)
  have c1 := cell_grown (w := w2) (by show w.heap.size < _; omega) (show w2.cell? ⟨w.heap.size, 1, none⟩ = some (.int .i64 x.dot.seq) from HB2.out.cell' (i := 1) rfl)
  have c2 := cell_grown (w := w2) (by show w.heap.size < _; omega) (show w2.cell? ⟨w.heap.size, 2, none⟩ = some x.deps.v from HB2.out.cell' (i := 2) rfl)
  have HG2 := Lib.hid (fun (w' : World) (hk : Grew w2 w') => HGE.out w' (K2.out.trans hk.kept (fun _ _ h => h)))
  clear b0 b1 b2 hk2
  by_cases d6 : gv = x.dot.seq - 1
  case neg =>
    obtain rfl : c = 10 := HC.out.symm.trans (if_neg (fun h => d6 (EGV.out.symm.trans h.2.2.1)))
    have e6 : (gv == x.dot.seq - 1) = false := beq_eq_false_iff_ne.2 d6
    have e7 : (gv != x.dot.seq - 1) = true := bne_iff_ne.2 d6
    clear HC d6
    go_quiet_grown (first
      | (go_at_call 64; exact grown_call HG2.out _ _))
    clear c0 c1 c2
    have K3 := Lib.hid (K2.out.trans (Grew.grown (w := w2) nq osq).kept (fun _ _ h => h))
    generalize grow (w2.drewN nq) osq = w3 at *
    go_wp2_with fail
    go_ret
    exact ⟨rfl, K3.out⟩
  have D6 := Lib.hid d6
  have e6 : (gv == x.dot.seq - 1) = true := beq_iff_eq.2 d6
  have e7 : (gv != x.dot.seq - 1) = false := by rw [d6]; exact bne_self_eq_false _
  clear d6
  go_quiet_grown (first
    | (go_at_call 64; exact grown_call HG2.out _ _))
  clear c0 c1 c2
  have B3 := Lib.hid ((Grew.grown (w := w2) nq osq).kept.blk (fun h => h) HB2.out)
  have K3 := Lib.hid (K2.out.trans (Grew.grown (w := w2) nq osq).kept (fun _ _ h => h))
  generalize grow (w2.drewN nq) osq = w3 at *
  have hme := ME.out
  have hen := EN.out
  have ENS : Hid ((if b = true then (0 : Int) else 10) = c) := Lib.hid (by
    rw [← HC.out]
    by_cases hb : b = true
    · rw [if_pos hb, if_pos ⟨⟨by omega, by omega, by omega, by omega⟩, ECH.out, EGV.out.trans D6.out, hb⟩]
    · rw [if_neg hb, if_neg (fun h => hb h.2.2.2)])
  clear HC d1 d2 d3 d4 hw e6
  cases b with
  | false =>
    obtain rfl : 10 = c := ENS.out
    clear ENS
    go_wp2_with (first
      | (refine wpList_load_row rfl 42 _ rfl w.heap.size rfl 42 _ (0, 0) _ B3.out Tryz.underlying42 rfl (by rw [opA_size]; kernel_rfl) ?_)
      | (refine (HRI.out _ K3.out).mono ?_; rintro r w4 ⟨rfl, hk4⟩))
    go_ret
    exact ⟨rfl, K3.out.trans hk4 (fun _ _ h => h)⟩
  | true =>
    obtain rfl : 0 = c := ENS.out
    clear ENS
    go_wp2_with (first
      | (refine wpList_load_row rfl 42 _ rfl w.heap.size rfl 42 _ (0, 0) _ B3.out Tryz.underlying42 rfl (by rw [opA_size]; kernel_rfl) ?_)
      | (refine (HRI.out _ K3.out).mono ?_; rintro r w4 ⟨rfl, hk4⟩))
    go_ret
    exact ⟨rfl, K3.out.trans hk4 (fun _ _ h => h)⟩
end Go.Proofs.YtaaeomapbigfgaaGreat
