/- op.of and op.Check of a join. op.Check of a join. hearsaylaw13.join and dots. Contracts of the library at this translation: the numbers. slices.SortFunc of identifiers, on a row of the call's own. slices.SortFunc of Dots by site and number, on a row of the call's own. (*causal.Queue).Waits. -/
import Derived.Test.YtaaeomapbigfgaaGreatU8
import Derived.Laws.EntriesVeiled
import Derived.Deep.CutBlock
import Derived.Test.YtaaeomapbigfgaaGreatU4
import Derived.Test.YtaaeomapbigfgaaGreatU9
import Derived.Test.YtaaeomapbigfgaaGreatU13
import Derived.Test.YtaaeomapbigfgaaGreatChecked
import Derived.Shelf.SlSortCmp.NoneTotal
import Derived.Test.YtaaeomapbigfgaaGreatU5
import Derived.Test.YtaaeomapbigfgaaGreatU3
import Derived.Test.YtaaeomapbigfgaaGreatU7
namespace Go.Proofs.YtaaeomapbigfgaaGreat
open Go.RowKit Go.Proofs.YtaaeomapbigfgaaGreat.St
set_option maxRecDepth 100000 in
set_option maxHeartbeats 4000000 in
theorem of_join {w : World} {x : OpV} (hk : x.kind = 3) : Calls Tryz.prog 63 #[.agg (opA x)] w fun e w' => e = .returned (.iface 112 (.agg #[.int .i64 x.site])) ∧ Grew w w' := by
  have hB := Blk.new w 42 (opA x)
  have k0 : Grew w (w.alloc (.cells (opA x) 42)) := (Grew.refl _).alloc _
  have b3 : (w.alloc (.cells (opA x) 42)).cell? ⟨w.heap.size, 3, none⟩ = some (.int .i64 3) := by rw [← hk]; exact hB.cell' (i := 3) rfl
  have b10 : (w.alloc (.cells (opA x) 42)).cell? ⟨w.heap.size, 10, none⟩ = some (.int .i64 x.site) := hB.cell' (i := 10) rfl
  clear hB
  go_enter Tryz.func63, Tryz.ntmps63
  go_wp2_with fail
  go_ret
  exact ⟨rfl, k0⟩
/-- an operation that is a join and nothing else -/
structure OpV.Join (x : OpV) : Prop where
  kind : x.kind = 3
  id : x.id = ⟨0, 0⟩
  ref : x.ref = ⟨0, 0⟩
  text : x.text = ⟨#[]⟩
  gone : x.gone.n = 0
  site : 1 ≤ x.site ∧ x.site ≤ 16
set_option maxRecDepth 100000 in
set_option maxHeartbeats 4000000 in
theorem rest_any {w : World} (x : OpV) : Calls Tryz.prog 128 #[.agg (opA x)] w fun e w' => e = .returned (.agg #[.int .i64 x.id.t, .int .i64 x.id.s, .int .i64 x.ref.t, .int .i64 x.ref.s, .string x.text, .int .i64 x.site]) ∧ Grew w w' := by
  have hB := (Blk.new w 42 (opA x)).alloc (.cells #[.int .i64 0, .int .i64 0, .int .i64 0, .int .i64 0, .string ⟨#[]⟩, .int .i64 0] 170)
  have hR := Blk.new (w.alloc (.cells (opA x) 42)) 170 #[.int .i64 0, .int .i64 0, .int .i64 0, .int .i64 0, .string ⟨#[]⟩, .int .i64 0]
  have k0 : Grew w ((w.alloc (.cells (opA x) 42)).alloc (.cells #[.int .i64 0, .int .i64 0, .int .i64 0, .int .i64 0, .string ⟨#[]⟩, .int .i64 0] 170)) := ((Grew.refl _).alloc _).alloc _
  rw [World.size_alloc] at hR
  go_enter Tryz.func128, Tryz.ntmps128
  go_upto_region 1 with fail
  generalize ((w.alloc (.cells (opA x) 42)).alloc (.cells #[.int .i64 0, .int .i64 0, .int .i64 0, .int .i64 0, .string ⟨#[]⟩, .int .i64 0] 170)) = W at *
  have b4 : W.cell? ⟨w.heap.size, 4, none⟩ = some (.int .i64 x.id.t) := hB.cell' (i := 4) rfl
  have b5 : W.cell? ⟨w.heap.size, 5, none⟩ = some (.int .i64 x.id.s) := hB.cell' (i := 5) rfl
  have b6 : W.cell? ⟨w.heap.size, 6, none⟩ = some (.int .i64 x.ref.t) := hB.cell' (i := 6) rfl
  have b7 : W.cell? ⟨w.heap.size, 7, none⟩ = some (.int .i64 x.ref.s) := hB.cell' (i := 7) rfl
  have b8 : W.cell? ⟨w.heap.size, 8, none⟩ = some (.string x.text) := hB.cell' (i := 8) rfl
  have b10 : W.cell? ⟨w.heap.size, 10, none⟩ = some (.int .i64 x.site) := hB.cell' (i := 10) rfl
  have HR := Lib.hid hR
  have K0 := Lib.hid k0
  have SZ : (Tryz.prog.info? 170).map (·.size) = some 6 := by kernel_rfl
  have HZ := Lib.hid SZ
  clear hB hR k0 SZ
  go_wp2_with (refine wpList_store_row rfl 170 _ _ rfl (w.heap.size + 1) #[.int .i64 x.id.t, .int .i64 x.id.s, .int .i64 x.ref.t, .int .i64 x.ref.s, .string x.text, .int .i64 x.site] rfl rfl 170 #[.int .i64 0, .int .i64 0, .int .i64 0, .int .i64 0, .string ⟨#[]⟩, .int .i64 0] HR.out HZ.out rfl (by simp [Value.oneCell']) ?_)
  exact bodyPost_ret (Blk.result rfl _ (HR.out.row _) rfl Tryz.underlying170 rfl HZ.out) rfl ⟨rfl, K0.out.setRow (by omega) _⟩
set_option maxRecDepth 100000 in
set_option maxHeartbeats 8000000 in
theorem right_join {w : World} {x : OpV} (hx : x.Join) : Calls Tryz.prog 144 #[.agg #[.int .i64 x.site], .agg (opA x)] w fun e w' => e = .returned (.bool true) ∧ Grew w w' := by
  have hmix : Tryz.prog.follows .mixedOrders = true := by kernel_rfl
  have hS := (Blk.new w 112 #[.int .i64 x.site]).alloc (.cells (opA x) 42)
  have hB := Blk.new (w.alloc (.cells #[.int .i64 x.site] 112)) 42 (opA x)
  have k0 : Grew w ((w.alloc (.cells #[.int .i64 x.site] 112)).alloc (.cells (opA x) 42)) := ((Grew.refl _).alloc _).alloc _
  rw [World.size_alloc] at hB
  have s0 : ((w.alloc (.cells #[.int .i64 x.site] 112)).alloc (.cells (opA x) 42)).heap.size = w.heap.size + 2 := by simp
  have h1 := hx.site.1
  have h2 := hx.site.2
  obtain ⟨W, hW⟩ : ∃ W, ((w.alloc (.cells #[.int .i64 x.site] 112)).alloc (.cells (opA x) 42)) = W := ⟨_, rfl⟩
  rw [hW] at hS hB k0 s0
  have s1 := cell_grown (w := W) (by show w.heap.size < _; omega) (show W.cell? ⟨w.heap.size, 0, none⟩ = some (.int .i64 x.site) from hS.cell' (i := 0) rfl)
  have b0 := cell_grown (w := W) (by show w.heap.size + 1 < _; omega) (show W.cell? ⟨w.heap.size + 1, 0, none⟩ = some (.int .i64 x.dot.site) from hB.cell' (i := 0) rfl)
  have b1 := cell_grown (w := W) (by show w.heap.size + 1 < _; omega) (show W.cell? ⟨w.heap.size + 1, 1, none⟩ = some (.int .i64 x.dot.seq) from hB.cell' (i := 1) rfl)
  have b2 := cell_grown (w := W) (by show w.heap.size + 1 < _; omega) (show W.cell? ⟨w.heap.size + 1, 2, none⟩ = some (.slice x.deps.a x.deps.n x.deps.c) from hB.cell' (i := 2) rfl)
  have b3 := cell_grown (w := W) (by show w.heap.size + 1 < _; omega) (show W.cell? ⟨w.heap.size + 1, 3, none⟩ = some (.int .i64 x.kind) from hB.cell' (i := 3) rfl)
  have b4 := cell_grown (w := W) (by show w.heap.size + 1 < _; omega) (show W.cell? ⟨w.heap.size + 1, 4, none⟩ = some (.int .i64 0) from (hB.cell' (i := 4) rfl : W.cell? ⟨w.heap.size + 1, 4, none⟩ = some (.int .i64 x.id.t)).trans (by rw [hx.id]))
  have b5 := cell_grown (w := W) (by show w.heap.size + 1 < _; omega) (show W.cell? ⟨w.heap.size + 1, 5, none⟩ = some (.int .i64 0) from (hB.cell' (i := 5) rfl : W.cell? ⟨w.heap.size + 1, 5, none⟩ = some (.int .i64 x.id.s)).trans (by rw [hx.id]))
  have b6 := cell_grown (w := W) (by show w.heap.size + 1 < _; omega) (show W.cell? ⟨w.heap.size + 1, 6, none⟩ = some (.int .i64 0) from (hB.cell' (i := 6) rfl : W.cell? ⟨w.heap.size + 1, 6, none⟩ = some (.int .i64 x.ref.t)).trans (by rw [hx.ref]))
  have b7 := cell_grown (w := W) (by show w.heap.size + 1 < _; omega) (show W.cell? ⟨w.heap.size + 1, 7, none⟩ = some (.int .i64 0) from (hB.cell' (i := 7) rfl : W.cell? ⟨w.heap.size + 1, 7, none⟩ = some (.int .i64 x.ref.s)).trans (by rw [hx.ref]))
  have b8 := cell_grown (w := W) (by show w.heap.size + 1 < _; omega) (show W.cell? ⟨w.heap.size + 1, 8, none⟩ = some (.string ⟨#[]⟩) from (hB.cell' (i := 8) rfl : W.cell? ⟨w.heap.size + 1, 8, none⟩ = some (.string x.text)).trans (by rw [hx.text]))
  have b9 := cell_grown (w := W) (by show w.heap.size + 1 < _; omega) (show W.cell? ⟨w.heap.size + 1, 9, none⟩ = some (.slice x.gone.a 0 x.gone.c) from (hB.cell' (i := 9) rfl : W.cell? ⟨w.heap.size + 1, 9, none⟩ = some (.slice x.gone.a x.gone.n x.gone.c)).trans (by rw [hx.gone]))
  have b10 := cell_grown (w := W) (by show w.heap.size + 1 < _; omega) (show W.cell? ⟨w.heap.size + 1, 10, none⟩ = some (.int .i64 x.site) from hB.cell' (i := 10) rfl)
  have HR := Lib.hid (fun (w' : World) (_ : Grew W w') => rest_any (w := w') x)
  have hrest : (#[.int .i64 x.id.t, .int .i64 x.id.s, .int .i64 x.ref.t, .int .i64 x.ref.s, .string x.text, .int .i64 x.site] : Array Value) = #[.int .i64 0, .int .i64 0, .int .i64 0, .int .i64 0, .string ⟨#[]⟩, .int .i64 x.site] := by rw [hx.id, hx.ref, hx.text]
  rw [hrest] at HR
  have HX := Lib.hid hx
  have K0 := Lib.hid k0
  have HW := Lib.hid hW
  have HOP : opA x = #[.int .i64 x.dot.site, .int .i64 x.dot.seq, .slice x.deps.a x.deps.n x.deps.c, .int .i64 x.kind, .int .i64 0, .int .i64 0, .int .i64 0, .int .i64 0, .string ⟨#[]⟩, .slice x.gone.a 0 x.gone.c, .int .i64 x.site] := by
    have : opA x = #[.int .i64 x.dot.site, .int .i64 x.dot.seq, .slice x.deps.a x.deps.n x.deps.c, .int .i64 x.kind, .int .i64 x.id.t, .int .i64 x.id.s, .int .i64 x.ref.t, .int .i64 x.ref.s, .string x.text, .slice x.gone.a x.gone.n x.gone.c, .int .i64 x.site] := rfl
    rw [this, hx.id, hx.ref, hx.text, hx.gone]
  have HOP2 := Lib.hid HOP
  clear hx hS hB k0 s0 hW hrest HOP
  go_enter Tryz.func144, Tryz.ntmps144
  go_wp2_with fail
  rw [HW.out]
  go_quiet_grown (first
    | (go_at_call 128; rw [← HOP2.out]; exact grown_call HR.out _ _))
  go_wp2_with fail
  go_ret
  exact ⟨rfl, K0.out.trans (Grew.grown _ _)⟩
end Go.Proofs.YtaaeomapbigfgaaGreat
namespace Go.Proofs.YtaaeomapbigfgaaGreat
open Go.RowKit Go.Proofs.YtaaeomapbigfgaaGreat.St
open Go.Sort (grow)
theorem meth_right (s : Int) (w : World) : Sem.run Tryz.prog (method 285 112 (.agg #[.int .i64 s]) "hearsay/op.right") w = .ok (144, .agg #[.int .i64 s]) w := by kernel_rfl
theorem enRight : ∀ args w, Sem.run Tryz.prog (callFunc 144 args) w = .ok (.enter 144 args) w := Go.Proofs.enters_of Tryz.func144 (by kernel_rfl) rfl
set_option maxRecDepth 100000 in
set_option maxHeartbeats 8000000 in
theorem check_join {w : World} {x : OpV} {D : List Dot} (hx : x.Join) (hd : x.dot.Ok) (hD : SlAt dotE w x.deps.v D) (hDl : D.length ≤ 1000000) (hch : chkV 0 D = 0) (hget : getV D x.dot.site = x.dot.seq - 1) :
    Calls Tryz.prog 37 #[.agg (opA x)] w fun e w' => e = .returned (.int .i64 0) ∧ Kept (fun _ => False) w w' := by
  have hmix : Tryz.prog.follows .mixedOrders = true := by kernel_rfl
  have hB := Blk.new w 42 (opA x)
  have k0 : Kept (fun _ => False) w (w.alloc (.cells (opA x) 42)) := (Kept.refl _ _).alloc _
  have h1 := hd.1
  have h2 := hd.2.1
  have h3 := hd.2.2.1
  have h4 := hd.2.2.2
  have hs1 : ¬ x.dot.site < 1 := by omega
  have hs2 : ¬ 16 < x.dot.site := by omega
  have hs3 : ¬ x.dot.seq < 1 := by omega
  have hs4 : ¬ 2147483647 < x.dot.seq := by omega
  have hw : IntKind.i64.wrap (x.dot.seq - 1) = x.dot.seq - 1 := IntWalk.i64_in _ (by omega)
  go_enter Tryz.func37, Tryz.ntmps37
  go_upto_region 1 with fail
  generalize w.alloc (.cells (opA x) 42) = w0 at *
  have HB := Lib.hid hB
  have HOF := Lib.hid (fun (w' : World) => of_join (w := w') hx.kind)
  have HRI := Lib.hid (fun (w' : World) => right_join (w := w') hx)
  have HCH := Lib.hid (fun (w' : World) (hk : Kept (fun _ => False) w w') => vcheck_any (hD.kept hk) (by omega))
  have HGE := Lib.hid (fun (w' : World) (hk : Kept (fun _ => False) w w') => get_grew (hD.kept hk) (by omega) x.dot.site)
  rw [hch] at HCH
  rw [hget] at HGE
  have K0 := Lib.hid k0
  clear hB k0 hD hch hget h1 h2 h3 h4 hd hx
  go_upto_region 2 with (first
    | (refine wpList_load_row rfl 42 _ rfl w.heap.size rfl 42 _ (0, 0) _ HB.out Tryz.underlying42 rfl (by rw [opA_size]; kernel_rfl) ?_)
    | (go_at_call 63; refine (HOF.out _).mono ?_; rintro r w1 ⟨rfl, hg1⟩))
  have B1 := hg1.kept.blk (fun h => h) HB.out
  have K1 := Lib.hid (K0.out.trans hg1.kept (fun _ _ h => h))
  have b0 : w1.cell? ⟨w.heap.size, 0, none⟩ = some (.int .i64 x.dot.site) := B1.cell' (i := 0) rfl
  have b1 : w1.cell? ⟨w.heap.size, 1, none⟩ = some (.int .i64 x.dot.seq) := B1.cell' (i := 1) rfl
  have b2 : w1.cell? ⟨w.heap.size, 2, none⟩ = some x.deps.v := B1.cell' (i := 2) rfl
  have HB1 := Lib.hid B1
  clear B1 hg1 HB K0
  go_wp2_with (go_at_call 29; refine (HCH.out _ K1.out).mono ?_; rintro r w2 ⟨rfl, hk2⟩; have K2 := Lib.hid (K1.out.trans hk2 (fun _ _ h => h)); have HB2 := Lib.hid (hk2.blk (fun h => h) HB1.out))
  have hbl := HB2.out.lt
  have c0 := cell_grown (w := w2) (by show w.heap.size < _; omega) (show w2.cell? ⟨w.heap.size, 0, none⟩ = some (.int .i64 x.dot.site) from HB2.out.cell' (i := 0) rfl)
  have c1 := cell_grown (w := w2) (by show w.heap.size < _; omega) (show w2.cell? ⟨w.heap.size, 1, none⟩ = some (.int .i64 x.dot.seq) from HB2.out.cell' (i := 1) rfl)
  have c2 := cell_grown (w := w2) (by show w.heap.size < _; omega) (show w2.cell? ⟨w.heap.size, 2, none⟩ = some x.deps.v from HB2.out.cell' (i := 2) rfl)
  have HG2 := Lib.hid (fun (w' : World) (hk : Grew w2 w') => HGE.out w' (K2.out.trans hk.kept (fun _ _ h => h)))
  clear b0 b1 b2 hk2
  go_quiet_grown (first
    | (go_at_call 64; exact grown_call HG2.out _ _))
  clear c0 c1 c2
  have B3 := Lib.hid ((Grew.grown (w := w2) nq osq).kept.blk (fun h => h) HB2.out)
  have K3 := Lib.hid (K2.out.trans (Grew.grown (w := w2) nq osq).kept (fun _ _ h => h))
  generalize grow (w2.drewN nq) osq = w3 at *
  have hme := meth_right x.site
  have hen := enRight
  go_wp2_with (first
    | (refine wpList_load_row rfl 42 _ rfl w.heap.size rfl 42 _ (0, 0) _ B3.out Tryz.underlying42 rfl (by rw [opA_size]; kernel_rfl) ?_)
    | (go_at_call 144; refine (HRI.out _).mono ?_; rintro r w4 ⟨rfl, hg4⟩))
  go_ret
  exact ⟨rfl, K3.out.trans hg4.kept (fun _ _ h => h)⟩
end Go.Proofs.YtaaeomapbigfgaaGreat
namespace Go.Proofs.YtaaeomapbigfgaaGreat
open Go.RowKit Go.Proofs.YtaaeomapbigfgaaGreat.St
open Go.Sort (grow)
/-- a join -/
def joinV (d : Dot) (s : Sl) : OpV := ⟨d, s, 3, ⟨0, 0⟩, ⟨0, 0⟩, ⟨#[]⟩, ⟨none, 0, 0⟩, 9⟩
set_option maxRecDepth 100000 in
set_option maxHeartbeats 2000000 in
theorem join_any {w : World} (d : Dot) (s : Sl) :
    Calls Tryz.prog 26 #[.int .i64 d.site, .int .i64 d.seq, s.v] w fun r w' => r = .returned (.agg (opA (joinV d s))) ∧ Kept (fun _ => False) w w' := by
  have B0 := Lib.hid (Blk.new w 42 zeroOp)
  have k0 : Kept (fun _ => False) w (w.alloc (.cells zeroOp 42)) := (Kept.refl _ _).alloc _
  have hs : s.v = .slice s.a s.n s.c := rfl
  rw [hs]
  clear hs
  go_enter Tryz.func26, Tryz.ntmps26
  go_upto_region 1 with fail
  have K0 := Lib.hid k0
  generalize w.alloc (.cells zeroOp 42) = w0 at *
  clear k0
  go_wp2_with (first
    | (refine wpList_store_row rfl 42 _ _ rfl w.heap.size (opA (joinV d s)) rfl rfl 42 zeroOp B0.out (by rw [opA_size]; exact size_op) (by rw [opA_size]; rfl) (opA_one _) ?_))
  exact bodyPost_ret (Blk.result rfl _ (B0.out.row _) rfl Tryz.underlying42 rfl (by rw [opA_size]; exact size_op)) rfl ⟨rfl, K0.out.setRow (fun h => by omega) _⟩
theorem dots_any {w : World} {u v : Value} {L M : List Dot} (hu : SlAt dotE w u L) (hv : SlAt dotE w v M) (hb : L.length ≤ 1000000000) :
    Calls Tryz.prog 27 #[u, v] w fun e w' => e = .returned (.bool (decide (L = M))) ∧ ∃ q, w' = w.drewN q := by
  have HS := Lib.hid (same_any hu hv hb)
  clear hu hv
  go_enter Tryz.func27, Tryz.ntmps27
  go_wp2_with (go_at_call 11; refine HS.out.mono ?_; rintro r w1 ⟨rfl, q, rfl⟩)
  go_ret
  exact ⟨rfl, q, rfl⟩
end Go.Proofs.YtaaeomapbigfgaaGreat
namespace Go.Proofs.YtaaeomapbigfgaaGreat.St
def sortDot_ren : Go.Shelf.Ren := ⟨fun | 6 => 47 | 15 => 71 | 14 => 70 | 28 => 88 | 29 => 89 | 20 => 80 | 21 => 81 | 22 => 82 | 23 => 83 | 24 => 84 | 25 => 85 | 26 => 86 | 27 => 87 | 46 => 95 | 47 => 96 | 48 => 97 | 49 => 98 | 50 => 99 | 57 => 102 | n => n, fun | 22 => 22 | 24 => 28 | 25 => 87 | 3 => 3 | 39 => 104 | 0 => 0 | 53 => 127 | 55 => 129 | 4 => 4 | 46 => 120 | 45 => 119 | 50 => 124 | 5 => 5 | 9 => 9 | 66 => 135 | 70 => 139 | 76 => 143 | 77 => 73 | n => n, fun | n => n⟩
theorem sortDot : Go.Proofs.SlLaysF0.n6 Tryz.prog sortDot_ren := {
  mixed := by kernel_rfl,
  f6 := ⟨Tryz.f47.name, by decide, Tryz.func47.trans (congrArg some (by kernel_rfl))⟩,
  f14 := ⟨Tryz.f70.name, by decide, Tryz.func70.trans (congrArg some (by kernel_rfl))⟩,
  f15 := Tryz.func71.trans (congrArg some (by kernel_rfl)),
  f20 := ⟨Tryz.f80.name, by decide, Tryz.func80.trans (congrArg some (by kernel_rfl))⟩,
  f21 := ⟨Tryz.f81.name, by decide, Tryz.func81.trans (congrArg some (by kernel_rfl))⟩,
  f22 := ⟨Tryz.f82.name, by decide, Tryz.func82.trans (congrArg some (by kernel_rfl))⟩,
  f23 := ⟨Tryz.f83.name, by decide, Tryz.func83.trans (congrArg some (by kernel_rfl))⟩,
  f24 := ⟨Tryz.f84.name, by decide, Tryz.func84.trans (congrArg some (by kernel_rfl))⟩,
  f25 := ⟨Tryz.f85.name, by decide, Tryz.func85.trans (congrArg some (by kernel_rfl))⟩,
  f26 := ⟨Tryz.f86.name, by decide, Tryz.func86.trans (congrArg some (by kernel_rfl))⟩,
  f27 := ⟨Tryz.f87.name, by decide, Tryz.func87.trans (congrArg some (by kernel_rfl))⟩,
  f28 := Tryz.func88.trans (congrArg some (by kernel_rfl)),
  f29 := Tryz.func89.trans (congrArg some (by kernel_rfl)),
  f46 := ⟨Tryz.f95.name, by decide, Tryz.func95.trans (congrArg some (by kernel_rfl))⟩,
  f47 := Tryz.func96.trans (congrArg some (by kernel_rfl)),
  f48 := Tryz.func97.trans (congrArg some (by kernel_rfl)),
  f49 := ⟨Tryz.f98.name, by decide, Tryz.func98.trans (congrArg some (by kernel_rfl))⟩,
  f50 := ⟨Tryz.f99.name, by decide, Tryz.func99.trans (congrArg some (by kernel_rfl))⟩,
  f57 := ⟨Tryz.f102.name, by decide, Tryz.func102.trans (congrArg some (by kernel_rfl))⟩,
  t0 := Tryz.underlying0,
  a0 := Tryz.isAgg0,
  z0 := Tryz.sizeOf0,
  v0 := Tryz.zeroValue0,
  t3 := Tryz.underlying3,
  a3 := Tryz.isAgg3,
  z3 := Tryz.sizeOf3,
  v3 := Tryz.zeroValue3,
  t4 := Tryz.underlying4,
  a4 := Tryz.isAgg4,
  z4 := Tryz.sizeOf4,
  v4 := Tryz.zeroValue4,
  t5 := Tryz.underlying5,
  a5 := Tryz.isAgg5,
  z5 := Tryz.sizeOf5,
  v5 := Tryz.zeroValue5,
  t9 := Tryz.underlying9,
  a9 := Tryz.isAgg9,
  z9 := Tryz.sizeOf9,
  v9 := Tryz.zeroValue9,
  t22 := Tryz.underlying22,
  a22 := Tryz.isAgg22,
  z22 := Tryz.sizeOf22,
  v22 := Tryz.zeroValue22,
  t25 := Tryz.underlying87,
  a25 := Tryz.isAgg87,
  z25 := Tryz.sizeOf87,
  v25 := Tryz.zeroValue87,
  t39 := Tryz.underlying104,
  a39 := Tryz.isAgg104,
  z39 := Tryz.sizeOf104,
  v39 := Tryz.zeroValue104,
  t45 := Tryz.underlying119,
  a45 := Tryz.isAgg119,
  z45 := Tryz.sizeOf119,
  v45 := Tryz.zeroValue119,
  t46 := Tryz.underlying120,
  a46 := Tryz.isAgg120,
  z46 := Tryz.sizeOf120,
  v46 := Tryz.zeroValue120,
  t50 := Tryz.underlying124,
  a50 := Tryz.isAgg124,
  z50 := Tryz.sizeOf124,
  v50 := Tryz.zeroValue124,
  t53 := Tryz.underlying127,
  a53 := Tryz.isAgg127,
  z53 := Tryz.sizeOf127,
  v53 := Tryz.zeroValue127,
  t55 := Tryz.underlying129,
  a55 := Tryz.isAgg129,
  z55 := Tryz.sizeOf129,
  v55 := Tryz.zeroValue129,
  t66 := Tryz.underlying135,
  a66 := Tryz.isAgg135,
  z66 := Tryz.sizeOf135,
  v66 := Tryz.zeroValue135,
  t70 := Tryz.underlying139,
  a70 := Tryz.isAgg139,
  z70 := Tryz.sizeOf139,
  v70 := Tryz.zeroValue139,
  t76 := Tryz.underlying143,
  a76 := Tryz.isAgg143,
  z76 := Tryz.sizeOf143,
  v76 := Tryz.zeroValue143,
  t77 := Tryz.underlying73,
  a77 := Tryz.isAgg73,
  z77 := Tryz.sizeOf73,
  v77 := Tryz.zeroValue73 }
end Go.Proofs.YtaaeomapbigfgaaGreat.St
namespace Go.Proofs.YtaaeomapbigfgaaGreat
open Go.RowKit
open Go.Sort (putRowK HoldsK flatK size_flatK get_flatK grow)
section
variable {α : Type} [Inhabited α] {E : Enc α} {w : World} {t : TypeId} {g cap : Nat} {D D' : List α}
theorem flatK_get {i j : Nat} {x : α} {u : Value} (hx : D[i]? = some x) (hu : (E.enc x)[j]? = some u) : i * E.k + j < (flatK E.enc E.k D.toArray).size ∧ (flatK E.enc E.k D.toArray)[i * E.k + j]! = u := by
  have hi : i < D.length := (List.getElem?_eq_some_iff.1 hx).1
  have hj : j < E.k := by rw [← E.len x]; exact (List.getElem?_eq_some_iff.1 hu).1
  have hlt : i * E.k + j < D.toArray.size * E.k := by
    have := Nat.mul_le_mul_right E.k (show i + 1 ≤ D.length by omega)
    rw [Nat.add_mul] at this
    simp only [List.size_toArray]
    omega
  refine ⟨by rw [size_flatK]; exact hlt, ?_⟩
  rw [get_flatK _ _ _ _ hlt]
  have e1 : (i * E.k + j) / E.k = i := by rw [Nat.mul_comm, Nat.mul_add_div E.pos, Nat.div_eq_of_lt hj, Nat.add_zero]
  have e2 : (i * E.k + j) % E.k = j := by rw [Nat.mul_comm, Nat.mul_add_mod, Nat.mod_eq_of_lt hj]
  have e3 : D.toArray[i]! = x := by
    rw [getElem!_pos D.toArray i (by simpa using hi)]
    have := (List.getElem?_eq_some_iff.1 hx).2
    simpa using this
  rw [e1, e2, e3]
  have hjl := (List.getElem?_eq_some_iff.1 hu)
  rw [getElem!_pos _ j hjl.1]
  exact hjl.2
theorem OwnAt.holdsK (h : OwnAt E w t g cap D) : HoldsK E.enc E.k w g 0 D.toArray := by
  intro m hm
  rw [size_flatK] at hm
  simp only [List.size_toArray] at hm
  have e : m = m / E.k * E.k + m % E.k := by have := Nat.div_add_mod m E.k; rw [Nat.mul_comm] at this; omega
  have hi : m / E.k < D.length := Nat.div_lt_of_lt_mul (by rw [Nat.mul_comm]; exact hm)
  have hj : m % E.k < E.k := Nat.mod_lt _ E.pos
  have hx := List.getElem?_eq_getElem hi
  have hu : (E.enc D[m / E.k])[m % E.k]? = some _ := List.getElem?_eq_getElem (by rw [E.len]; exact hj)
  have h1 := h.cell hx hu
  have h2 := (flatK_get hx hu).2
  rw [← e] at h1 h2
  rw [Nat.zero_add, h2]
  exact ⟨h1, h.frozen m⟩
theorem OwnAt.sorted (h : OwnAt E w t g cap D) (hl : D'.length = D.length) (n : Nat) (os : Array Obj) :
    OwnAt E (sortWorldK E.enc E.k w g 0 n D'.toArray os) t g cap D' ∧ Kept (· = g) w (sortWorldK E.enc E.k w g 0 n D'.toArray os) := by
  obtain ⟨cs, h1, h2, h3, h4, h5⟩ := h
  have hlt := h1.lt
  refine ⟨⟨Go.Sort.putCells id 0 (flatK E.enc E.k D'.toArray) cs, ?_, ?_, by omega, h4, ?_⟩, ⟨rfl, rfl, rfl, ?_, ?_⟩⟩
  · unfold Blk at h1 ⊢
    show (w.heap.modify g (Go.Sort.onCells (Go.Sort.putCells id 0 (flatK E.enc E.k D'.toArray))) ++ os)[g]? = _
    rw [Array.getElem?_append_left (by simpa using hlt), Array.getElem?_modify, if_pos rfl, h1]
    rfl
  · simp [Go.Sort.putCells, h2]
  · intro i x hx j u hu
    obtain ⟨g1, g2⟩ := flatK_get hx hu
    have hm : i * E.k + j < cs.size := by
      rw [size_flatK] at g1
      simp only [List.size_toArray] at g1
      have := Nat.mul_le_mul_right E.k h3
      rw [← hl] at this
      omega
    simp only [Go.Sort.putCells, Array.getElem?_mapIdx, Array.getElem?_eq_getElem hm, Option.map_some]
    rw [if_pos ⟨Nat.zero_le _, by omega⟩, Nat.sub_zero, g2]
    rfl
  · simp [sortWorldK, grow, putRowK, Go.Sort.putRow, Go.Sort.mapBlock, Go.Sort.ahead]
  · intro k hk hne
    have : ¬ g = k := fun e => hne e.symm
    show (w.heap.modify g (Go.Sort.onCells (Go.Sort.putCells id 0 (flatK E.enc E.k D'.toArray))) ++ os)[k]? = _
    rw [Array.getElem?_append_left (by simpa using hk), Array.getElem?_modify, if_neg this]
end
namespace St
open Go.Sort (SWO)
theorem lt_of (x y : ID) : Go.Proofs.ltOf ID.cmp x y = decide (x.lt y) := by
  unfold Go.Proofs.ltOf
  rw [decide_eq_decide]
  exact cmp_lt
theorem swo_id : SWO (Go.Proofs.ltOf ID.cmp) where
  irrefl x := by rw [lt_of]; simpa using ID.lt_irrefl x
  trans x y z h1 h2 := by rw [lt_of] at *; simp only [decide_eq_true_eq] at *; exact ID.lt_trans h1 h2
  ntrans x y z h1 h2 := by
    rw [lt_of] at *
    simp only [decide_eq_false_iff_not] at *
    unfold ID.lt at *
    omega
theorem part_id (x y : ID) (h1 : Go.Proofs.ltOf ID.cmp x y = false) (h2 : Go.Proofs.ltOf ID.cmp y x = false) : x = y := by
  rw [lt_of] at h1 h2
  simp only [decide_eq_false_iff_not] at h1 h2
  rcases x.lt_or y with h | h | h
  · exact absurd h h1
  · exact h
  · exact absurd h h2
/-- no later one is lower -/
def Sorted (l : List ID) : Prop := l.Pairwise fun a b => ¬ b.lt a
theorem merge_id (D : List ID) : (D.mergeSort fun x y => !Go.Proofs.ltOf ID.cmp y x).Perm D ∧ Sorted (D.mergeSort fun x y => !Go.Proofs.ltOf ID.cmp y x) := by
  refine ⟨List.mergeSort_perm .., ?_⟩
  have := List.pairwise_mergeSort (le := fun x y => !Go.Proofs.ltOf ID.cmp y x) (fun a b c h1 h2 => by
    simp only [Bool.not_eq_true'] at *
    exact swo_id.ntrans c b a h2 h1) (fun a b => by
    simp only [Bool.or_eq_true, Bool.not_eq_true', lt_of, decide_eq_false_iff_not]
    by_cases h : b.lt a
    · exact .inr fun h' => ID.lt_irrefl _ (ID.lt_trans h h')
    · exact .inl h) D
  refine this.imp fun {a b} h => ?_
  simpa [lt_of] using h
theorem cmpLays_id (g n : Nat) (w : World) : CmpLays Tryz.prog 140 #[] idE.enc 2 ID.cmp g 0 n w := fun _ _ _ _ x y => compare_any x y _
end St
end Go.Proofs.YtaaeomapbigfgaaGreat
namespace Go.Proofs.YtaaeomapbigfgaaGreat
open Go.RowKit
namespace St
open Go.Sort (SWO)
def Dot.id (d : Dot) : ID := ⟨d.site, d.seq⟩
def Dot.cmp (a b : Dot) : Int := a.id.cmp b.id
def Dot.lt (a b : Dot) : Prop := a.id.lt b.id
instance (a b : Dot) : Decidable (a.lt b) := by unfold Dot.lt; infer_instance
def dotV (a : Dot) : Value := .agg #[.int .i64 a.site, .int .i64 a.seq]
theorem wcmp_any (a b : Dot) (w : World) : Calls Tryz.prog 48 #[dotV a, dotV b] w fun e w' => e = .returned (.int .i64 (a.cmp b)) ∧ Grew w w' := by
  obtain ⟨at_, as_⟩ := a
  obtain ⟨bt, bs⟩ := b
  show Calls _ _ #[.agg #[.int .i64 at_, .int .i64 as_], .agg #[.int .i64 bt, .int .i64 bs]] _ _
  unfold Dot.cmp Dot.id ID.cmp
  have b1 := Blk.alloc (Blk.new w 28 #[.int .i64 at_, .int .i64 as_]) (.cells #[.int .i64 bt, .int .i64 bs] 28)
  have b2 := Blk.new (w.alloc (.cells #[.int .i64 at_, .int .i64 as_] 28)) 28 #[.int .i64 bt, .int .i64 bs]
  have c1 : _ = some (Value.int .i64 at_) := b1.cell' (i := 0) rfl
  have c2 : _ = some (Value.int .i64 as_) := b1.cell' (i := 1) rfl
  have c3 : _ = some (Value.int .i64 bt) := b2.cell' (i := 0) rfl
  have c4 : _ = some (Value.int .i64 bs) := b2.cell' (i := 1) rfl
  have hg := Grew.alloc (Grew.alloc (Grew.refl w) (.cells #[.int .i64 at_, .int .i64 as_] 28)) (.cells #[.int .i64 bt, .int .i64 bs] 28)
  rw [World.size_alloc] at c3 c4
  clear b1 b2
  go_enter Tryz.func48, Tryz.ntmps48
  go_wp2_with fail
  obtain ⟨W, hW, hz⟩ : ∃ W, ((w.alloc (.cells #[.int .i64 at_, .int .i64 as_] 28)).alloc (.cells #[.int .i64 bt, .int .i64 bs] 28)) = W ∧ W.heap.size = w.heap.size + 2 := ⟨_, rfl, by simp⟩
  rw [hW] at c1 c2 c3 c4 hg ⊢
  clear hW
  have Z := Lib.hid hz
  clear hz
  go_region_held3 (fun w' => w'.cell? ⟨w.heap.size, 0, none⟩ = some (.int .i64 at_) ∧ w'.cell? ⟨w.heap.size, 1, none⟩ = some (.int .i64 as_) ∧ w'.cell? ⟨w.heap.size + 1, 0, none⟩ = some (.int .i64 bt) ∧ w'.cell? ⟨w.heap.size + 1, 1, none⟩ = some (.int .i64 bs)) (first | exact ⟨c1, c2, c3, c4⟩ | exact ⟨Lib.cell?_alloc_some _ c1, Lib.cell?_alloc_some _ c2, Lib.cell?_alloc_some _ c3, Lib.cell?_alloc_some _ c4⟩)
    (first
      | (go_simp; go_at_call 50; refine (ccmp_any _ _ _).mono ?_; rintro e w' ⟨rfl, rfl⟩)
      | (go_simp; go_at_call 49; refine (or2 W.heap.size (cmpI at_ bt) (cmpI as_ bs) (W.alloc (.cells #[.int .i64 (cmpI at_ bt), .int .i64 (cmpI as_ bs)] 3)).drew ((Blk.new W 3 #[.int .i64 (cmpI at_ bt), .int .i64 (cmpI as_ bs)]).cell' (i := 0) rfl) ((Blk.new W 3 #[.int .i64 (cmpI at_ bt), .int .i64 (cmpI as_ bs)]).cell' (i := 1) rfl)).mono ?_; rintro e w' ⟨rfl, rfl⟩))
  go_wp2
  go_ret
  exact ⟨rfl, (hg.alloc _).drew⟩

theorem dot_of (x y : Dot) : Go.Proofs.ltOf Dot.cmp x y = decide (x.lt y) := lt_of x.id y.id
theorem swo_dot : SWO (Go.Proofs.ltOf Dot.cmp) where
  irrefl x := swo_id.irrefl x.id
  trans x y z h1 h2 := swo_id.trans x.id y.id z.id h1 h2
  ntrans x y z h1 h2 := swo_id.ntrans x.id y.id z.id h1 h2
theorem part_dot (x y : Dot) (h1 : Go.Proofs.ltOf Dot.cmp x y = false) (h2 : Go.Proofs.ltOf Dot.cmp y x = false) : x = y := by
  have h := part_id x.id y.id h1 h2
  exact Dot.ext (congrArg ID.t h) (congrArg ID.s h)
/-- no later one is lower -/
def DSorted (l : List Dot) : Prop := l.Pairwise fun a b => ¬ b.lt a
theorem merge_dot (D : List Dot) : (D.mergeSort fun x y => !Go.Proofs.ltOf Dot.cmp y x).Perm D ∧ DSorted (D.mergeSort fun x y => !Go.Proofs.ltOf Dot.cmp y x) := by
  refine ⟨List.mergeSort_perm .., ?_⟩
  have := List.pairwise_mergeSort (le := fun x y => !Go.Proofs.ltOf Dot.cmp y x) (fun a b c h1 h2 => by
    simp only [Bool.not_eq_true'] at *
    exact swo_dot.ntrans c b a h2 h1) (fun a b => by
    simp only [Bool.or_eq_true, Bool.not_eq_true', dot_of, decide_eq_false_iff_not]
    by_cases h : b.lt a
    · exact .inr fun h' => ID.lt_irrefl _ (ID.lt_trans h h')
    · exact .inl h) D
  refine this.imp fun {a b} h => ?_
  simpa [dot_of] using h
theorem cmpLays_dot (g n : Nat) (w : World) : CmpLays Tryz.prog 48 #[] dotE.enc 2 Dot.cmp g 0 n w := fun _ _ _ _ x y => wcmp_any x y _
theorem aggDot : ∀ w, (isAgg (sortDot_ren.t 24)).run Tryz.prog w = .ok true w := fun _ => by kernel_rfl
theorem sizeDot : ∀ w, (Go.sizeOf (sortDot_ren.t 24)).run Tryz.prog w = .ok 2 w := fun _ => by kernel_rfl
theorem sort_dot {w : World} {t : TypeId} {g cap : Nat} {D : List Dot} (h : OwnAt dotE w t g cap D) (hb : D.length ≤ 1000000000) :
    Calls Tryz.prog 47 #[.slice (some ⟨g, 0, none⟩) D.length cap, .func (.func 48) #[] #[]] w fun e w' => e = .returned (.tuple #[]) ∧ ∃ D', D'.Perm D ∧ DSorted D' ∧ OwnAt dotE w' t g cap D' ∧ Kept (· = g) w w' := by
  have eg : ∀ args w, (callFunc 48 args).run Tryz.prog w = .ok (.enter 48 args) w := enters_of Tryz.func48 (by kernel_rfl) rfl
  have hcon := AnyQ.slices_SortFunc_total sortDot 2 aggDot sizeDot dotE.enc dotE.len dotE.one Dot.cmp swo_dot 48 #[] g 0 cap D.toArray w eg (cmpLays_dot g _ w) h.holdsK h.lt (by simp; omega) part_dot
  refine hcon.mono ?_
  rintro e w' ⟨rfl, n, os, rfl⟩
  obtain ⟨h1, h2⟩ := merge_dot D
  obtain ⟨h3, h4⟩ := h.sorted (D' := D.mergeSort fun x y => !Go.Proofs.ltOf Dot.cmp y x) (by simp) n os
  exact ⟨rfl, _, h1, h2, h3, h4⟩
end St
end Go.Proofs.YtaaeomapbigfgaaGreat
namespace Go.Proofs.YtaaeomapbigfgaaGreat
open Go.RowKit Go.Proofs.YtaaeomapbigfgaaGreat.St
open Go.Sort (grow)
theorem owns_len {w : World} {base n m size : Nat} {e : TypeId} {v : Value} {xs : List Value} (h : w.ownsRow base e size v n xs) (hn : n = m) : w.ownsRow base e size v m xs := hn ▸ h
def dotsOf (W : List Ent) : List Dot := W.map (·.v.dot)
theorem sort_dnil (w : World) : Calls Tryz.prog 47 #[.slice none 0 0, .func (.func 48) #[] #[]] w fun e w' => e = .returned (.tuple #[]) ∧ w = w' :=
  (AnyF.slices_SortFunc_none sortDot none 0 _ w).mono fun _ _ ⟨h1, h2⟩ => ⟨h1, h2.symm⟩
theorem waits_sort {w : World} {v : Value} {D : List Dot} {n base : Nat} (h : w.ownsRow base 28 dotE.k v n (dotE.flat D)) (hb : n ≤ 1000000) (_hbase : base ≤ w.heap.size) :
    Calls Tryz.prog 47 #[v, .func (.func 48) #[] #[]] w fun e w' => e = .returned (.tuple #[]) ∧ ∃ D', D'.Perm D ∧ DSorted D' ∧ w'.ownsRow base 28 dotE.k v n (dotE.flat D') ∧ Kept (fun b => base ≤ b) w w' := by
  obtain ⟨rfl, ⟨rfl, rfl⟩ | ⟨g, cap, rfl, hg, hO⟩⟩ := own_of (E := dotE) h
  · refine (sort_dnil w).mono ?_
    rintro r w' ⟨rfl, rfl⟩
    exact ⟨rfl, [], List.Perm.refl _, List.Pairwise.nil, World.ownsRow_nil _ _ _ _, Kept.refl _ _⟩
  · refine (sort_dot hO (by omega)).mono ?_
    rintro r w' ⟨rfl, D', hp, hs, hO', hk⟩
    refine ⟨rfl, D', hp, hs, ?_, hk.mono (fun b _ e => by rw [e]; exact hg)⟩
    rw [← hp.length_eq]
    exact hO'.owns hg
set_option maxRecDepth 100000 in
set_option maxHeartbeats 4000000 in
theorem waits_any {w : World} {g : Nat} {h0 vv wv ov : Value} {W : List Ent} (hq : Blk w g 49 #[h0, vv, wv, ov]) (hW : w.ownsRow 0 42 11 wv W.length (entE.flat W)) (hl : W.length ≤ 1000000) :
    Calls Tryz.prog 16 #[.pointer (some ⟨g, 0, none⟩)] w fun r w' => ∃ v' L, r = .returned v' ∧ L.Perm (dotsOf W) ∧ DSorted L ∧ w'.ownsRow w.heap.size 28 2 v' L.length (dotE.flat L) ∧ Kept (fun _ => False) w w' := by
  have HW := Lib.hid hW
  obtain ⟨wa, wc, rfl⟩ := owns_sl hW
  have q2 : w.cell? ⟨g, 2, none⟩ = some (.slice wa W.length wc) := hq.cell' (i := 2) rfl
  clear hq hW
  go_enter Tryz.func16, Tryz.ntmps16
  go_wp2_with fail
  clear q2
  go_loopw [13, 3, 5] (fun iv lv ov wr => ∃ n : Nat, iv = .int .i64 n ∧ n ≤ W.length ∧ wr.ownsRow w.heap.size 28 dotE.k lv n (dotE.flat (dotsOf (W.take n))) ∧ Kept (fun _ => False) w wr) (fun iv _ _ _ => W.length - (intOf iv).toNat)
  case atStart => exact ⟨0, rfl, Nat.zero_le _, World.ownsRow_nil _ _ _ _, Kept.refl _ _⟩
  case round =>
    obtain ⟨n, rfl, hn, ho, hk⟩ := hrel
    have hn0 : (0 : Int) ≤ n := by omega
    by_cases hlt : n < W.length
    case neg =>
      obtain rfl : n = W.length := by omega
      have hnl : ¬ (W.length : Int) < W.length := by omega
      rw [List.take_length] at ho
      have HO := Lib.hid ho
      have HK := Lib.hid hk
      have HS := Lib.hid (waits_sort ho (by omega) hk.size)
      clear ho
      go_wp2_with (go_at_call 47; refine HS.out.mono ?_; rintro r w2 ⟨rfl, D', hp, hs, ho2, hk2⟩)
      go_ret
      have hlen : D'.length = W.length := by rw [hp.length_eq]; simp [dotsOf]
      exact ⟨_, D', rfl, hp, hs, by rw [hlen]; exact ho2, hk.trans hk2 (fun b hb e => by omega)⟩
    case pos =>
      have hltI : (n : Int) < W.length := by omega
      obtain ⟨e, he⟩ := get_of_lt hlt
      have hWr := owns_keep HW.out hk (fun _ _ h => h)
      obtain ⟨hl0, ⟨_, hno⟩ | ⟨b, cap, hv, hz0, hO⟩⟩ := own_of (E := entE) hWr
      · rw [hno] at hlt; simp at hlt
      injection hv with ha6 hl6 hc6
      subst ha6 hc6
      clear hl0 hz0 hl6 hWr
      have c0 : wr.cell? ⟨b, n * 11, none⟩ = some (.int .i64 e.v.dot.site) := OwnAt.ent hO he (j := 0) rfl
      have c1 : wr.cell? ⟨b, n * 11 + 1, none⟩ = some (.int .i64 e.v.dot.seq) := OwnAt.ent hO he (j := 1) rfl
      have c2 : wr.cell? ⟨b, n * 11 + 2, none⟩ = some (.slice e.v.deps.a e.v.deps.n e.v.deps.c) := OwnAt.ent hO he (j := 2) rfl
      have c3 : wr.cell? ⟨b, n * 11 + 3, none⟩ = some (.int .i64 e.v.kind) := OwnAt.ent hO he (j := 3) rfl
      have c4 : wr.cell? ⟨b, n * 11 + 4, none⟩ = some (.int .i64 e.v.id.t) := OwnAt.ent hO he (j := 4) rfl
      have c5 : wr.cell? ⟨b, n * 11 + 5, none⟩ = some (.int .i64 e.v.id.s) := OwnAt.ent hO he (j := 5) rfl
      have c6 : wr.cell? ⟨b, n * 11 + 6, none⟩ = some (.int .i64 e.v.ref.t) := OwnAt.ent hO he (j := 6) rfl
      have c7 : wr.cell? ⟨b, n * 11 + 7, none⟩ = some (.int .i64 e.v.ref.s) := OwnAt.ent hO he (j := 7) rfl
      have c8 : wr.cell? ⟨b, n * 11 + 8, none⟩ = some (.string e.v.text) := OwnAt.ent hO he (j := 8) rfl
      have c9 : wr.cell? ⟨b, n * 11 + 9, none⟩ = some (.slice e.v.gone.a e.v.gone.n e.v.gone.c) := OwnAt.ent hO he (j := 9) rfl
      have c10 : wr.cell? ⟨b, n * 11 + 10, none⟩ = some (.int .i64 e.v.site) := OwnAt.ent hO he (j := 10) rfl
      have hB := Blk.new wr 42 (opA e.v)
      have k1 : Kept (fun _ => False) wr (wr.alloc (.cells (opA e.v) 42)) := (Kept.refl _ _).alloc _
      have HE := Lib.hid he
      have HO := Lib.hid (owns_keep ho k1 (fun _ _ h => h))
      have HK := Lib.hid (hk.trans k1 (fun _ _ h => h))
      clear he hO ho hk k1
      go_upto_region 7 with fail
      have e1 : wr.alloc (.cells #[.int .i64 e.v.dot.site, .int .i64 e.v.dot.seq, .slice e.v.deps.a e.v.deps.n e.v.deps.c, .int .i64 e.v.kind, .int .i64 e.v.id.t, .int .i64 e.v.id.s, .int .i64 e.v.ref.t, .int .i64 e.v.ref.s, .string e.v.text, .slice e.v.gone.a e.v.gone.n e.v.gone.c, .int .i64 e.v.site] 42) = wr.alloc (.cells (opA e.v) 42) := rfl
      rw [e1]
      clear c0 c1 c2 c3 c4 c5 c6 c7 c8 c9 c10 e1
      generalize hwb : wr.heap.size = bx at *
      generalize wr.alloc (.cells (opA e.v) 42) = w1 at *
      have c0 : w1.cell? ⟨bx, 0, none⟩ = some (.int .i64 e.v.dot.site) := hB.cell' (i := 0) rfl
      have c1 : w1.cell? ⟨bx, 1, none⟩ = some (.int .i64 e.v.dot.seq) := hB.cell' (i := 1) rfl
      have HO2 := Lib.hid (show (w1.alloc (.cells #[.int .i64 e.v.dot.site, .int .i64 e.v.dot.seq] 28)).ownsRow w.heap.size 28 dotE.k _ n (dotE.flat (dotsOf (W.take n))) from HO.out.alloc _)
      have HK2 := Lib.hid (HK.out.alloc (.cells #[.int .i64 e.v.dot.site, .int .i64 e.v.dot.seq] 28))
      have LD := Lib.hid (lit_dot w1 e.v.dot.site e.v.dot.seq)
      have hsz := Lib.hid (HK.out.size)
      have NW := Lib.hid (owns_new HO.out)
      obtain ⟨D, hD⟩ : ∃ D, dotsOf (W.take n) = D := ⟨_, rfl⟩
      have HD := Lib.hid hD
      rw [hD] at HO2
      have hDl : n = D.length := by rw [← hD]; simp [dotsOf]; omega
      have HDL := Lib.hid hDl
      have HO3 := Lib.hid (owns_len HO2.out hDl)
      clear hB HO HK hD hDl HO2
      go_wp2_with (at_builtin; (refine wpList_append_row dotE rfl (.tmp 17) (.tmp 20) 22 rfl w.heap.size 28 (.agg #[.int .i64 0, .int .i64 0]) 16 Tryz.underlying22 info_dot rfl rfl rfl HO3.out LD.out (by have := HDL.out; unfold maxLen; simp; omega) (by have := HDL.out; simp; omega) (by have := hsz.out; simp; omega) ?_); (intro v2 w2 ho2 hk2; have K2 : Hid (Kept (fun _ => False) w w2) := Lib.hid (HK2.out.trans hk2 (fun b hb e => by have := NW.out b e; omega)); have O2 := Lib.hid ho2; clear hk2 ho2))
      go_roundw
      case rel =>
        refine ⟨n + 1, by go_num, by omega, ?_, K2.out⟩
        rw [List.take_add_one, HE.out]
        have := O2.out
        rw [List.length_append, List.length_singleton, ← HDL.out, ← HD.out] at this
        simpa [dotsOf] using this
      case measure => simp [intOf] <;> omega
end Go.Proofs.YtaaeomapbigfgaaGreat
