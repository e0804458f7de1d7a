/- op.of and op.Check of a join. -/
import Derived.Test.YtaaeomapbigfgaaQuHas
import Derived.Laws.EntriesVeiled
import Derived.Deep.CutBlock
namespace Go.Proofs.Ytaaeomapbigfgaa
open Go.RowKit Go.Proofs.Ytaaeomapbigfgaa.St
set_option maxRecDepth 100000 in
set_option maxHeartbeats 4000000 in
theorem of_join {w : World} {x : OpV} (hk : x.kind = 3) : Calls Try.prog 42 #[.agg (opA x)] w fun e w' => e = .returned (.iface 101 (.agg #[.int .i64 x.site])) ∧ Grew w w' := by
  have hB := Blk.new w 34 (opA x)
  have k0 : Grew w (w.alloc (.cells (opA x) 34)) := (Grew.refl _).alloc _
  have b3 : (w.alloc (.cells (opA x) 34)).cell? ⟨w.heap.size, 3, none⟩ = some (.int .i64 3) := by rw [← hk]; exact hB.cell' (i := 3) rfl
  have b10 : (w.alloc (.cells (opA x) 34)).cell? ⟨w.heap.size, 10, none⟩ = some (.int .i64 x.site) := hB.cell' (i := 10) rfl
  clear hB
  go_enter Try.func42, Try.ntmps42
  go_wp2_with fail
  go_ret
  exact ⟨rfl, k0⟩
/-- an operation that is a join and nothing else -/
structure OpV.Join (x : OpV) : Prop where
  kind : x.kind = 3
  id : x.id = ⟨0, 0⟩
  ref : x.ref = ⟨0, 0⟩
  text : x.text = ⟨#[]⟩
  gone : x.gone.n = 0
  site : 1 ≤ x.site ∧ x.site ≤ 16
set_option maxRecDepth 100000 in
set_option maxHeartbeats 4000000 in
theorem rest_any {w : World} (x : OpV) : Calls Try.prog 93 #[.agg (opA x)] w fun e w' => e = .returned (.agg #[.int .i64 x.id.t, .int .i64 x.id.s, .int .i64 x.ref.t, .int .i64 x.ref.s, .string x.text, .int .i64 x.site]) ∧ Grew w w' := by
  have hB := (Blk.new w 34 (opA x)).alloc (.cells #[.int .i64 0, .int .i64 0, .int .i64 0, .int .i64 0, .string ⟨#[]⟩, .int .i64 0] 146)
  have hR := Blk.new (w.alloc (.cells (opA x) 34)) 146 #[.int .i64 0, .int .i64 0, .int .i64 0, .int .i64 0, .string ⟨#[]⟩, .int .i64 0]
  have k0 : Grew w ((w.alloc (.cells (opA x) 34)).alloc (.cells #[.int .i64 0, .int .i64 0, .int .i64 0, .int .i64 0, .string ⟨#[]⟩, .int .i64 0] 146)) := ((Grew.refl _).alloc _).alloc _
  rw [World.size_alloc] at hR
  go_enter Try.func93, Try.ntmps93
  go_upto_region 1 with fail
  generalize ((w.alloc (.cells (opA x) 34)).alloc (.cells #[.int .i64 0, .int .i64 0, .int .i64 0, .int .i64 0, .string ⟨#[]⟩, .int .i64 0] 146)) = W at *
  have b4 : W.cell? ⟨w.heap.size, 4, none⟩ = some (.int .i64 x.id.t) := hB.cell' (i := 4) rfl
  have b5 : W.cell? ⟨w.heap.size, 5, none⟩ = some (.int .i64 x.id.s) := hB.cell' (i := 5) rfl
  have b6 : W.cell? ⟨w.heap.size, 6, none⟩ = some (.int .i64 x.ref.t) := hB.cell' (i := 6) rfl
  have b7 : W.cell? ⟨w.heap.size, 7, none⟩ = some (.int .i64 x.ref.s) := hB.cell' (i := 7) rfl
  have b8 : W.cell? ⟨w.heap.size, 8, none⟩ = some (.string x.text) := hB.cell' (i := 8) rfl
  have b10 : W.cell? ⟨w.heap.size, 10, none⟩ = some (.int .i64 x.site) := hB.cell' (i := 10) rfl
  have HR := Lib.hid hR
  have K0 := Lib.hid k0
  have SZ : (Try.prog.info? 146).map (·.size) = some 6 := by kernel_rfl
  have HZ := Lib.hid SZ
  clear hB hR k0 SZ
  go_wp2_with (refine wpList_store_row rfl 146 _ _ rfl (w.heap.size + 1) #[.int .i64 x.id.t, .int .i64 x.id.s, .int .i64 x.ref.t, .int .i64 x.ref.s, .string x.text, .int .i64 x.site] rfl rfl 146 #[.int .i64 0, .int .i64 0, .int .i64 0, .int .i64 0, .string ⟨#[]⟩, .int .i64 0] HR.out HZ.out rfl (by simp [Value.oneCell']) ?_)
  exact bodyPost_ret (Blk.result rfl _ (HR.out.row _) rfl Try.underlying146 rfl HZ.out) rfl ⟨rfl, K0.out.setRow (by omega) _⟩
set_option maxRecDepth 100000 in
set_option maxHeartbeats 8000000 in
theorem right_join {w : World} {x : OpV} (hx : x.Join) : Calls Try.prog 109 #[.agg #[.int .i64 x.site], .agg (opA x)] w fun e w' => e = .returned (.bool true) ∧ Grew w w' := by
  have hmix : Try.prog.follows .mixedOrders = true := by kernel_rfl
  have hS := (Blk.new w 101 #[.int .i64 x.site]).alloc (.cells (opA x) 34)
  have hB := Blk.new (w.alloc (.cells #[.int .i64 x.site] 101)) 34 (opA x)
  have k0 : Grew w ((w.alloc (.cells #[.int .i64 x.site] 101)).alloc (.cells (opA x) 34)) := ((Grew.refl _).alloc _).alloc _
  rw [World.size_alloc] at hB
  have s0 : ((w.alloc (.cells #[.int .i64 x.site] 101)).alloc (.cells (opA x) 34)).heap.size = w.heap.size + 2 := by simp
  have h1 := hx.site.1
  have h2 := hx.site.2
  obtain ⟨W, hW⟩ : ∃ W, ((w.alloc (.cells #[.int .i64 x.site] 101)).alloc (.cells (opA x) 34)) = W := ⟨_, rfl⟩
  rw [hW] at hS hB k0 s0
  have s1 := cell_grown (w := W) (by show w.heap.size < _; omega) (show W.cell? ⟨w.heap.size, 0, none⟩ = some (.int .i64 x.site) from hS.cell' (i := 0) rfl)
  have b0 := cell_grown (w := W) (by show w.heap.size + 1 < _; omega) (show W.cell? ⟨w.heap.size + 1, 0, none⟩ = some (.int .i64 x.dot.site) from hB.cell' (i := 0) rfl)
  have b1 := cell_grown (w := W) (by show w.heap.size + 1 < _; omega) (show W.cell? ⟨w.heap.size + 1, 1, none⟩ = some (.int .i64 x.dot.seq) from hB.cell' (i := 1) rfl)
  have b2 := cell_grown (w := W) (by show w.heap.size + 1 < _; omega) (show W.cell? ⟨w.heap.size + 1, 2, none⟩ = some (.slice x.deps.a x.deps.n x.deps.c) from hB.cell' (i := 2) rfl)
  have b3 := cell_grown (w := W) (by show w.heap.size + 1 < _; omega) (show W.cell? ⟨w.heap.size + 1, 3, none⟩ = some (.int .i64 x.kind) from hB.cell' (i := 3) rfl)
  have b4 := cell_grown (w := W) (by show w.heap.size + 1 < _; omega) (show W.cell? ⟨w.heap.size + 1, 4, none⟩ = some (.int .i64 0) from (hB.cell' (i := 4) rfl : W.cell? ⟨w.heap.size + 1, 4, none⟩ = some (.int .i64 x.id.t)).trans (by rw [hx.id]))
  have b5 := cell_grown (w := W) (by show w.heap.size + 1 < _; omega) (show W.cell? ⟨w.heap.size + 1, 5, none⟩ = some (.int .i64 0) from (hB.cell' (i := 5) rfl : W.cell? ⟨w.heap.size + 1, 5, none⟩ = some (.int .i64 x.id.s)).trans (by rw [hx.id]))
  have b6 := cell_grown (w := W) (by show w.heap.size + 1 < _; omega) (show W.cell? ⟨w.heap.size + 1, 6, none⟩ = some (.int .i64 0) from (hB.cell' (i := 6) rfl : W.cell? ⟨w.heap.size + 1, 6, none⟩ = some (.int .i64 x.ref.t)).trans (by rw [hx.ref]))
  have b7 := cell_grown (w := W) (by show w.heap.size + 1 < _; omega) (show W.cell? ⟨w.heap.size + 1, 7, none⟩ = some (.int .i64 0) from (hB.cell' (i := 7) rfl : W.cell? ⟨w.heap.size + 1, 7, none⟩ = some (.int .i64 x.ref.s)).trans (by rw [hx.ref]))
  have b8 := cell_grown (w := W) (by show w.heap.size + 1 < _; omega) (show W.cell? ⟨w.heap.size + 1, 8, none⟩ = some (.string ⟨#[]⟩) from (hB.cell' (i := 8) rfl : W.cell? ⟨w.heap.size + 1, 8, none⟩ = some (.string x.text)).trans (by rw [hx.text]))
  have b9 := cell_grown (w := W) (by show w.heap.size + 1 < _; omega) (show W.cell? ⟨w.heap.size + 1, 9, none⟩ = some (.slice x.gone.a 0 x.gone.c) from (hB.cell' (i := 9) rfl : W.cell? ⟨w.heap.size + 1, 9, none⟩ = some (.slice x.gone.a x.gone.n x.gone.c)).trans (by rw [hx.gone]))
  have b10 := cell_grown (w := W) (by show w.heap.size + 1 < _; omega) (show W.cell? ⟨w.heap.size + 1, 10, none⟩ = some (.int .i64 x.site) from hB.cell' (i := 10) rfl)
  have HR := Lib.hid (fun (w' : World) (_ : Grew W w') => rest_any (w := w') x)
  have hrest : (#[.int .i64 x.id.t, .int .i64 x.id.s, .int .i64 x.ref.t, .int .i64 x.ref.s, .string x.text, .int .i64 x.site] : Array Value) = #[.int .i64 0, .int .i64 0, .int .i64 0, .int .i64 0, .string ⟨#[]⟩, .int .i64 x.site] := by rw [hx.id, hx.ref, hx.text]
  rw [hrest] at HR
  have HX := Lib.hid hx
  have K0 := Lib.hid k0
  have HW := Lib.hid hW
  have HOP : opA x = #[.int .i64 x.dot.site, .int .i64 x.dot.seq, .slice x.deps.a x.deps.n x.deps.c, .int .i64 x.kind, .int .i64 0, .int .i64 0, .int .i64 0, .int .i64 0, .string ⟨#[]⟩, .slice x.gone.a 0 x.gone.c, .int .i64 x.site] := by
    have : opA x = #[.int .i64 x.dot.site, .int .i64 x.dot.seq, .slice x.deps.a x.deps.n x.deps.c, .int .i64 x.kind, .int .i64 x.id.t, .int .i64 x.id.s, .int .i64 x.ref.t, .int .i64 x.ref.s, .string x.text, .slice x.gone.a x.gone.n x.gone.c, .int .i64 x.site] := rfl
    rw [this, hx.id, hx.ref, hx.text, hx.gone]
  have HOP2 := Lib.hid HOP
  clear hx hS hB k0 s0 hW hrest HOP
  go_enter Try.func109, Try.ntmps109
  go_wp2_with fail
  rw [HW.out]
  go_quiet_grown (first
    | (go_at_call 93; rw [← HOP2.out]; exact grown_call HR.out _ _))
  go_wp2_with fail
  go_ret
  exact ⟨rfl, K0.out.trans (Grew.grown _ _)⟩
end Go.Proofs.Ytaaeomapbigfgaa

