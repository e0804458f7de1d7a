/- vector.Has: the growing form. -/
import Derived.Test.YtaaeomapbigfgaaQuMay
namespace Go.Proofs.Ytaaeomapbigfgaa
open Go.RowKit Go.Proofs.Ytaaeomapbigfgaa.St
open Go.Sort (grow)
set_option maxRecDepth 100000 in
set_option maxHeartbeats 4000000 in
theorem hasV_grew {w : World} {v : Value} {L : List Dot} (h : SlAt dotE w v L) (hb : L.length ≤ 1000000000) (d : Dot) : Calls Try.prog 25 #[v, .agg #[.int .i64 d.site, .int .i64 d.seq]] w fun e w' => e = .returned (.bool (decide (hasV L d))) ∧ Grew w w' := by
  have hmix : Try.prog.follows .mixedOrders = true := by kernel_rfl
  have hB := Blk.new w 27 #[.int .i64 d.site, .int .i64 d.seq]
  have k0 : Grew w (w.alloc (.cells #[.int .i64 d.site, .int .i64 d.seq] 27)) := (Grew.refl _).alloc _
  obtain ⟨W, hW, hz⟩ : ∃ W, w.alloc (.cells #[.int .i64 d.site, .int .i64 d.seq] 27) = W ∧ W.heap.size = w.heap.size + 1 := ⟨_, rfl, by simp⟩
  rw [hW] at hB k0
  have b0 := cell_grown (w := W) (by show w.heap.size < _; omega) (show W.cell? ⟨w.heap.size, 0, none⟩ = some (.int .i64 d.site) from hB.cell' (i := 0) rfl)
  have b1 := cell_grown (w := W) (by show w.heap.size < _; omega) (show W.cell? ⟨w.heap.size, 1, none⟩ = some (.int .i64 d.seq) from hB.cell' (i := 1) rfl)
  have HG := Lib.hid (fun (w' : World) (hk : Grew W w') => get_grew (h.kept (k0.trans hk).kept) hb d.site)
  have K0 := Lib.hid k0
  have HW := Lib.hid hW
  unfold hasV
  clear hB h k0 hz hW
  by_cases h1 : 1 ≤ d.seq
  · have hd1 : decide (1 ≤ d.seq) = true := decide_eq_true h1
    have e2 : decide (1 ≤ d.seq ∧ d.seq ≤ getV L d.site) = decide (d.seq ≤ getV L d.site) := decide_eq_decide.2 ⟨fun h => h.2, fun h => ⟨h1, h⟩⟩
    rw [e2]
    generalize getV L d.site = gv at *
    go_enter Try.func25, Try.ntmps25
    go_wp2_with fail
    rw [HW.out]
    go_quiet_grown (first
      | (go_at_call 43; exact grown_call HG.out _ _))
    go_wp2_with fail
    go_ret
    exact ⟨rfl, K0.out.trans (Grew.grown _ _)⟩
  · have hd1 : decide (1 ≤ d.seq) = false := decide_eq_false h1
    have e2 : decide (1 ≤ d.seq ∧ d.seq ≤ getV L d.site) = false := decide_eq_false fun h => h1 h.1
    rw [e2]
    go_enter Try.func25, Try.ntmps25
    go_wp2_with fail
    rw [HW.out]
    go_quiet_grown (first
      | (go_at_call 43; exact grown_call HG.out _ _))
    go_wp2_with fail
    go_ret
    exact ⟨rfl, K0.out.trans (Grew.grown _ _)⟩
end Go.Proofs.Ytaaeomapbigfgaa

