/- hearsaylaw13.join and dots. -/
import Derived.Test.YtaaeomapbigfgaaQuOffer
import Derived.Test.YtaaeomapbigfgaaQuCheck
import Derived.Test.YtaaeomapbigfgaaVrSame
namespace Go.Proofs.Ytaaeomapbigfgaa
open Go.RowKit Go.Proofs.Ytaaeomapbigfgaa.St
open Go.Sort (grow)
/-- a join -/
def joinV (d : Dot) (s : Sl) : OpV := ⟨d, s, 3, ⟨0, 0⟩, ⟨0, 0⟩, ⟨#[]⟩, ⟨none, 0, 0⟩, 9⟩
set_option maxRecDepth 100000 in
set_option maxHeartbeats 2000000 in
theorem join_any {w : World} (d : Dot) (s : Sl) :
    Calls Try.prog 17 #[.int .i64 d.site, .int .i64 d.seq, s.v] w fun r w' => r = .returned (.agg (opA (joinV d s))) ∧ Kept (fun _ => False) w w' := by
  have B0 := Lib.hid (Blk.new w 34 zeroOp)
  have k0 : Kept (fun _ => False) w (w.alloc (.cells zeroOp 34)) := (Kept.refl _ _).alloc _
  have hs : s.v = .slice s.a s.n s.c := rfl
  rw [hs]
  clear hs
  go_enter Try.func17, Try.ntmps17
  go_upto_region 1 with fail
  have K0 := Lib.hid k0
  generalize w.alloc (.cells zeroOp 34) = w0 at *
  clear k0
  go_wp2_with (first
    | (refine wpList_store_row rfl 34 _ _ rfl w.heap.size (opA (joinV d s)) rfl rfl 34 zeroOp B0.out (by rw [opA_size]; exact size_op) (by rw [opA_size]; rfl) (opA_one _) ?_))
  exact bodyPost_ret (Blk.result rfl _ (B0.out.row _) rfl Try.underlying34 rfl (by rw [opA_size]; exact size_op)) rfl ⟨rfl, K0.out.setRow (fun h => by omega) _⟩
theorem dots_any {w : World} {u v : Value} {L M : List Dot} (hu : SlAt dotE w u L) (hv : SlAt dotE w v M) (hb : L.length ≤ 1000000000) :
    Calls Try.prog 14 #[u, v] w fun e w' => e = .returned (.bool (decide (L = M))) ∧ ∃ q, w' = w.drewN q := by
  have HS := Lib.hid (same_any hu hv hb)
  clear hu hv
  go_enter Try.func14, Try.ntmps14
  go_wp2_with (go_at_call 15; refine HS.out.mono ?_; rintro r w1 ⟨rfl, q, rfl⟩)
  go_ret
  exact ⟨rfl, q, rfl⟩
end Go.Proofs.Ytaaeomapbigfgaa

