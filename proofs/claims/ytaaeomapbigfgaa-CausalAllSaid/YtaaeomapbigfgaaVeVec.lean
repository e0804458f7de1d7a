/- (vector.says).vector: the vector of a row. -/
import Derived.Test.YtaaeomapbigfgaaVeOf
import Derived.Test.YtaaeomapbigfgaaStRowApp
namespace Go.Proofs.Ytaaeomapbigfgaa
open Go.RowKit Go.Proofs.Ytaaeomapbigfgaa.St
theorem info_dot : (Try.prog.info? 27).map (fun i => (i.zero, i.size, i.bytes)) = some (some (.agg #[.int .i64 0, .int .i64 0]), 2, 16) := by kernel_rfl
theorem lit_dot (w : World) (s q : Int) : SlAt dotE (w.alloc (.cells #[.int .i64 s, .int .i64 q] 27)) (.slice (some ⟨w.heap.size, 0, none⟩) 1 1) [(⟨s, q⟩ : Dot)] := SlAt.lit (E := dotE) [(⟨s, q⟩ : Dot)] _ rfl (by show 1 ≤ maxLen; decide)
theorem run_index_cells (f : Nat → Int) {n : Nat} (h : n < 17) (w : World) : (Instr.index 104 (.agg (cells f)) (.int .i64 n)).run Try.prog w = .ok (.int .i64 (f n)) w := by
  have h1 := cells_get f h
  have hI : (n : Int) < 17 := by omega
  simp [Instr.index, asIntOf, run_underlying Try.underlying104, part, isAgg, run_underlying Try.underlying3, Try.sizeOf3, h, h1, go_sem]
set_option maxRecDepth 100000 in
set_option maxHeartbeats 4000000 in
theorem vec_any (f : Nat → Int) (w : World) : Calls Try.prog 55 #[.agg (cells f)] w fun e w' => ∃ v', e = .returned v' ∧ w'.ownsRow w.heap.size 27 2 v' (vecOf f 17).length (dotE.flat (vecOf f 17)) ∧ Kept (fun _ => False) w w' := by
  go_enter Try.func55, Try.ntmps55
  go_wp2_with (first | (refine wpList_load_row rfl 104 _ rfl w.heap.size rfl 104 _ (0, 0) _ (Blk.new w _ _) Try.underlying104 rfl (by rw [cells_size]; kernel_rfl) ?_))
  go_loopw [3, 7] (fun vv iv wr => ∃ n : Nat, iv = .int .i64 n ∧ n ≤ 17 ∧ wr.ownsRow w.heap.size 27 dotE.k vv (vecOf f n).length (dotE.flat (vecOf f n)) ∧ Kept (fun _ => False) w wr) (fun _ iv _ => 17 - (intOf iv).toNat)
  case atStart => exact ⟨0, rfl, by decide, World.ownsRow_nil _ _ _ _, (Kept.refl _ _).alloc _⟩
  case round =>
    obtain ⟨n, rfl, hn, ho, hk⟩ := hrel
    have hn0 : (0 : Int) ≤ n := by omega
    by_cases hlt : n < 17
    case neg =>
      obtain rfl : n = 17 := by omega
      have HO := Lib.hid ho
      clear ho
      go_wp2_with fail
      go_ret
      exact ⟨_, rfl, HO.out, hk⟩
    case pos =>
      have hI : (n : Int) < 17 := by omega
      have hix := run_index_cells f hlt
      have hs := vecOf_succ f n
      have hl := vecOf_len f n
      by_cases hp : 0 < f n
      case neg =>
        rw [if_neg hp] at hs
        have HO := Lib.hid ho
        have HS := Lib.hid hs
        clear ho hs hl
        go_wp2_with fail
        go_roundw
        case rel => exact ⟨n + 1, by go_num, by omega, by rw [HS.out]; exact HO.out, hk⟩
        case measure => simp [intOf] <;> omega
      case pos =>
        rw [if_pos hp] at hs
        generalize vecOf f n = V at *
        have HO := Lib.hid (show (wr.alloc (.cells #[.int .i64 n, .int .i64 (f n)] 27)).ownsRow w.heap.size 27 dotE.k _ V.length (dotE.flat V) from ho.alloc _)
        have HS := Lib.hid hs
        have HK := Lib.hid (hk.alloc (.cells #[.int .i64 n, .int .i64 (f n)] 27))
        have LD := Lib.hid (lit_dot wr n (f n))
        have hsz := Lib.hid (hk.size)
        have NW := Lib.hid (owns_new ho)
        clear ho hs hk
        go_wp2_with (at_builtin; (refine wpList_append_row dotE rfl (.tmp 13) (.tmp 17) 29 rfl w.heap.size 27 (.agg #[.int .i64 0, .int .i64 0]) 16 Try.underlying29 info_dot rfl rfl rfl HO.out LD.out (by unfold maxLen; simp; omega) (by simp; omega) (by have := hsz.out; simp; omega) ?_); (intro v2 w2 ho2 hk2; have K2 : Hid (Kept (fun _ => False) w w2) := Lib.hid (HK.out.trans hk2 (fun b hb e => by have := NW.out b e; omega)); have O2 := Lib.hid ho2; clear hk2 ho2))
        go_roundw
        case rel => exact ⟨n + 1, by go_num, by omega, by rw [HS.out]; exact O2.out, K2.out⟩
        case measure => simp [intOf] <;> omega
end Go.Proofs.Ytaaeomapbigfgaa

