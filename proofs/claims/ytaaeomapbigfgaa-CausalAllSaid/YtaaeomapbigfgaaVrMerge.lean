/- hearsayref7.Merge. -/
import Derived.Test.YtaaeomapbigfgaaVrFns
namespace Go.Proofs.Ytaaeomapbigfgaa
open Go.RowKit Go.Proofs.Ytaaeomapbigfgaa.St
def mergeV (A B : List Dot) : List Dot := vecOf (maxV A B) 17
set_option maxRecDepth 100000 in
set_option maxHeartbeats 4000000 in
theorem rmerge_any {w : World} {va vb : Value} {A B : List Dot} (ha : SlAt dotE w va A) (hb : SlAt dotE w vb B) (hla : A.length ≤ 1000000000) (hlb : B.length ≤ 1000000000) :
    Calls Try.prog 20 #[va, vb] w fun e w' => ∃ v', e = .returned v' ∧ w'.ownsRow w.heap.size 27 2 v' (mergeV A B).length (dotE.flat (mergeV A B)) ∧ Kept (fun _ => False) w w' := by
  have hoa := rsays_any ha hla
  have HB := Lib.hid hb
  clear hb
  have HM0 : Hid (¬ 0 < maxV A B 0) := Lib.hid (by unfold maxV; rw [says_out A 0 (by decide), says_out B 0 (by decide)]; decide)
  go_enter Try.func20, Try.ntmps20
  go_upto_region 2 with (first
      | (refine wpList_store_row rfl 78 _ _ rfl w1.heap.size (cells (says A)) rfl rfl 78 zero17 P1.out (by rw [cells_size]; kernel_rfl) (by rw [cells_size]; rfl) (cells_one _) ?_)
      | (go_at_call 34; refine hoa.mono ?_; rintro e w1 ⟨rfl, hk1⟩; have P1 := Lib.hid (Blk.new w1 78 zero17)))
  have Q1 := Lib.hid (P1.out.row (cells (says A)))
  have s1 := hk1.size
  have k1 : Kept (fun _ => False) w ((w1.alloc (.cells zero17 78)).setRow w1.heap.size (cells (says A))) := (hk1.alloc _).setRow (fun h => by omega) _
  have K1 := Lib.hid k1
  clear P1 hk1 hoa k1
  generalize (w1.alloc (.cells zero17 78)).setRow w1.heap.size (cells (says A)) = w2 at *
  go_upto_region 3 with (first
      | (refine wpList_store_row rfl 78 _ _ rfl w3.heap.size (cells (says B)) rfl rfl 78 zero17 P3.out (by rw [cells_size]; kernel_rfl) (by rw [cells_size]; rfl) (cells_one _) ?_)
      | (go_at_call 34; refine (rsays_any (HB.out.kept K1.out) hlb).mono ?_; rintro e w3 ⟨rfl, hk3⟩; have P3 := Lib.hid (Blk.new w3 78 zero17)))
  have s3 := hk3.size
  have l1 := Q1.out.lt
  have Q3 := Lib.hid (P3.out.row (cells (says B)))
  have Q1' := Lib.hid (((hk3.blk (fun h => h) Q1.out).alloc (.cells zero17 78)).row_far (g := w3.heap.size) (by omega) (cells (says B)))
  have K3 := Lib.hid (((K1.out.trans hk3 (fun _ _ h => h)).alloc (.cells zero17 78)).setRow (g := w3.heap.size) (fun h => by have := K1.out.size; omega) (cells (says B)))
  have hne : w1.heap.size < w3.heap.size := by omega
  clear P3 hk3 Q1 K1 l1 s3
  generalize (w3.alloc (.cells zero17 78)).setRow w3.heap.size (cells (says B)) = w4 at *
  go_wp2_with fail
  go_loopw [7] (fun iv wr => ∃ n : Nat, iv = .int .i64 n ∧ n ≤ 17 ∧ Blk wr w1.heap.size 78 (cells fun i => if i < n then maxV A B i else says A i) ∧ Blk wr w3.heap.size 78 (cells (says B)) ∧ Kept (fun _ => False) w wr) (fun iv _ => 17 - (intOf iv).toNat)
  case atStart => exact ⟨0, rfl, by decide, Q1'.out, Q3.out, K3.out⟩
  case round =>
    clear K3 Q1' Q3
    obtain ⟨n, rfl, hn, h1, h2, hk⟩ := hrel
    have hn0 : (0 : Int) ≤ n := by omega
    by_cases hlt : n < 17
    case neg =>
      obtain rfl : n = 17 := by omega
      have e : cells (fun i => if i < 17 then maxV A B i else says A i) = cells (maxV A B) := cells_congr fun i hi => if_pos hi
      rw [e] at h1
      have H1 := Lib.hid h1
      have HK := Lib.hid hk
      have hof := rof_any (maxV A B) (fun h => by have := HM0.out; omega) wr
      clear h1 h2 hk e
      go_wp2_with (first
        | (refine wpList_load_row rfl 78 _ rfl w1.heap.size rfl 78 _ (0, 0) _ H1.out Try.underlying78 rfl (by rw [cells_size]; kernel_rfl) ?_)
        | (go_at_call 40; refine hof.mono ?_; rintro e w5 ⟨v5, rfl, ho5, hk5⟩))
      go_ret
      exact ⟨_, rfl, owns_lower ho5 HK.out.size, HK.out.trans hk5 (fun _ _ h => h)⟩
    case pos =>
      have hI : (n : Int) < 17 := by omega
      have c1 : wr.cell? ⟨w1.heap.size, n, none⟩ = some (.int .i64 (says A n)) := by
        have := h1.cell' (cells_get _ hlt)
        rwa [if_neg (Nat.lt_irrefl n)] at this
      have c2 := h2.cell' (cells_get (says B) hlt)
      have f1 := h1.frozen n
      have H1 := Lib.hid h1
      have H2 := Lib.hid h2
      have HK := Lib.hid hk
      have MX : (if says A n < says B n then says B n else says A n) = maxV A B n := rfl
      generalize hmx : maxV A B n = mx at *
      have MX2 := Lib.hid hmx
      clear h1 h2 hk hmx
      go_wp2_with fail
      go_region
      all_goals
        go_wp2_with fail
        go_roundw
        focus
          refine ⟨n + 1, by go_num, by omega, ?_, ((H2.out.far (by show w3.heap.size ≠ w1.heap.size; omega) _).drewN 1), (HK.out.setCell (fun h => by have h : w1.heap.size < w.heap.size := h; omega) _).drewN 1⟩
          have := (H1.out.set_ n (.int .i64 mx)).drewN 1
          rw [cells_set, ← MX2.out, max_next] at this
          rw [← MX2.out]
          exact this
        focus
          simp [intOf] <;> omega
end Go.Proofs.Ytaaeomapbigfgaa

