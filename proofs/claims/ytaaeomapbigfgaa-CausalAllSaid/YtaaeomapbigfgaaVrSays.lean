/- hearsayref7.Says. -/
import Derived.Test.YtaaeomapbigfgaaVeWith
namespace Go.Proofs.Ytaaeomapbigfgaa
open Go.RowKit Go.Proofs.Ytaaeomapbigfgaa.St
theorem sayS_low {f : Nat → Int} {k : Nat} {q : Int} (h : ¬ f k < q) : sayS f ⟨k, q⟩ = f := by
  funext i
  unfold sayS
  by_cases hi : (⟨k, q⟩ : Dot).Ok ∧ (⟨k, q⟩ : Dot).site = i
  · rw [if_pos hi]
    have e : (k : Int) = i := hi.2
    obtain rfl : k = i := by omega
    exact if_neg h
  · rw [if_neg hi]
theorem sayS_high {f : Nat → Int} {k : Nat} {q : Int} (h : (⟨k, q⟩ : Dot).Ok) (hlt : f k < q) : (cells f).setIfInBounds k (.int .i64 q) = cells (sayS f ⟨k, q⟩) := by
  rw [← says_cells h, if_pos hlt]
set_option maxRecDepth 100000 in
set_option maxHeartbeats 4000000 in
theorem rsays_grew {w : World} {v : Value} {L : List Dot} (h : SlAt dotE w v L) (hb : L.length ≤ 1000000000) : Calls Try.prog 34 #[v] w fun e w' => e = .returned (.agg (cells (says L))) ∧ Grew w w' := by
  obtain ⟨a, c, rfl, _, _⟩ := h.sl
  have HS := Lib.hid h
  clear h
  go_enter Try.func34, Try.ntmps34
  go_wp2_with fail
  go_loopw [4] (fun iv wr => ∃ n : Nat, iv = .int .i64 n ∧ n ≤ L.length ∧ Blk wr (w.heap.size + 1) 78 (cells (says (L.take n))) ∧ Blk wr w.heap.size 78 (cells fun _ => 0) ∧ Grew w wr) (fun iv _ => L.length - (intOf iv).toNat)
  case atStart =>
    refine ⟨0, rfl, Nat.zero_le _, ?_, (Blk.new _ _ _).alloc _, ((Grew.refl _).alloc _).alloc _⟩
    have := Blk.new (w.alloc (.cells (cells fun _ => 0) 78)) 78 (cells fun _ => 0)
    rw [show (w.alloc (.cells (cells fun _ => 0) 78)).heap.size = w.heap.size + 1 by simp] at this
    exact this
  case round =>
    obtain ⟨n, rfl, hn, hs, hr, hk⟩ := hrel
    have hn0 : (0 : Int) ≤ n := by omega
    by_cases hlt : n < L.length
    case neg =>
      have hnl : ¬ (n : Int) < L.length := by omega
      rw [List.take_of_length_le (by omega)] at hs
      have HS' := Lib.hid hs
      have HR := Lib.hid hr
      have x3 := Lib.hid (hk.setRow (g := w.heap.size) (Nat.le_refl _) (cells (says L)))
      clear hs hr hk
      go_wp2_with (first
        | (refine wpList_load_row rfl 78 _ rfl (w.heap.size + 1) rfl 78 _ (0, 0) _ HS'.out Try.underlying78 rfl (by rw [cells_size]; kernel_rfl) ?_)
        | (refine wpList_store_row rfl 78 _ _ rfl w.heap.size (cells (says L)) rfl rfl 78 _ HR.out (by rw [cells_size]; kernel_rfl) (by rw [cells_size, cells_size]) (cells_one _) ?_))
      exact bodyPost_ret (Blk.result rfl _ (HR.out.row _) rfl Try.underlying78 rfl (by rw [cells_size]; kernel_rfl)) rfl ⟨rfl, x3.out⟩
    case pos =>
      have hltI : (n : Int) < L.length := by omega
      obtain ⟨d, hd⟩ := get_of_lt hlt
      obtain ⟨g, o, c', hv, hg, hc⟩ := SlAt.dot (HS.out.kept hk.kept) (by omega)
      cases hv
      obtain ⟨c0, c1⟩ := hc n d hd
      have hsay := Lib.hid (says_take hd)
      generalize says (L.take n) = f at *
      obtain ⟨ds, dq⟩ := d
      simp only at c0 c1
      have K0 := Lib.hid (hk.alloc (.cells #[.int .i64 ds, .int .i64 dq] 27))
      have FS := Lib.hid (hs.alloc (.cells #[.int .i64 ds, .int .i64 dq] 27))
      have FR := Lib.hid (hr.alloc (.cells #[.int .i64 ds, .int .i64 dq] 27))
      have BX := Blk.new wr 27 #[.int .i64 ds, .int .i64 dq]
      have x0 : (wr.alloc (.cells #[.int .i64 ds, .int .i64 dq] 27)).cell? ⟨wr.heap.size, 0, none⟩ = some (.int .i64 ds) := BX.cell' (i := 0) rfl
      have x1 : (wr.alloc (.cells #[.int .i64 ds, .int .i64 dq] 27)).cell? ⟨wr.heap.size, 1, none⟩ = some (.int .i64 dq) := BX.cell' (i := 1) rfl
      clear hc hd hs hr hk BX
      by_cases hok : (⟨ds, dq⟩ : Dot).Ok
      case neg =>
        have S1 : Hid (says (L.take (n + 1)) = f) := Lib.hid (by rw [hsay.out, sayS_none hok])
        clear hsay
        by_cases h1 : 1 ≤ ds
        by_cases h2 : ds ≤ 16
        by_cases h3 : 1 ≤ dq
        by_cases h4 : dq ≤ 2147483647
        · exact absurd ⟨h1, h2, h3, h4⟩ hok
        all_goals
          clear hok
          try (have e1 := decide_eq_true h1)
          try (have e2 := decide_eq_true h2)
          try (have e3 := decide_eq_true h3)
          try (have e1 := decide_eq_false h1)
          try (have e2 := decide_eq_false h2)
          try (have e3 := decide_eq_false h3)
          try (have e4 := decide_eq_false h4)
          go_wp2_with fail
          go_region
          go_wp2_with fail
          go_roundw
          focus
            exact ⟨n + 1, by go_num, by omega, by rw [S1.out]; exact FS.out.drewN 1, FR.out.drewN 1, K0.out.drewN 1⟩
          focus
            simp [intOf] <;> omega
      case pos =>
        have hok' := hok
        unfold Dot.Ok at hok'
        simp only at hok'
        obtain ⟨k, rfl⟩ : ∃ k : Nat, ds = k := ⟨ds.toNat, by omega⟩
        have h1 := hok'.1
        have h2 := hok'.2.1
        have h3 := hok'.2.2.1
        have h4 := hok'.2.2.2
        have hkl : k < 17 := by omega
        have hkI : (k : Int) < 17 := by omega
        have hk0 : (0 : Int) ≤ k := by omega
        have s0 := FS.out.cell' (cells_get f hkl)
        have fz := FS.out.frozen k
        have OK := Lib.hid hok
        clear hok' hok
        by_cases h5 : f k < dq
        · have S1 := Lib.hid (sayS_high OK.out h5)
          go_wp2_with fail
          have hsz := FS.out.lt
          go_region
          go_wp2_with fail
          go_roundw
          case rel =>
            refine ⟨n + 1, by go_num, by omega, ?_, (FR.out.far (by show w.heap.size ≠ w.heap.size + 1; omega) _).drewN 1, (K0.out.setCell (by show w.heap.size ≤ w.heap.size + 1; omega) _).drewN 1⟩
            rw [hsay.out, ← S1.out]
            exact (FS.out.set_ k _).drewN 1
          case measure => simp [intOf] <;> omega
        · have S1 : Hid (says (L.take (n + 1)) = f) := Lib.hid (by rw [hsay.out, sayS_low h5])
          clear hsay
          go_wp2_with fail
          go_region
          go_wp2_with fail
          go_roundw
          case rel => exact ⟨n + 1, by go_num, by omega, by rw [S1.out]; exact FS.out.drewN 1, FR.out.drewN 1, K0.out.drewN 1⟩
          case measure => simp [intOf] <;> omega
theorem rsays_any {w : World} {v : Value} {L : List Dot} (h : SlAt dotE w v L) (hb : L.length ≤ 1000000000) : Calls Try.prog 34 #[v] w fun e w' => e = .returned (.agg (cells (says L))) ∧ Kept (fun _ => False) w w' := (rsays_grew h hb).mono fun _ _ ⟨he, hg⟩ => ⟨he, hg.kept⟩
end Go.Proofs.Ytaaeomapbigfgaa

