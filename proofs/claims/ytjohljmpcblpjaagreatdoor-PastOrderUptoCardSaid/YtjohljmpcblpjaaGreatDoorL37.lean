/- hearsayref7.Says. hearsayref7.Of, Get, Sum, Same. hearsayref7.Has, Covers and Check. hearsayref24.Upto. -/
import Derived.Test.YtjohljmpcblpjaaGreatDoorL5
import Derived.Deep.DeepCutAuto
import Derived.Test.YtjohljmpcblpjaaGreatDoorL36
import Derived.Test.YtjohljmpcblpjaaGreatDoorL8
namespace Go.Proofs.YtjohljmpcblpjaaGreatDoor
open Go.RowKit Go.Proofs.YtjohljmpcblpjaaGreatDoor.St
theorem sayS_low {f : Nat → Int} {k : Nat} {q : Int} (h : ¬ f k < q) : sayS f ⟨k, q⟩ = f := by
  funext i
  unfold sayS
  by_cases hi : (⟨k, q⟩ : Dot).Ok ∧ (⟨k, q⟩ : Dot).site = i
  · rw [if_pos hi]
    have e : (k : Int) = i := hi.2
    obtain rfl : k = i := by omega
    exact if_neg h
  · rw [if_neg hi]
theorem sayS_high {f : Nat → Int} {k : Nat} {q : Int} (h : (⟨k, q⟩ : Dot).Ok) (hlt : f k < q) : (cells f).setIfInBounds k (.int .i64 q) = cells (sayS f ⟨k, q⟩) := by
  rw [← says_cells h, if_pos hlt]
set_option maxRecDepth 100000 in
set_option maxHeartbeats 4000000 in
theorem rsays_grew {w : World} {v : Value} {L : List Dot} (h : SlAt dotE w v L) (hb : L.length ≤ 1000000000) : Calls Tryz.prog 75 #[v] w fun e w' => e = .returned (.agg (cells (says L))) ∧ Grew w w' := by
  obtain ⟨a, c, rfl, _, _⟩ := h.sl
  have HS := Lib.hid h
  clear h
  go_enter Tryz.func75, Tryz.ntmps75
  go_wp2_with fail
  go_loopw [4] (fun iv wr => ∃ n : Nat, iv = .int .i64 n ∧ n ≤ L.length ∧ Blk wr (w.heap.size + 1) 130 (cells (says (L.take n))) ∧ Blk wr w.heap.size 130 (cells fun _ => 0) ∧ Grew w wr) (fun iv _ => L.length - (intOf iv).toNat)
  case atStart =>
    refine ⟨0, rfl, Nat.zero_le _, ?_, (Blk.new _ _ _).alloc _, ((Grew.refl _).alloc _).alloc _⟩
    have := Blk.new (w.alloc (.cells (cells fun _ => 0) 130)) 130 (cells fun _ => 0)
    rw [show (w.alloc (.cells (cells fun _ => 0) 130)).heap.size = w.heap.size + 1 by simp] at this
    exact this
  case round =>
    obtain ⟨n, rfl, hn, hs, hr, hk⟩ := hrel
    have hn0 : (0 : Int) ≤ n := by omega
    by_cases hlt : n < L.length
    case neg =>
      have hnl : ¬ (n : Int) < L.length := by omega
      rw [List.take_of_length_le (by omega)] at hs
      have HS' := Lib.hid hs
      have HR := Lib.hid hr
      have x3 := Lib.hid (hk.setRow (g := w.heap.size) (Nat.le_refl _) (cells (says L)))
      clear hs hr hk
      go_wp2_with (first
        | (refine wpList_load_row rfl 130 _ rfl (w.heap.size + 1) rfl 130 _ (0, 0) _ HS'.out Tryz.underlying130 rfl (by rw [cells_size]; kernel_rfl) ?_)
        | (refine wpList_store_row rfl 130 _ _ rfl w.heap.size (cells (says L)) rfl rfl 130 _ HR.out (by rw [cells_size]; kernel_rfl) (by rw [cells_size, cells_size]) (cells_one _) ?_))
      exact bodyPost_ret (Blk.result rfl _ (HR.out.row _) rfl Tryz.underlying130 rfl (by rw [cells_size]; kernel_rfl)) rfl ⟨rfl, x3.out⟩
    case pos =>
      have hltI : (n : Int) < L.length := by omega
      obtain ⟨d, hd⟩ := get_of_lt hlt
      obtain ⟨g, o, c', hv, hg, hc⟩ := SlAt.dot (HS.out.kept hk.kept) (by omega)
      cases hv
      obtain ⟨c0, c1⟩ := hc n d hd
      have hsay := Lib.hid (says_take hd)
      generalize says (L.take n) = f at *
      obtain ⟨ds, dq⟩ := d
      simp only at c0 c1
      have K0 := Lib.hid (hk.alloc (.cells #[.int .i64 ds, .int .i64 dq] 29))
      have FS := Lib.hid (hs.alloc (.cells #[.int .i64 ds, .int .i64 dq] 29))
      have FR := Lib.hid (hr.alloc (.cells #[.int .i64 ds, .int .i64 dq] 29))
      have BX := Blk.new wr 29 #[.int .i64 ds, .int .i64 dq]
      have x0 : (wr.alloc (.cells #[.int .i64 ds, .int .i64 dq] 29)).cell? ⟨wr.heap.size, 0, none⟩ = some (.int .i64 ds) := BX.cell' (i := 0) rfl
      have x1 : (wr.alloc (.cells #[.int .i64 ds, .int .i64 dq] 29)).cell? ⟨wr.heap.size, 1, none⟩ = some (.int .i64 dq) := BX.cell' (i := 1) rfl
      clear hc hd hs hr hk BX
      by_cases hok : (⟨ds, dq⟩ : Dot).Ok
      case neg =>
        have S1 : Hid (says (L.take (n + 1)) = f) := Lib.hid (by rw [hsay.out, sayS_none hok])
        clear hsay
        by_cases h1 : 1 ≤ ds
        by_cases h2 : ds ≤ 16
        by_cases h3 : 1 ≤ dq
        by_cases h4 : dq ≤ 2147483647
        · exact absurd ⟨h1, h2, h3, h4⟩ hok
        all_goals
          clear hok
          try (have e1 := decide_eq_true h1)
          try (have e2 := decide_eq_true h2)
          try (have e3 := decide_eq_true h3)
          try (have e1 := decide_eq_false h1)
          try (have e2 := decide_eq_false h2)
          try (have e3 := decide_eq_false h3)
          try (have e4 := decide_eq_false h4)
          go_wp2_with fail
          go_region
          go_wp2_with fail
          go_roundw
          focus
            exact ⟨n + 1, by go_num, by omega, by rw [S1.out]; exact FS.out.drewN 1, FR.out.drewN 1, K0.out.drewN 1⟩
          focus
            simp [intOf] <;> omega
      case pos =>
        have hok' := hok
        unfold Dot.Ok at hok'
        simp only at hok'
        obtain ⟨k, rfl⟩ : ∃ k : Nat, ds = k := ⟨ds.toNat, by omega⟩
        have h1 := hok'.1
        have h2 := hok'.2.1
        have h3 := hok'.2.2.1
        have h4 := hok'.2.2.2
        have hkl : k < 17 := by omega
        have hkI : (k : Int) < 17 := by omega
        have hk0 : (0 : Int) ≤ k := by omega
        have s0 := FS.out.cell' (cells_get f hkl)
        have fz := FS.out.frozen k
        have OK := Lib.hid hok
        clear hok' hok
        by_cases h5 : f k < dq
        · have S1 := Lib.hid (sayS_high OK.out h5)
          go_wp2_with fail
          have hsz := FS.out.lt
          go_region
          go_wp2_with fail
          go_roundw
          case rel =>
            refine ⟨n + 1, by go_num, by omega, ?_, (FR.out.far (by show w.heap.size ≠ w.heap.size + 1; omega) _).drewN 1, (K0.out.setCell (by show w.heap.size ≤ w.heap.size + 1; omega) _).drewN 1⟩
            rw [hsay.out, ← S1.out]
            exact (FS.out.set_ k _).drewN 1
          case measure => simp [intOf] <;> omega
        · have S1 : Hid (says (L.take (n + 1)) = f) := Lib.hid (by rw [hsay.out, sayS_low h5])
          clear hsay
          go_wp2_with fail
          go_region
          go_wp2_with fail
          go_roundw
          case rel => exact ⟨n + 1, by go_num, by omega, by rw [S1.out]; exact FS.out.drewN 1, FR.out.drewN 1, K0.out.drewN 1⟩
          case measure => simp [intOf] <;> omega
theorem rsays_any {w : World} {v : Value} {L : List Dot} (h : SlAt dotE w v L) (hb : L.length ≤ 1000000000) : Calls Tryz.prog 75 #[v] w fun e w' => e = .returned (.agg (cells (says L))) ∧ Kept (fun _ => False) w w' := (rsays_grew h hb).mono fun _ _ ⟨he, hg⟩ => ⟨he, hg.kept⟩
end Go.Proofs.YtjohljmpcblpjaaGreatDoor
namespace Go.Proofs.YtjohljmpcblpjaaGreatDoor
open Go.RowKit Go.Proofs.YtjohljmpcblpjaaGreatDoor.St
theorem run_index_row (f : Nat → Int) {n : Nat} (h : n < 17) (w : World) : (Instr.index 130 (.agg (cells f)) (.int .i64 n)).run Tryz.prog w = .ok (.int .i64 (f n)) w := by
  have h1 := cells_get f h
  have hI : (n : Int) < 17 := by omega
  simp [Instr.index, asIntOf, run_underlying Tryz.underlying130, part, isAgg, run_underlying Tryz.underlying3, Tryz.sizeOf3, h, h1, go_sem]
theorem rget_grew {w : World} {v : Value} {L : List Dot} (h : SlAt dotE w v L) (hb : L.length ≤ 1000000000) (s : Int) : Calls Tryz.prog 81 #[v, .int .i64 s] w fun e w' => e = .returned (.int .i64 (getV L s)) ∧ Grew w w' := by
  have ho := rsays_grew h hb
  unfold getV
  by_cases hi : isSite s
  · rw [if_pos hi]
    unfold isSite at hi
    obtain ⟨k, rfl⟩ : ∃ k : Nat, s = k := ⟨s.toNat, by omega⟩
    have h1 := hi.1
    have h2 := hi.2
    have hix := run_index_row (says L) (n := k) (by omega)
    rw [Int.toNat_natCast]
    clear hi
    go_enter Tryz.func81, Tryz.ntmps81
    go_wp2_with (go_at_call 75; refine ho.mono ?_; rintro e w1 ⟨rfl, hk1⟩)
    go_ret
    exact ⟨rfl, hk1⟩
  · rw [if_neg hi]
    by_cases h1 : 1 ≤ s
    · have h2 : ¬ s ≤ 16 := fun h => hi ⟨h1, h⟩
      clear hi
      go_enter Tryz.func81, Tryz.ntmps81
      go_wp2_with fail
      go_ret
      exact ⟨rfl, Grew.refl _⟩
    · clear hi
      go_enter Tryz.func81, Tryz.ntmps81
      go_wp2_with fail
      go_ret
      exact ⟨rfl, Grew.refl _⟩
theorem rget_any {w : World} {v : Value} {L : List Dot} (h : SlAt dotE w v L) (hb : L.length ≤ 1000000000) (s : Int) : Calls Tryz.prog 81 #[v, .int .i64 s] w fun e w' => e = .returned (.int .i64 (getV L s)) ∧ Kept (fun _ => False) w w' := (rget_grew h hb s).mono fun _ _ ⟨he, hg⟩ => ⟨he, hg.kept⟩
theorem vecOf_from1 {f : Nat → Int} (h0 : ¬ 0 < f 0) : vecOf f 1 = [] := by
  rw [vecOf_succ, if_neg h0]; rfl
set_option maxRecDepth 100000 in
set_option maxHeartbeats 4000000 in
theorem rof_any (f : Nat → Int) (h0 : ¬ 0 < f 0) (w : World) : Calls Tryz.prog 76 #[.agg (cells f)] w fun e w' => ∃ v', e = .returned v' ∧ w'.ownsRow w.heap.size 29 2 v' (vecOf f 17).length (dotE.flat (vecOf f 17)) ∧ Kept (fun _ => False) w w' := by
  have B0 := Lib.hid (Blk.new w 130 (cells f))
  have K0 : Hid (Kept (fun _ => False) w (w.alloc (.cells (cells f) 130))) := Lib.hid ((Kept.refl _ _).alloc _)
  have V1 := Lib.hid (vecOf_from1 h0)
  clear h0
  go_enter Tryz.func76, Tryz.ntmps76
  go_wp2_with fail
  go_loopw [3, 4] (fun vv iv wr => ∃ n : Nat, iv = .int .i64 n ∧ 1 ≤ n ∧ n ≤ 17 ∧ wr.ownsRow w.heap.size 29 dotE.k vv (vecOf f n).length (dotE.flat (vecOf f n)) ∧ Blk wr w.heap.size 130 (cells f) ∧ Kept (fun _ => False) w wr) (fun _ iv _ => 17 - (intOf iv).toNat)
  case atStart => exact ⟨1, rfl, by decide, by decide, by rw [V1.out]; exact World.ownsRow_nil _ _ _ _, B0.out, K0.out⟩
  case round =>
    clear B0 K0
    obtain ⟨n, rfl, hn1, hn, ho, hb, hk⟩ := hrel
    have hn0 : (0 : Int) ≤ n := by omega
    by_cases hlt : n < 17
    case neg =>
      obtain rfl : n = 17 := by omega
      have HO := Lib.hid ho
      clear ho
      go_wp2_with fail
      go_ret
      exact ⟨_, rfl, HO.out, hk⟩
    case pos =>
      have hI : (n : Int) < 17 := by omega
      have hI2 : (n : Int) ≤ 16 := by omega
      have c0 := hb.cell' (cells_get f hlt)
      have hs := vecOf_succ f n
      have hl := vecOf_len f n
      by_cases hp : 0 < f n
      case neg =>
        rw [if_neg hp] at hs
        have HO := Lib.hid ho
        have HS := Lib.hid hs
        have HB := Lib.hid hb
        clear ho hs hl hb
        go_wp2_with fail
        go_roundw
        case rel => exact ⟨n + 1, by go_num, by omega, by omega, by rw [HS.out]; exact HO.out, HB.out, hk⟩
        case measure => simp [intOf] <;> omega
      case pos =>
        rw [if_pos hp] at hs
        generalize vecOf f n = V at *
        have HO := Lib.hid (show (wr.alloc (.cells #[.int .i64 n, .int .i64 (f n)] 29)).ownsRow w.heap.size 29 dotE.k _ V.length (dotE.flat V) from ho.alloc _)
        have HS := Lib.hid hs
        have HK := Lib.hid (hk.alloc (.cells #[.int .i64 n, .int .i64 (f n)] 29))
        have HB := Lib.hid (hb.alloc (.cells #[.int .i64 n, .int .i64 (f n)] 29))
        have NE := Lib.hid (own_blk_ne ho hb (of_decide_eq_true (by kernel_rfl)))
        have LD := Lib.hid (lit_dot wr n (f n))
        have hsz := Lib.hid (hk.size)
        have NW := Lib.hid (owns_new ho)
        clear ho hs hk hb
        go_wp2_with (at_builtin; (refine wpList_append_row dotE rfl (.tmp 13) (.tmp 19) 24 rfl w.heap.size 29 (.agg #[.int .i64 0, .int .i64 0]) 16 Tryz.underlying24 info_dot rfl rfl rfl HO.out LD.out (by unfold maxLen; simp; omega) (by simp; omega) (by have := hsz.out; simp; omega) ?_); (intro v2 w2 ho2 hk2; have K2 : Hid (Kept (fun _ => False) w w2) := Lib.hid (HK.out.trans hk2 (fun b hb e => by have := NW.out b e; omega)); have B2 := Lib.hid (hk2.blk (fun e => NE.out e) HB.out); have O2 := Lib.hid ho2; clear hk2 ho2))
        go_roundw
        case rel => exact ⟨n + 1, by go_num, by omega, by omega, by rw [HS.out]; exact O2.out, B2.out, K2.out⟩
        case measure => simp [intOf] <;> omega
end Go.Proofs.YtjohljmpcblpjaaGreatDoor
namespace Go.Proofs.YtjohljmpcblpjaaGreatDoor
open Go.RowKit Go.Proofs.YtjohljmpcblpjaaGreatDoor.St
theorem rhasV_grew {w : World} {v : Value} {L : List Dot} (h : SlAt dotE w v L) (hb : L.length ≤ 1000000000) (d : Dot) : Calls Tryz.prog 52 #[v, .agg #[.int .i64 d.site, .int .i64 d.seq]] w fun e w' => e = .returned (.bool (decide (hasV L d))) ∧ Grew w w' := by
  have hg := Lib.hid (fun (w' : World) (hk : Grew w w') => rget_grew (h.kept hk.kept) hb d.site)
  have hB := Blk.new w 29 #[.int .i64 d.site, .int .i64 d.seq]
  have b0 : (w.alloc (.cells #[.int .i64 d.site, .int .i64 d.seq] 29)).cell? ⟨w.heap.size, 0, none⟩ = some (.int .i64 d.site) := hB.cell' (i := 0) rfl
  have b1 : (w.alloc (.cells #[.int .i64 d.site, .int .i64 d.seq] 29)).cell? ⟨w.heap.size, 1, none⟩ = some (.int .i64 d.seq) := hB.cell' (i := 1) rfl
  have KD : Grew w (w.alloc (.cells #[.int .i64 d.site, .int .i64 d.seq] 29)).drew := ((Grew.refl _).alloc _).drewN 1
  unfold hasV
  clear hB h
  go_enter Tryz.func52, Tryz.ntmps52
  by_cases h1 : 1 ≤ d.seq
  · have hd1 : decide (1 ≤ d.seq) = true := decide_eq_true h1
    go_wp2_with fail
    go_region_held3 (fun w' => Grew w w' ∧ w'.cell? ⟨w.heap.size, 0, none⟩ = some (.int .i64 d.site) ∧ w'.cell? ⟨w.heap.size, 1, none⟩ = some (.int .i64 d.seq)) (first | (with_reducible exact ⟨KD, b0, b1⟩) | go_keep)
      (first | (go_simp; go_at_call 81; refine (hg.out _ KD).mono ?_; rintro e w1 ⟨rfl, hk1⟩; have KE := KD.trans hk1; have b0 := hk1.kept.cell b0; have b1 := hk1.kept.cell b1))
    go_wp2_with fail
    go_ret
    exact ⟨by simp [h1], KE⟩
  · have hd1 : decide (1 ≤ d.seq) = false := decide_eq_false h1
    have e2 : decide (1 ≤ d.seq ∧ d.seq ≤ getV L d.site) = false := decide_eq_false fun h => h1 h.1
    go_wp2_with fail
    go_region
    go_wp2_with fail
    go_ret
    exact ⟨congrArg (fun b => Ending.returned (.bool b)) e2.symm, KD⟩
theorem rhasV_any {w : World} {v : Value} {L : List Dot} (h : SlAt dotE w v L) (hb : L.length ≤ 1000000000) (d : Dot) : Calls Tryz.prog 52 #[v, .agg #[.int .i64 d.site, .int .i64 d.seq]] w fun e w' => e = .returned (.bool (decide (hasV L d))) ∧ Kept (fun _ => False) w w' := (rhasV_grew h hb d).mono fun _ _ ⟨he, hg⟩ => ⟨he, hg.kept⟩
set_option maxRecDepth 100000 in
set_option maxHeartbeats 4000000 in
theorem rcovers_grew {w : World} {va vb : Value} {A B : List Dot} (ha : SlAt dotE w va A) (hb : SlAt dotE w vb B) (hla : A.length ≤ 1000000000) (hlb : B.length ≤ 1000000000) :
    Calls Tryz.prog 66 #[va, vb] w fun e w' => e = .returned (.bool (decide (coversV A B))) ∧ Grew w w' := by
  have hoa := rsays_grew ha hla
  have HB := Lib.hid hb
  clear hb
  go_enter Tryz.func66, Tryz.ntmps66
  go_upto_region 2 with (first
      | (refine wpList_store_row rfl 130 _ _ rfl w1.heap.size (cells (says A)) rfl rfl 130 zero17 P1.out (by rw [cells_size]; kernel_rfl) (by rw [cells_size]; rfl) (cells_one _) ?_)
      | (go_at_call 75; refine hoa.mono ?_; rintro e w1 ⟨rfl, hk1⟩; have P1 := Lib.hid (Blk.new w1 130 zero17)))
  have Q1 := Lib.hid (P1.out.row (cells (says A)))
  have s1 := hk1.kept.size
  have k1 : Grew w ((w1.alloc (.cells zero17 130)).setRow w1.heap.size (cells (says A))) := (hk1.alloc _).setRow s1 _
  have K1 := Lib.hid k1
  clear P1 hk1 hoa k1
  generalize (w1.alloc (.cells zero17 130)).setRow w1.heap.size (cells (says A)) = w2 at *
  go_upto_region 3 with (first
      | (refine wpList_store_row rfl 130 _ _ rfl w3.heap.size (cells (says B)) rfl rfl 130 zero17 P3.out (by rw [cells_size]; kernel_rfl) (by rw [cells_size]; rfl) (cells_one _) ?_)
      | (go_at_call 75; refine (rsays_grew (HB.out.kept K1.out.kept) hlb).mono ?_; rintro e w3 ⟨rfl, hk3⟩; have P3 := Lib.hid (Blk.new w3 130 zero17)))
  have s3 := hk3.kept.size
  have l1 := Q1.out.lt
  have Q3 := Lib.hid (P3.out.row (cells (says B)))
  have Q1' := Lib.hid (((hk3.kept.blk (fun h => h) Q1.out).alloc (.cells zero17 130)).row_far (g := w3.heap.size) (by omega) (cells (says B)))
  have K3 := Lib.hid (((K1.out.trans hk3).alloc (.cells zero17 130)).setRow (g := w3.heap.size) (by have := K1.out.kept.size; omega) (cells (says B)))
  clear P3 hk3 Q1 K1 l1 s3
  generalize (w3.alloc (.cells zero17 130)).setRow w3.heap.size (cells (says B)) = w4 at *
  go_wp2_with fail
  go_loopw [7] (fun iv wr => ∃ n q : Nat, iv = .int .i64 n ∧ n ≤ 17 ∧ (∀ i, i < n → says B i ≤ says A i) ∧ wr = w4.drewN q) (fun iv _ => 17 - (intOf iv).toNat)
  case atStart => exact ⟨0, 0, rfl, by decide, fun i h => absurd h (Nat.not_lt_zero _), rfl⟩
  case round =>
    obtain ⟨n, q, rfl, hn, hc, rfl⟩ := hrel
    have hn0 : (0 : Int) ≤ n := by omega
    have HC := Lib.hid hc
    clear hc
    by_cases hlt : n < 17
    case neg =>
      obtain rfl : n = 17 := by omega
      have ANS := Lib.hid (show decide (coversV A B) = true from decide_eq_true HC.out)
      go_wp2_with fail
      go_ret
      exact ⟨by rw [ANS.out]; rfl, K3.out.drewN _⟩
    case pos =>
      have hI : (n : Int) < 17 := by omega
      have c1 : w4.cell? ⟨w1.heap.size, n, none⟩ = some (.int .i64 (says A n)) := Q1'.out.cell' (cells_get _ hlt)
      have c2 : w4.cell? ⟨w3.heap.size, n, none⟩ = some (.int .i64 (says B n)) := Q3.out.cell' (cells_get _ hlt)
      by_cases h : says A n < says B n
      · have ANS := Lib.hid (show decide (coversV A B) = false from decide_eq_false (fun hc => by have := hc n hlt; omega))
        go_wp2
        go_quiet (fail)
        go_wp2
        go_ret
        exact ⟨by rw [ANS.out]; rfl, (K3.out.drewN q).drewN _⟩
      · have HH := Lib.hid (show says B n ≤ says A n by omega)
        go_wp2
        go_quiet (fail)
        go_wp2
        go_roundw
        case rel =>
          refine ⟨n + 1, _, by go_num, by omega, fun i hi => ?_, rfl⟩
          by_cases hin : i = n
          · rw [hin]; exact HH.out
          · exact HC.out i (by omega)
        case measure => simp [intOf]; omega
theorem rcovers_any {w : World} {va vb : Value} {A B : List Dot} (ha : SlAt dotE w va A) (hb : SlAt dotE w vb B) (hla : A.length ≤ 1000000000) (hlb : B.length ≤ 1000000000) :
    Calls Tryz.prog 66 #[va, vb] w fun e w' => e = .returned (.bool (decide (coversV A B))) ∧ Kept (fun _ => False) w w' := (rcovers_grew ha hb hla hlb).mono fun _ _ ⟨he, hg⟩ => ⟨he, hg.kept⟩
/-- the site of the one before -/
def lastV (L : List Dot) : Nat → Int
  | 0 => 0
  | k + 1 => match L[k]? with
    | some d => d.site
    | none => 0
theorem lastV_next {L : List Dot} {n : Nat} {d : Dot} (h : L[n]? = some d) : lastV L (n + 1) = d.site := by
  show (match L[n]? with | some d => d.site | none => 0) = d.site
  rw [h]
set_option maxRecDepth 100000 in
set_option maxHeartbeats 4000000 in
theorem rvcheck_drew {w : World} {v : Value} {L : List Dot} (h : SlAt dotE w v L) (hb : L.length ≤ 1000000000) : Calls Tryz.prog 51 #[v] w fun e w' => e = .returned (.int .i64 (chkV 0 L)) ∧ ∃ q, w' = w.drewN q := by
  obtain ⟨a, c, rfl, _, _⟩ := h.sl
  have HS := Lib.hid h
  clear h
  go_enter Tryz.func51, Tryz.ntmps51
  go_wp2_with fail
  go_loopw [3] (fun iv wr => ∃ n q : Nat, iv = .int .i64 n ∧ n ≤ L.length ∧ chkV 0 L = chkV (lastV L n) (L.drop n) ∧ (1 ≤ n → 1 ≤ lastV L n) ∧ wr = w.drewN q) (fun iv _ => L.length - (intOf iv).toNat)
  case atStart => exact ⟨0, 0, rfl, Nat.zero_le _, rfl, fun h => absurd h (by decide), rfl⟩
  case round =>
    obtain ⟨n, q0, rfl, hn, hch, hl1, rfl⟩ := hrel
    have hn0 : (0 : Int) ≤ n := by omega
    by_cases hlt : n < L.length
    case neg =>
      have hnl : ¬ (n : Int) < L.length := by omega
      rw [List.drop_of_length_le (by omega)] at hch
      have CH := Lib.hid hch
      clear hch hl1
      go_wp2_with fail
      go_ret
      exact ⟨by rw [CH.out]; rfl, _, rfl⟩
    case pos =>
      have hltI : (n : Int) < L.length := by omega
      obtain ⟨⟨s, q⟩, hd⟩ := get_of_lt hlt
      obtain ⟨g, o, c', hv, hg, hc⟩ := SlAt.dot HS.out (by omega)
      cases hv
      obtain ⟨c0, c1⟩ := hc n _ hd
      rw [check_step hd] at hch
      simp only at hch c0 c1
      by_cases h1 : isSite s
      case neg =>
        rw [if_pos h1] at hch
        have CH := Lib.hid hch
        clear hch hc hd hl1
        by_cases h2 : s < 1
        · clear h1
          go_wp2_with fail
          go_ret
          exact ⟨by rw [CH.out]; rfl, _, rfl⟩
        · have h3 : 16 < s := by unfold isSite at h1; omega
          clear h1
          go_wp2_with fail
          go_ret
          exact ⟨by rw [CH.out]; rfl, _, rfl⟩
      case pos =>
      rw [if_neg (fun h => h h1)] at hch
      have s1 : ¬ s < 1 := by unfold isSite at h1; omega
      have s2 : ¬ 16 < s := by unfold isSite at h1; omega
      clear h1
      by_cases h2 : q < 1 ∨ 2147483647 < q
      · rw [if_pos h2] at hch
        have CH := Lib.hid hch
        clear hch hc hd hl1
        by_cases h3 : q < 1
        · clear h2
          go_wp2_with fail
          go_ret
          exact ⟨by rw [CH.out]; rfl, _, rfl⟩
        · have h4 : 2147483647 < q := h2.resolve_left h3
          clear h2
          go_wp2_with fail
          go_ret
          exact ⟨by rw [CH.out]; rfl, _, rfl⟩
      rw [if_neg h2] at hch
      have h3 : ¬ q < 1 := fun h => h2 (.inl h)
      have h4 : ¬ 2147483647 < q := fun h => h2 (.inr h)
      clear h2
      have hnext : lastV L (n + 1) = s := lastV_next hd
      have HN := Lib.hid hnext
      clear hnext
      cases n with
      | zero =>
        have h5 : ¬ s ≤ lastV L 0 := by show ¬ s ≤ 0; omega
        rw [if_neg h5] at hch
        have CH := Lib.hid hch
        clear hch hc hd hl1 h5
        simp only [Nat.zero_mul, Nat.add_zero, Int.natCast_zero] at *
        go_wp2_with fail
        go_quiet (fail)
        go_wp2_with fail
        go_roundw
        case rel => exact ⟨1, _, by go_num, by omega, by rw [HN.out]; exact CH.out, fun _ => by rw [HN.out]; omega, rfl⟩
        case measure => simp [intOf] <;> omega
      | succ m =>
        obtain ⟨⟨s', q'⟩, hd'⟩ := get_of_lt (show m < L.length by omega)
        obtain ⟨d0, _⟩ := hc m _ hd'
        simp only at d0
        have hlast : lastV L (m + 1) = s' := lastV_next hd'
        rw [hlast] at hch
        clear hl1 hlast hc hd hd'
        have hm : IntKind.i64.wrap (m : Int) = m := by rw [IntKind.wrap_i64]; omega
        have hmI : (m : Int) < L.length := by omega
        have hm0 : (0 : Int) ≤ m := by omega
        have hpos : (0 : Int) < (m : Int) + 1 := by omega
        by_cases h5 : s ≤ s'
        · rw [if_pos h5] at hch
          have CH := Lib.hid hch
          clear hch
          go_wp2_with fail
          go_quiet (fail)
          go_wp2_with fail
          go_ret
          exact ⟨by rw [CH.out]; rfl, _, World.drewN_drewN _ _ _⟩
        · rw [if_neg h5] at hch
          have CH := Lib.hid hch
          clear hch
          go_wp2_with fail
          go_quiet (fail)
          go_wp2_with fail
          go_roundw
          case rel => exact ⟨m + 1 + 1, _, by go_num, by omega, by rw [HN.out]; exact CH.out, fun _ => by rw [HN.out]; omega, rfl⟩
          case measure => simp [intOf] <;> omega
theorem rvcheck_any {w : World} {v : Value} {L : List Dot} (h : SlAt dotE w v L) (hb : L.length ≤ 1000000000) : Calls Tryz.prog 51 #[v] w fun e w' => e = .returned (.int .i64 (chkV 0 L)) ∧ Kept (fun _ => False) w w' := (rvcheck_drew h hb).mono fun _ _ ⟨he, q, hq⟩ => ⟨he, hq ▸ (Kept.refl _ _).drewN q⟩
theorem rvcheck_grew {w : World} {v : Value} {L : List Dot} (h : SlAt dotE w v L) (hb : L.length ≤ 1000000000) : Calls Tryz.prog 51 #[v] w fun e w' => e = .returned (.int .i64 (chkV 0 L)) ∧ Grew w w' := (rvcheck_drew h hb).mono fun _ _ ⟨he, q, hq⟩ => ⟨he, hq ▸ ⟨q, #[], rfl⟩⟩
end Go.Proofs.YtjohljmpcblpjaaGreatDoor
namespace Go.Proofs.YtjohljmpcblpjaaGreatDoor.Pa
open Go.RowKit Go.Proofs.YtjohljmpcblpjaaGreatDoor.St Go.Proofs.YtjohljmpcblpjaaGreatDoor
/-- those that a vector has -/
def uptoL (B : List Dot) (l : List Ent) : List Ent := l.filter fun e => decide (hasV B e.v.dot)
theorem upto_snoc (B : List Dot) (l : List Ent) (x : Ent) : uptoL B (l ++ [x]) = if hasV B x.v.dot then uptoL B l ++ [x] else uptoL B l := by
  unfold uptoL
  rw [List.filter_append]
  by_cases h : hasV B x.v.dot
  · rw [if_pos h, List.filter_cons_of_pos (by simpa using h)]
    rfl
  · rw [if_neg h, List.filter_cons_of_neg (by simpa using h)]
    simp
theorem grow1_kept {w w' : World} {v v' : Value} (h : Grow1 w w' v v') : Kept (fun b => v.ownBlock = some b) w w' := by
  rcases h with ⟨_, h⟩ | ⟨_, h⟩
  · exact h
  · exact h.mono (fun _ _ h => h.elim)
set_option maxRecDepth 100000 in
set_option maxHeartbeats 4000000 in
theorem rupto_any {w : World} {lv bv : Value} {l : List Ent} {B : List Dot} (hl : SlAt entE w lv l) (hlen : l.length ≤ 1000000) (hB : SlAt dotE w bv B) (hBl : B.length ≤ 1000000000) (hc : chkV 0 B = 0) :
    Calls Tryz.prog 16 #[lv, bv] w fun e w' => (∃ u, e = .returned u ∧ w'.ownsRow w.heap.size 62 11 u (uptoL B l).length (entE.flat (uptoL B l))) ∧ Kept (fun _ => False) w w' := by
  obtain ⟨la, lc, rfl, _, _⟩ := hl.sl
  obtain ⟨ba, bc, rfl, _, _⟩ := hB.sl
  have HL := Lib.hid hl
  have HB := Lib.hid hB
  have CK := Lib.hid (rvcheck_any hB hBl)
  rw [hc] at CK
  clear hl hB hc
  go_enter Tryz.func16, Tryz.ntmps16
  go_wp2_with (go_at_call 51; refine CK.out.mono ?_; rintro e w0 ⟨rfl, hk0⟩)
  have K0 := Lib.hid hk0
  clear hk0
  go_loopw [5, 6] (fun uv iv wr => ∃ n : Nat, iv = .int .i64 n ∧ n ≤ l.length ∧ Kept (fun _ => False) w wr ∧ wr.ownsRow w.heap.size 62 11 uv (uptoL B (l.take n)).length (entE.flat (uptoL B (l.take n)))) (fun _ iv _ => l.length - (intOf iv).toNat)
  case atStart => exact ⟨0, rfl, Nat.zero_le _, K0.out, World.ownsRow_nil ..⟩
  case round =>
    obtain ⟨n, rfl, hn, hk, ho⟩ := hrel
    have hn0 : (0 : Int) ≤ n := by omega
    obtain ⟨ua, uc, hue⟩ := owns_sl ho
    subst hue
    have K1 := Lib.hid hk
    have OU := Lib.hid ho
    clear hk ho
    by_cases hlt : n < l.length
    case neg =>
      have hnl : ¬ (n : Int) < l.length := by omega
      have O9 := OU.out
      rw [List.take_of_length_le (by omega)] at O9
      have OO := Lib.hid O9
      clear O9
      go_wp2_with fail
      go_ret
      rw [List.take_of_length_le (by omega)]
      exact ⟨⟨_, rfl, OO.out⟩, K1.out⟩
    case pos =>
      have hnl : (n : Int) < l.length := by omega
      obtain ⟨x, hx⟩ := get_of_lt hlt
      have htk : l.take (n + 1) = l.take n ++ [x] := by rw [List.take_add_one, hx]; rfl
      obtain ⟨lg, lo, lc', e2, hcs⟩ := SlAt.opc (HL.out.kept K1.out) (by omega)
      cases e2
      have hc := hcs n x hx
      have UP := Lib.hid (upto_snoc B (l.take n) x)
      rw [← htk] at UP
      obtain ⟨⟨⟨ds, dq⟩, ⟨da, dn, dc⟩, kd, ⟨it, is⟩, ⟨rt, rs⟩, tx, ⟨ga, gn, gc⟩, st⟩, D, G⟩ := x
      obtain ⟨c0, c1, c2, c3, c4, c5, c6, c7, c8, c9, c10⟩ := hc
      have e1 : IntKind.i64.wrap ((n : Int) + 1) = (n : Int) + 1 := IntWalk.i64_in _ (by omega)
      have HS := Lib.hid (rhasV_any (HB.out.kept K1.out) hBl ⟨ds, dq⟩)
      have ML : Hid ((uptoL B (l.take n)).length ≤ 1000000) := Lib.hid (by
        have h1 : (uptoL B (l.take n)).length ≤ (l.take n).length := List.length_filter_le _ _
        rw [List.length_take] at h1
        omega)
      clear hcs hx htk
      by_cases hh : hasV B ⟨ds, dq⟩
      case neg =>
        rw [decide_eq_false hh] at HS
        have EQ : Hid (uptoL B (l.take (n + 1)) = uptoL B (l.take n)) := Lib.hid (UP.out.trans (if_neg hh))
        clear hh
        go_wp2_with (go_at_call 52; refine HS.out.mono ?_; rintro e w2 ⟨rfl, hk2⟩)
        go_roundw
        case rel => exact ⟨n + 1, by go_num, by omega, K1.out.trans hk2 fun _ _ h => h, by rw [EQ.out]; exact owns_keep OU.out hk2 fun _ _ h => h⟩
        case measure => simp [intOf]; omega
      case pos =>
        rw [decide_eq_true hh] at HS
        have EQ : Hid (uptoL B (l.take (n + 1)) = uptoL B (l.take n) ++ [⟨⟨⟨ds, dq⟩, ⟨da, dn, dc⟩, kd, ⟨it, is⟩, ⟨rt, rs⟩, tx, ⟨ga, gn, gc⟩, st⟩, D, G⟩]) := Lib.hid (UP.out.trans (if_pos hh))
        clear hh
        go_upto_region 8 with (go_at_call 52; refine HS.out.mono ?_; rintro e w2 ⟨rfl, hk2⟩; have K2 := Lib.hid hk2; have c0 := hk2.cell c0; have c1 := hk2.cell c1; have c2 := hk2.cell c2; have c3 := hk2.cell c3; have c4 := hk2.cell c4; have c5 := hk2.cell c5; have c6 := hk2.cell c6; have c7 := hk2.cell c7; have c8 := hk2.cell c8; have c9 := hk2.cell c9; have c10 := hk2.cell c10; clear hk2)
        have LIT : Hid (SlAt entE (w2.alloc (.cells #[.int .i64 ds, .int .i64 dq, .slice da dn dc, .int .i64 kd, .int .i64 it, .int .i64 is, .int .i64 rt, .int .i64 rs, .string tx, .slice ga gn gc, .int .i64 st] 62)) (.slice (some ⟨w2.heap.size, 0, none⟩) 1 1) [(⟨⟨⟨ds, dq⟩, ⟨da, dn, dc⟩, kd, ⟨it, is⟩, ⟨rt, rs⟩, tx, ⟨ga, gn, gc⟩, st⟩, D, G⟩ : Ent)]) := Lib.hid (SlAt.lit (E := entE) [⟨⟨⟨ds, dq⟩, ⟨da, dn, dc⟩, kd, ⟨it, is⟩, ⟨rt, rs⟩, tx, ⟨ga, gn, gc⟩, st⟩, D, G⟩] _ rfl (by show 1 ≤ maxLen; decide))
        have kx : Kept (fun _ => False) w2 (w2.alloc (.cells #[.int .i64 ds, .int .i64 dq, .slice da dn dc, .int .i64 kd, .int .i64 it, .int .i64 is, .int .i64 rt, .int .i64 rs, .string tx, .slice ga gn gc, .int .i64 st] 62)) := (Kept.refl _ _).alloc _
        have KX := Lib.hid ((K1.out.trans K2.out fun _ _ h => h).trans kx fun _ _ h => h)
        have OX := Lib.hid (owns_keep (owns_keep OU.out K2.out fun _ _ h => h) kx fun _ _ h => h)
        clear kx
        go_wp2_with (at_builtin; refine wpList_append_keeps entE rfl (.tmp 24) (.tmp 29) 22 rfl w.heap.size 62 _ 128 Tryz.underlying22 info_op rfl (by decide) rfl rfl OX.out LIT.out ML.out KX.out.size ?_; intro v3 w3 ho3 hg3)
        go_roundw
        case rel => exact ⟨n + 1, by go_num, by omega, KX.out.over (grow1_kept hg3) fun b hb => owns_new OX.out b hb, by rw [EQ.out, List.length_append]; exact ho3⟩
        case measure => simp [intOf]; omega
end Go.Proofs.YtjohljmpcblpjaaGreatDoor.Pa
