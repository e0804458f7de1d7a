/- hearsayref7.Says. hearsayref7.Of, Get, Sum, Same. hearsayref7.Merge. -/
import Derived.Test.YtaaeomapbigfgaaGreatV4
namespace Go.Proofs.YtaaeomapbigfgaaGreat
open Go.RowKit Go.Proofs.YtaaeomapbigfgaaGreat.St
theorem sayS_low {f : Nat → Int} {k : Nat} {q : Int} (h : ¬ f k < q) : sayS f ⟨k, q⟩ = f := by
  funext i
  unfold sayS
  by_cases hi : (⟨k, q⟩ : Dot).Ok ∧ (⟨k, q⟩ : Dot).site = i
  · rw [if_pos hi]
    have e : (k : Int) = i := hi.2
    obtain rfl : k = i := by omega
    exact if_neg h
  · rw [if_neg hi]
theorem sayS_high {f : Nat → Int} {k : Nat} {q : Int} (h : (⟨k, q⟩ : Dot).Ok) (hlt : f k < q) : (cells f).setIfInBounds k (.int .i64 q) = cells (sayS f ⟨k, q⟩) := by
  rw [← says_cells h, if_pos hlt]
set_option maxRecDepth 100000 in
set_option maxHeartbeats 4000000 in
theorem rsays_grew {w : World} {v : Value} {L : List Dot} (h : SlAt dotE w v L) (hb : L.length ≤ 1000000000) : Calls Tryz.prog 51 #[v] w fun e w' => e = .returned (.agg (cells (says L))) ∧ Grew w w' := by
  obtain ⟨a, c, rfl, _, _⟩ := h.sl
  have HS := Lib.hid h
  clear h
  go_enter Tryz.func51, Tryz.ntmps51
  go_wp2_with fail
  go_loopw [4] (fun iv wr => ∃ n : Nat, iv = .int .i64 n ∧ n ≤ L.length ∧ Blk wr (w.heap.size + 1) 89 (cells (says (L.take n))) ∧ Blk wr w.heap.size 89 (cells fun _ => 0) ∧ Grew w wr) (fun iv _ => L.length - (intOf iv).toNat)
  case atStart =>
    refine ⟨0, rfl, Nat.zero_le _, ?_, (Blk.new _ _ _).alloc _, ((Grew.refl _).alloc _).alloc _⟩
    have := Blk.new (w.alloc (.cells (cells fun _ => 0) 89)) 89 (cells fun _ => 0)
    rw [show (w.alloc (.cells (cells fun _ => 0) 89)).heap.size = w.heap.size + 1 by simp] at this
    exact this
  case round =>
    obtain ⟨n, rfl, hn, hs, hr, hk⟩ := hrel
    have hn0 : (0 : Int) ≤ n := by omega
    by_cases hlt : n < L.length
    case neg =>
      have hnl : ¬ (n : Int) < L.length := by omega
      rw [List.take_of_length_le (by omega)] at hs
      have HS' := Lib.hid hs
      have HR := Lib.hid hr
      have x3 := Lib.hid (hk.setRow (g := w.heap.size) (Nat.le_refl _) (cells (says L)))
      clear hs hr hk
      go_wp2_with (first
        | (refine wpList_load_row rfl 89 _ rfl (w.heap.size + 1) rfl 89 _ (0, 0) _ HS'.out Tryz.underlying89 rfl (by rw [cells_size]; kernel_rfl) ?_)
        | (refine wpList_store_row rfl 89 _ _ rfl w.heap.size (cells (says L)) rfl rfl 89 _ HR.out (by rw [cells_size]; kernel_rfl) (by rw [cells_size, cells_size]) (cells_one _) ?_))
      exact bodyPost_ret (Blk.result rfl _ (HR.out.row _) rfl Tryz.underlying89 rfl (by rw [cells_size]; kernel_rfl)) rfl ⟨rfl, x3.out⟩
    case pos =>
      have hltI : (n : Int) < L.length := by omega
      obtain ⟨d, hd⟩ := get_of_lt hlt
      obtain ⟨g, o, c', hv, hg, hc⟩ := SlAt.dot (HS.out.kept hk.kept) (by omega)
      cases hv
      obtain ⟨c0, c1⟩ := hc n d hd
      have hsay := Lib.hid (says_take hd)
      generalize says (L.take n) = f at *
      obtain ⟨ds, dq⟩ := d
      simp only at c0 c1
      have K0 := Lib.hid (hk.alloc (.cells #[.int .i64 ds, .int .i64 dq] 28))
      have FS := Lib.hid (hs.alloc (.cells #[.int .i64 ds, .int .i64 dq] 28))
      have FR := Lib.hid (hr.alloc (.cells #[.int .i64 ds, .int .i64 dq] 28))
      have BX := Blk.new wr 28 #[.int .i64 ds, .int .i64 dq]
      have x0 : (wr.alloc (.cells #[.int .i64 ds, .int .i64 dq] 28)).cell? ⟨wr.heap.size, 0, none⟩ = some (.int .i64 ds) := BX.cell' (i := 0) rfl
      have x1 : (wr.alloc (.cells #[.int .i64 ds, .int .i64 dq] 28)).cell? ⟨wr.heap.size, 1, none⟩ = some (.int .i64 dq) := BX.cell' (i := 1) rfl
      clear hc hd hs hr hk BX
      by_cases hok : (⟨ds, dq⟩ : Dot).Ok
      case neg =>
        have S1 : Hid (says (L.take (n + 1)) = f) := Lib.hid (by rw [hsay.out, sayS_none hok])
        clear hsay
        by_cases h1 : 1 ≤ ds
        by_cases h2 : ds ≤ 16
        by_cases h3 : 1 ≤ dq
        by_cases h4 : dq ≤ 2147483647
        · exact absurd ⟨h1, h2, h3, h4⟩ hok
        all_goals
          clear hok
          try (have e1 := decide_eq_true h1)
          try (have e2 := decide_eq_true h2)
          try (have e3 := decide_eq_true h3)
          try (have e1 := decide_eq_false h1)
          try (have e2 := decide_eq_false h2)
          try (have e3 := decide_eq_false h3)
          try (have e4 := decide_eq_false h4)
          go_wp2_with fail
          go_region
          go_wp2_with fail
          go_roundw
          focus
            exact ⟨n + 1, by go_num, by omega, by rw [S1.out]; exact FS.out.drewN 1, FR.out.drewN 1, K0.out.drewN 1⟩
          focus
            simp [intOf] <;> omega
      case pos =>
        have hok' := hok
        unfold Dot.Ok at hok'
        simp only at hok'
        obtain ⟨k, rfl⟩ : ∃ k : Nat, ds = k := ⟨ds.toNat, by omega⟩
        have h1 := hok'.1
        have h2 := hok'.2.1
        have h3 := hok'.2.2.1
        have h4 := hok'.2.2.2
        have hkl : k < 17 := by omega
        have hkI : (k : Int) < 17 := by omega
        have hk0 : (0 : Int) ≤ k := by omega
        have s0 := FS.out.cell' (cells_get f hkl)
        have fz := FS.out.frozen k
        have OK := Lib.hid hok
        clear hok' hok
        by_cases h5 : f k < dq
        · have S1 := Lib.hid (sayS_high OK.out h5)
          go_wp2_with fail
          have hsz := FS.out.lt
          go_region
          go_wp2_with fail
          go_roundw
          case rel =>
            refine ⟨n + 1, by go_num, by omega, ?_, (FR.out.far (by show w.heap.size ≠ w.heap.size + 1; omega) _).drewN 1, (K0.out.setCell (by show w.heap.size ≤ w.heap.size + 1; omega) _).drewN 1⟩
            rw [hsay.out, ← S1.out]
            exact (FS.out.set_ k _).drewN 1
          case measure => simp [intOf] <;> omega
        · have S1 : Hid (says (L.take (n + 1)) = f) := Lib.hid (by rw [hsay.out, sayS_low h5])
          clear hsay
          go_wp2_with fail
          go_region
          go_wp2_with fail
          go_roundw
          case rel => exact ⟨n + 1, by go_num, by omega, by rw [S1.out]; exact FS.out.drewN 1, FR.out.drewN 1, K0.out.drewN 1⟩
          case measure => simp [intOf] <;> omega
theorem rsays_any {w : World} {v : Value} {L : List Dot} (h : SlAt dotE w v L) (hb : L.length ≤ 1000000000) : Calls Tryz.prog 51 #[v] w fun e w' => e = .returned (.agg (cells (says L))) ∧ Kept (fun _ => False) w w' := (rsays_grew h hb).mono fun _ _ ⟨he, hg⟩ => ⟨he, hg.kept⟩
end Go.Proofs.YtaaeomapbigfgaaGreat
namespace Go.Proofs.YtaaeomapbigfgaaGreat
open Go.RowKit Go.Proofs.YtaaeomapbigfgaaGreat.St
theorem run_index_row (f : Nat → Int) {n : Nat} (h : n < 17) (w : World) : (Instr.index 89 (.agg (cells f)) (.int .i64 n)).run Tryz.prog w = .ok (.int .i64 (f n)) w := by
  have h1 := cells_get f h
  have hI : (n : Int) < 17 := by omega
  simp [Instr.index, asIntOf, run_underlying Tryz.underlying89, part, isAgg, run_underlying Tryz.underlying3, Tryz.sizeOf3, h, h1, go_sem]
theorem rget_grew {w : World} {v : Value} {L : List Dot} (h : SlAt dotE w v L) (hb : L.length ≤ 1000000000) (s : Int) : Calls Tryz.prog 21 #[v, .int .i64 s] w fun e w' => e = .returned (.int .i64 (getV L s)) ∧ Grew w w' := by
  have ho := rsays_grew h hb
  unfold getV
  by_cases hi : isSite s
  · rw [if_pos hi]
    unfold isSite at hi
    obtain ⟨k, rfl⟩ : ∃ k : Nat, s = k := ⟨s.toNat, by omega⟩
    have h1 := hi.1
    have h2 := hi.2
    have hix := run_index_row (says L) (n := k) (by omega)
    rw [Int.toNat_natCast]
    clear hi
    go_enter Tryz.func21, Tryz.ntmps21
    go_wp2_with (go_at_call 51; refine ho.mono ?_; rintro e w1 ⟨rfl, hk1⟩)
    go_ret
    exact ⟨rfl, hk1⟩
  · rw [if_neg hi]
    by_cases h1 : 1 ≤ s
    · have h2 : ¬ s ≤ 16 := fun h => hi ⟨h1, h⟩
      clear hi
      go_enter Tryz.func21, Tryz.ntmps21
      go_wp2_with fail
      go_ret
      exact ⟨rfl, Grew.refl _⟩
    · clear hi
      go_enter Tryz.func21, Tryz.ntmps21
      go_wp2_with fail
      go_ret
      exact ⟨rfl, Grew.refl _⟩
theorem rget_any {w : World} {v : Value} {L : List Dot} (h : SlAt dotE w v L) (hb : L.length ≤ 1000000000) (s : Int) : Calls Tryz.prog 21 #[v, .int .i64 s] w fun e w' => e = .returned (.int .i64 (getV L s)) ∧ Kept (fun _ => False) w w' := (rget_grew h hb s).mono fun _ _ ⟨he, hg⟩ => ⟨he, hg.kept⟩
set_option maxRecDepth 100000 in
set_option maxHeartbeats 4000000 in
theorem rsum_any {w : World} {v : Value} {L : List Dot} (h : SlAt dotE w v L) (hb : L.length ≤ 1000000000) : Calls Tryz.prog 28 #[v] w fun e w' => e = .returned (.int .i64 (sumV L)) ∧ Kept (fun _ => False) w w' := by
  have ho := rsays_any h hb
  go_enter Tryz.func28, Tryz.ntmps28
  go_wp2_with (first
    | (refine wpList_store_row rfl 89 _ _ rfl w1.heap.size (cells (says L)) rfl rfl 89 zero17 P1.out (by rw [cells_size]; kernel_rfl) (by rw [cells_size]; rfl) (cells_one _) ?_)
    | (go_at_call 51; refine ho.mono ?_; rintro e w1 ⟨rfl, hk1⟩; have P1 := Lib.hid (Blk.new w1 89 zero17)))
  have B1 := P1.out.row (cells (says L))
  have K1 := Lib.hid ((hk1.alloc (.cells zero17 89)).setRow (g := w1.heap.size) (fun h => by have := hk1.size; omega) (cells (says L)))
  clear P1 hk1 ho
  generalize (w1.alloc (.cells zero17 89)).setRow w1.heap.size (cells (says L)) = w2 at *
  have B2 := Lib.hid B1
  clear B1
  go_loopw [4, 5] (fun nv iv wr => ∃ n : Nat, iv = .int .i64 n ∧ n ≤ 17 ∧ nv = .int .i64 (sumTo (says L) n) ∧ wr = w2) (fun _ iv _ => 17 - (intOf iv).toNat)
  case atStart => exact ⟨0, rfl, by decide, rfl, rfl⟩
  case round =>
    obtain ⟨n, rfl, hn, rfl, rfl⟩ := hrel
    have hn0 : (0 : Int) ≤ n := by omega
    by_cases hlt : n < 17
    case neg =>
      obtain rfl : n = 17 := by omega
      go_wp2_with fail
      go_ret
      exact ⟨rfl, K1.out⟩
    case pos =>
      have hI : (n : Int) < 17 := by omega
      have c0 := B2.out.cell' (cells_get (says L) hlt)
      have b1 := sumTo_bd (says L) (says_bd L) n
      have b2 := says_bd L n
      have hw : IntKind.i64.wrap (sumTo (says L) n + says L n) = sumTo (says L) (n + 1) := IntWalk.i64_in _ (by omega)
      clear b1 b2
      go_wp2_with fail
      go_roundw
      case rel => exact ⟨n + 1, by go_num, by omega, rfl, trivial⟩
      case measure => simp [intOf] <;> omega
theorem vecOf_from1 {f : Nat → Int} (h0 : ¬ 0 < f 0) : vecOf f 1 = [] := by
  rw [vecOf_succ, if_neg h0]; rfl
set_option maxRecDepth 100000 in
set_option maxHeartbeats 4000000 in
theorem rof_any (f : Nat → Int) (h0 : ¬ 0 < f 0) (w : World) : Calls Tryz.prog 52 #[.agg (cells f)] w fun e w' => ∃ v', e = .returned v' ∧ w'.ownsRow w.heap.size 28 2 v' (vecOf f 17).length (dotE.flat (vecOf f 17)) ∧ Kept (fun _ => False) w w' := by
  have B0 := Lib.hid (Blk.new w 89 (cells f))
  have K0 : Hid (Kept (fun _ => False) w (w.alloc (.cells (cells f) 89))) := Lib.hid ((Kept.refl _ _).alloc _)
  have V1 := Lib.hid (vecOf_from1 h0)
  clear h0
  go_enter Tryz.func52, Tryz.ntmps52
  go_wp2_with fail
  go_loopw [3, 4] (fun vv iv wr => ∃ n : Nat, iv = .int .i64 n ∧ 1 ≤ n ∧ n ≤ 17 ∧ wr.ownsRow w.heap.size 28 dotE.k vv (vecOf f n).length (dotE.flat (vecOf f n)) ∧ Blk wr w.heap.size 89 (cells f) ∧ Kept (fun _ => False) w wr) (fun _ iv _ => 17 - (intOf iv).toNat)
  case atStart => exact ⟨1, rfl, by decide, by decide, by rw [V1.out]; exact World.ownsRow_nil _ _ _ _, B0.out, K0.out⟩
  case round =>
    clear B0 K0
    obtain ⟨n, rfl, hn1, hn, ho, hb, hk⟩ := hrel
    have hn0 : (0 : Int) ≤ n := by omega
    by_cases hlt : n < 17
    case neg =>
      obtain rfl : n = 17 := by omega
      have HO := Lib.hid ho
      clear ho
      go_wp2_with fail
      go_ret
      exact ⟨_, rfl, HO.out, hk⟩
    case pos =>
      have hI : (n : Int) < 17 := by omega
      have hI2 : (n : Int) ≤ 16 := by omega
      have c0 := hb.cell' (cells_get f hlt)
      have hs := vecOf_succ f n
      have hl := vecOf_len f n
      by_cases hp : 0 < f n
      case neg =>
        rw [if_neg hp] at hs
        have HO := Lib.hid ho
        have HS := Lib.hid hs
        have HB := Lib.hid hb
        clear ho hs hl hb
        go_wp2_with fail
        go_roundw
        case rel => exact ⟨n + 1, by go_num, by omega, by omega, by rw [HS.out]; exact HO.out, HB.out, hk⟩
        case measure => simp [intOf] <;> omega
      case pos =>
        rw [if_pos hp] at hs
        generalize vecOf f n = V at *
        have HO := Lib.hid (show (wr.alloc (.cells #[.int .i64 n, .int .i64 (f n)] 28)).ownsRow w.heap.size 28 dotE.k _ V.length (dotE.flat V) from ho.alloc _)
        have HS := Lib.hid hs
        have HK := Lib.hid (hk.alloc (.cells #[.int .i64 n, .int .i64 (f n)] 28))
        have HB := Lib.hid (hb.alloc (.cells #[.int .i64 n, .int .i64 (f n)] 28))
        have NE := Lib.hid (own_blk_ne ho hb (of_decide_eq_true (by kernel_rfl)))
        have LD := Lib.hid (lit_dot wr n (f n))
        have hsz := Lib.hid (hk.size)
        have NW := Lib.hid (owns_new ho)
        clear ho hs hk hb
        go_wp2_with (at_builtin; (refine wpList_append_row dotE rfl (.tmp 13) (.tmp 19) 23 rfl w.heap.size 28 (.agg #[.int .i64 0, .int .i64 0]) 16 Tryz.underlying23 info_dot rfl rfl rfl HO.out LD.out (by unfold maxLen; simp; omega) (by simp; omega) (by have := hsz.out; simp; omega) ?_); (intro v2 w2 ho2 hk2; have K2 : Hid (Kept (fun _ => False) w w2) := Lib.hid (HK.out.trans hk2 (fun b hb e => by have := NW.out b e; omega)); have B2 := Lib.hid (hk2.blk (fun e => NE.out e) HB.out); have O2 := Lib.hid ho2; clear hk2 ho2))
        go_roundw
        case rel => exact ⟨n + 1, by go_num, by omega, by omega, by rw [HS.out]; exact O2.out, B2.out, K2.out⟩
        case measure => simp [intOf] <;> omega
end Go.Proofs.YtaaeomapbigfgaaGreat
namespace Go.Proofs.YtaaeomapbigfgaaGreat
open Go.RowKit Go.Proofs.YtaaeomapbigfgaaGreat.St
def mergeV (A B : List Dot) : List Dot := vecOf (maxV A B) 17
set_option maxRecDepth 100000 in
set_option maxHeartbeats 4000000 in
theorem rmerge_any {w : World} {va vb : Value} {A B : List Dot} (ha : SlAt dotE w va A) (hb : SlAt dotE w vb B) (hla : A.length ≤ 1000000000) (hlb : B.length ≤ 1000000000) :
    Calls Tryz.prog 19 #[va, vb] w fun e w' => ∃ v', e = .returned v' ∧ w'.ownsRow w.heap.size 28 2 v' (mergeV A B).length (dotE.flat (mergeV A B)) ∧ Kept (fun _ => False) w w' := by
  have hoa := rsays_any ha hla
  have HB := Lib.hid hb
  clear hb
  have HM0 : Hid (¬ 0 < maxV A B 0) := Lib.hid (by unfold maxV; rw [says_out A 0 (by decide), says_out B 0 (by decide)]; decide)
  go_enter Tryz.func19, Tryz.ntmps19
  go_upto_region 2 with (first
      | (refine wpList_store_row rfl 89 _ _ rfl w1.heap.size (cells (says A)) rfl rfl 89 zero17 P1.out (by rw [cells_size]; kernel_rfl) (by rw [cells_size]; rfl) (cells_one _) ?_)
      | (go_at_call 51; refine hoa.mono ?_; rintro e w1 ⟨rfl, hk1⟩; have P1 := Lib.hid (Blk.new w1 89 zero17)))
  have Q1 := Lib.hid (P1.out.row (cells (says A)))
  have s1 := hk1.size
  have k1 : Kept (fun _ => False) w ((w1.alloc (.cells zero17 89)).setRow w1.heap.size (cells (says A))) := (hk1.alloc _).setRow (fun h => by omega) _
  have K1 := Lib.hid k1
  clear P1 hk1 hoa k1
  generalize (w1.alloc (.cells zero17 89)).setRow w1.heap.size (cells (says A)) = w2 at *
  go_upto_region 3 with (first
      | (refine wpList_store_row rfl 89 _ _ rfl w3.heap.size (cells (says B)) rfl rfl 89 zero17 P3.out (by rw [cells_size]; kernel_rfl) (by rw [cells_size]; rfl) (cells_one _) ?_)
      | (go_at_call 51; refine (rsays_any (HB.out.kept K1.out) hlb).mono ?_; rintro e w3 ⟨rfl, hk3⟩; have P3 := Lib.hid (Blk.new w3 89 zero17)))
  have s3 := hk3.size
  have l1 := Q1.out.lt
  have Q3 := Lib.hid (P3.out.row (cells (says B)))
  have Q1' := Lib.hid (((hk3.blk (fun h => h) Q1.out).alloc (.cells zero17 89)).row_far (g := w3.heap.size) (by omega) (cells (says B)))
  have K3 := Lib.hid (((K1.out.trans hk3 (fun _ _ h => h)).alloc (.cells zero17 89)).setRow (g := w3.heap.size) (fun h => by have := K1.out.size; omega) (cells (says B)))
  have hne : w1.heap.size < w3.heap.size := by omega
  clear P3 hk3 Q1 K1 l1 s3
  generalize (w3.alloc (.cells zero17 89)).setRow w3.heap.size (cells (says B)) = w4 at *
  go_wp2_with fail
  go_loopw [7] (fun iv wr => ∃ n : Nat, iv = .int .i64 n ∧ n ≤ 17 ∧ Blk wr w1.heap.size 89 (cells fun i => if i < n then maxV A B i else says A i) ∧ Blk wr w3.heap.size 89 (cells (says B)) ∧ Kept (fun _ => False) w wr) (fun iv _ => 17 - (intOf iv).toNat)
  case atStart => exact ⟨0, rfl, by decide, Q1'.out, Q3.out, K3.out⟩
  case round =>
    clear K3 Q1' Q3
    obtain ⟨n, rfl, hn, h1, h2, hk⟩ := hrel
    have hn0 : (0 : Int) ≤ n := by omega
    by_cases hlt : n < 17
    case neg =>
      obtain rfl : n = 17 := by omega
      have e : cells (fun i => if i < 17 then maxV A B i else says A i) = cells (maxV A B) := cells_congr fun i hi => if_pos hi
      rw [e] at h1
      have H1 := Lib.hid h1
      have HK := Lib.hid hk
      have hof := rof_any (maxV A B) (fun h => by have := HM0.out; omega) wr
      clear h1 h2 hk e
      go_wp2_with (first
        | (refine wpList_load_row rfl 89 _ rfl w1.heap.size rfl 89 _ (0, 0) _ H1.out Tryz.underlying89 rfl (by rw [cells_size]; kernel_rfl) ?_)
        | (go_at_call 52; refine hof.mono ?_; rintro e w5 ⟨v5, rfl, ho5, hk5⟩))
      go_ret
      exact ⟨_, rfl, owns_lower ho5 HK.out.size, HK.out.trans hk5 (fun _ _ h => h)⟩
    case pos =>
      have hI : (n : Int) < 17 := by omega
      have c1 : wr.cell? ⟨w1.heap.size, n, none⟩ = some (.int .i64 (says A n)) := by
        have := h1.cell' (cells_get _ hlt)
        rwa [if_neg (Nat.lt_irrefl n)] at this
      have c2 := h2.cell' (cells_get (says B) hlt)
      have f1 := h1.frozen n
      have H1 := Lib.hid h1
      have H2 := Lib.hid h2
      have HK := Lib.hid hk
      have MX : (if says A n < says B n then says B n else says A n) = maxV A B n := rfl
      generalize hmx : maxV A B n = mx at *
      have MX2 := Lib.hid hmx
      clear h1 h2 hk hmx
      go_wp2_with fail
      go_region
      all_goals
        go_wp2_with fail
        go_roundw
        focus
          refine ⟨n + 1, by go_num, by omega, ?_, ((H2.out.far (by show w3.heap.size ≠ w1.heap.size; omega) _).drewN 1), (HK.out.setCell (fun h => by have h : w1.heap.size < w.heap.size := h; omega) _).drewN 1⟩
          have := (H1.out.set_ n (.int .i64 mx)).drewN 1
          rw [cells_set, ← MX2.out, max_next] at this
          rw [← MX2.out]
          exact this
        focus
          simp [intOf] <;> omega
end Go.Proofs.YtaaeomapbigfgaaGreat
