/- hearsayref7.Of, Get, Sum, Same. hearsayref7.Add. -/
import Derived.Test.YtaaeomapbigfgaaW36
import Derived.Test.YtaaeomapbigfgaaW8
namespace Go.Proofs.Ytaaeomapbigfgaa
open Go.RowKit Go.Proofs.Ytaaeomapbigfgaa.St
theorem run_index_row (f : Nat → Int) {n : Nat} (h : n < 17) (w : World) : (Instr.index 78 (.agg (cells f)) (.int .i64 n)).run Try.prog w = .ok (.int .i64 (f n)) w := by
  have h1 := cells_get f h
  have hI : (n : Int) < 17 := by omega
  simp [Instr.index, asIntOf, run_underlying Try.underlying78, part, isAgg, run_underlying Try.underlying3, Try.sizeOf3, h, h1, go_sem]
theorem rget_grew {w : World} {v : Value} {L : List Dot} (h : SlAt dotE w v L) (hb : L.length ≤ 1000000000) (s : Int) : Calls Try.prog 21 #[v, .int .i64 s] w fun e w' => e = .returned (.int .i64 (getV L s)) ∧ Grew w w' := by
  have ho := rsays_grew h hb
  unfold getV
  by_cases hi : isSite s
  · rw [if_pos hi]
    unfold isSite at hi
    obtain ⟨k, rfl⟩ : ∃ k : Nat, s = k := ⟨s.toNat, by omega⟩
    have h1 := hi.1
    have h2 := hi.2
    have hix := run_index_row (says L) (n := k) (by omega)
    rw [Int.toNat_natCast]
    clear hi
    go_enter Try.func21, Try.ntmps21
    go_wp2_with (go_at_call 34; refine ho.mono ?_; rintro e w1 ⟨rfl, hk1⟩)
    go_ret
    exact ⟨rfl, hk1⟩
  · rw [if_neg hi]
    by_cases h1 : 1 ≤ s
    · have h2 : ¬ s ≤ 16 := fun h => hi ⟨h1, h⟩
      clear hi
      go_enter Try.func21, Try.ntmps21
      go_wp2_with fail
      go_ret
      exact ⟨rfl, Grew.refl _⟩
    · clear hi
      go_enter Try.func21, Try.ntmps21
      go_wp2_with fail
      go_ret
      exact ⟨rfl, Grew.refl _⟩
theorem rget_any {w : World} {v : Value} {L : List Dot} (h : SlAt dotE w v L) (hb : L.length ≤ 1000000000) (s : Int) : Calls Try.prog 21 #[v, .int .i64 s] w fun e w' => e = .returned (.int .i64 (getV L s)) ∧ Kept (fun _ => False) w w' := (rget_grew h hb s).mono fun _ _ ⟨he, hg⟩ => ⟨he, hg.kept⟩
set_option maxRecDepth 100000 in
set_option maxHeartbeats 4000000 in
theorem rsum_any {w : World} {v : Value} {L : List Dot} (h : SlAt dotE w v L) (hb : L.length ≤ 1000000000) : Calls Try.prog 10 #[v] w fun e w' => e = .returned (.int .i64 (sumV L)) ∧ Kept (fun _ => False) w w' := by
  have ho := rsays_any h hb
  go_enter Try.func10, Try.ntmps10
  go_wp2_with (first
    | (refine wpList_store_row rfl 78 _ _ rfl w1.heap.size (cells (says L)) rfl rfl 78 zero17 P1.out (by rw [cells_size]; kernel_rfl) (by rw [cells_size]; rfl) (cells_one _) ?_)
    | (go_at_call 34; refine ho.mono ?_; rintro e w1 ⟨rfl, hk1⟩; have P1 := Lib.hid (Blk.new w1 78 zero17)))
  have B1 := P1.out.row (cells (says L))
  have K1 := Lib.hid ((hk1.alloc (.cells zero17 78)).setRow (g := w1.heap.size) (fun h => by have := hk1.size; omega) (cells (says L)))
  clear P1 hk1 ho
  generalize (w1.alloc (.cells zero17 78)).setRow w1.heap.size (cells (says L)) = w2 at *
  have B2 := Lib.hid B1
  clear B1
  go_loopw [4, 5] (fun nv iv wr => ∃ n : Nat, iv = .int .i64 n ∧ n ≤ 17 ∧ nv = .int .i64 (sumTo (says L) n) ∧ wr = w2) (fun _ iv _ => 17 - (intOf iv).toNat)
  case atStart => exact ⟨0, rfl, by decide, rfl, rfl⟩
  case round =>
    obtain ⟨n, rfl, hn, rfl, rfl⟩ := hrel
    have hn0 : (0 : Int) ≤ n := by omega
    by_cases hlt : n < 17
    case neg =>
      obtain rfl : n = 17 := by omega
      go_wp2_with fail
      go_ret
      exact ⟨rfl, K1.out⟩
    case pos =>
      have hI : (n : Int) < 17 := by omega
      have c0 := B2.out.cell' (cells_get (says L) hlt)
      have b1 := sumTo_bd (says L) (says_bd L) n
      have b2 := says_bd L n
      have hw : IntKind.i64.wrap (sumTo (says L) n + says L n) = sumTo (says L) (n + 1) := IntWalk.i64_in _ (by omega)
      clear b1 b2
      go_wp2_with fail
      go_roundw
      case rel => exact ⟨n + 1, by go_num, by omega, rfl, trivial⟩
      case measure => simp [intOf] <;> omega
theorem vecOf_from1 {f : Nat → Int} (h0 : ¬ 0 < f 0) : vecOf f 1 = [] := by
  rw [vecOf_succ, if_neg h0]; rfl
set_option maxRecDepth 100000 in
set_option maxHeartbeats 4000000 in
theorem rof_any (f : Nat → Int) (h0 : ¬ 0 < f 0) (w : World) : Calls Try.prog 40 #[.agg (cells f)] w fun e w' => ∃ v', e = .returned v' ∧ w'.ownsRow w.heap.size 27 2 v' (vecOf f 17).length (dotE.flat (vecOf f 17)) ∧ Kept (fun _ => False) w w' := by
  have B0 := Lib.hid (Blk.new w 78 (cells f))
  have K0 : Hid (Kept (fun _ => False) w (w.alloc (.cells (cells f) 78))) := Lib.hid ((Kept.refl _ _).alloc _)
  have V1 := Lib.hid (vecOf_from1 h0)
  clear h0
  go_enter Try.func40, Try.ntmps40
  go_wp2_with fail
  go_loopw [3, 4] (fun vv iv wr => ∃ n : Nat, iv = .int .i64 n ∧ 1 ≤ n ∧ n ≤ 17 ∧ wr.ownsRow w.heap.size 27 dotE.k vv (vecOf f n).length (dotE.flat (vecOf f n)) ∧ Blk wr w.heap.size 78 (cells f) ∧ Kept (fun _ => False) w wr) (fun _ iv _ => 17 - (intOf iv).toNat)
  case atStart => exact ⟨1, rfl, by decide, by decide, by rw [V1.out]; exact World.ownsRow_nil _ _ _ _, B0.out, K0.out⟩
  case round =>
    clear B0 K0
    obtain ⟨n, rfl, hn1, hn, ho, hb, hk⟩ := hrel
    have hn0 : (0 : Int) ≤ n := by omega
    by_cases hlt : n < 17
    case neg =>
      obtain rfl : n = 17 := by omega
      have HO := Lib.hid ho
      clear ho
      go_wp2_with fail
      go_ret
      exact ⟨_, rfl, HO.out, hk⟩
    case pos =>
      have hI : (n : Int) < 17 := by omega
      have hI2 : (n : Int) ≤ 16 := by omega
      have c0 := hb.cell' (cells_get f hlt)
      have hs := vecOf_succ f n
      have hl := vecOf_len f n
      by_cases hp : 0 < f n
      case neg =>
        rw [if_neg hp] at hs
        have HO := Lib.hid ho
        have HS := Lib.hid hs
        have HB := Lib.hid hb
        clear ho hs hl hb
        go_wp2_with fail
        go_roundw
        case rel => exact ⟨n + 1, by go_num, by omega, by omega, by rw [HS.out]; exact HO.out, HB.out, hk⟩
        case measure => simp [intOf] <;> omega
      case pos =>
        rw [if_pos hp] at hs
        generalize vecOf f n = V at *
        have HO := Lib.hid (show (wr.alloc (.cells #[.int .i64 n, .int .i64 (f n)] 27)).ownsRow w.heap.size 27 dotE.k _ V.length (dotE.flat V) from ho.alloc _)
        have HS := Lib.hid hs
        have HK := Lib.hid (hk.alloc (.cells #[.int .i64 n, .int .i64 (f n)] 27))
        have HB := Lib.hid (hb.alloc (.cells #[.int .i64 n, .int .i64 (f n)] 27))
        have NE := Lib.hid (own_blk_ne ho hb (of_decide_eq_true (by kernel_rfl)))
        have LD := Lib.hid (lit_dot wr n (f n))
        have hsz := Lib.hid (hk.size)
        have NW := Lib.hid (owns_new ho)
        clear ho hs hk hb
        go_wp2_with (at_builtin; (refine wpList_append_row dotE rfl (.tmp 13) (.tmp 19) 29 rfl w.heap.size 27 (.agg #[.int .i64 0, .int .i64 0]) 16 Try.underlying29 info_dot rfl rfl rfl HO.out LD.out (by unfold maxLen; simp; omega) (by simp; omega) (by have := hsz.out; simp; omega) ?_); (intro v2 w2 ho2 hk2; have K2 : Hid (Kept (fun _ => False) w w2) := Lib.hid (HK.out.trans hk2 (fun b hb e => by have := NW.out b e; omega)); have B2 := Lib.hid (hk2.blk (fun e => NE.out e) HB.out); have O2 := Lib.hid ho2; clear hk2 ho2))
        go_roundw
        case rel => exact ⟨n + 1, by go_num, by omega, by omega, by rw [HS.out]; exact O2.out, B2.out, K2.out⟩
        case measure => simp [intOf] <;> omega
end Go.Proofs.Ytaaeomapbigfgaa
namespace Go.Proofs.Ytaaeomapbigfgaa
open Go.RowKit Go.Proofs.Ytaaeomapbigfgaa.St
set_option maxRecDepth 100000 in
set_option maxHeartbeats 4000000 in
theorem radd_any {w : World} {v : Value} {L : List Dot} (h : SlAt dotE w v L) (hb : L.length ≤ 1000000000) (d : Dot) : Calls Try.prog 19 #[v, .agg #[.int .i64 d.site, .int .i64 d.seq]] w fun e w' =>
    ∃ v', e = .returned (.tuple #[v', .int .i64 (whyAdd L d)]) ∧ AddIs w w' L d v' ∧ Kept (fun _ => False) w w' := by
  obtain ⟨s, q⟩ := d
  have hk0 : Kept (fun _ => False) w (w.alloc (.cells #[.int .i64 s, .int .i64 q] 27)) := (Kept.refl _ _).alloc _
  have hB := Blk.new w 27 #[.int .i64 s, .int .i64 q]
  have b0 : (w.alloc (.cells #[.int .i64 s, .int .i64 q] 27)).cell? ⟨w.heap.size, 0, none⟩ = some (.int .i64 s) := hB.cell' (i := 0) rfl
  have b1 : (w.alloc (.cells #[.int .i64 s, .int .i64 q] 27)).cell? ⟨w.heap.size, 1, none⟩ = some (.int .i64 q) := hB.cell' (i := 1) rfl
  have KD := Lib.hid hk0
  have KD2 := hk0.drew
  have hg := Lib.hid (fun (w' : World) (hk : Kept (fun _ => False) w w') => rget_any (h.kept hk) hb s)
  have HO := Lib.hid (fun (w' : World) (hk : Kept (fun _ => False) w w') => rsays_any (h.kept hk) hb)
  have wa : whyAdd L ⟨s, q⟩ = if ¬ isSite s ∨ q < 1 then 1 else if 2147483647 < q then 17 else if q ≠ getV L s + 1 then 9 else 0 := rfl
  clear h hB hk0
  by_cases hs : isSite s
  case neg =>
    rw [if_pos (.inl hs)] at wa
    have WA := Lib.hid wa
    have hs3 : s < 1 ∨ 16 < s := by unfold isSite at hs; omega
    clear wa hs
    by_cases h5 : s < 1
    · clear hs3
      go_enter Try.func19, Try.ntmps19
      go_wp2_with fail
      go_ret2
      exact ⟨_, by rw [WA.out]; rfl, ⟨fun _ => rfl, fun h => by rw [WA.out] at h; cases h⟩, KD.out⟩
    · have h6 := hs3.resolve_left h5
      clear hs3
      go_enter Try.func19, Try.ntmps19
      go_wp2_with fail
      go_ret2
      exact ⟨_, by rw [WA.out]; rfl, ⟨fun _ => rfl, fun h => by rw [WA.out] at h; cases h⟩, KD.out⟩
  case pos =>
  have hs1 : ¬ s < 1 := by unfold isSite at hs; omega
  have hs2 : ¬ 16 < s := by unfold isSite at hs; omega
  by_cases h1 : q < 1
  · rw [if_pos (.inr h1)] at wa
    have WA := Lib.hid wa
    clear wa hs
    go_enter Try.func19, Try.ntmps19
    go_wp2_with fail
    go_ret2
    exact ⟨_, by rw [WA.out]; rfl, ⟨fun _ => rfl, fun h => by rw [WA.out] at h; cases h⟩, KD.out⟩
  rw [if_neg (fun h => by rcases h with h | h; exact h hs; exact h1 h)] at wa
  by_cases h2 : 2147483647 < q
  · rw [if_pos h2] at wa
    have WA := Lib.hid wa
    clear wa hs
    go_enter Try.func19, Try.ntmps19
    go_wp2_with fail
    go_ret2
    exact ⟨_, by rw [WA.out]; rfl, ⟨fun _ => rfl, fun h => by rw [WA.out] at h; cases h⟩, KD.out⟩
  rw [if_neg h2] at wa
  have gbd : 0 ≤ getV L s ∧ getV L s ≤ 2147483647 := by
    unfold getV
    by_cases h : isSite s
    · rw [if_pos h]; exact says_bd L _
    · rw [if_neg h]; exact ⟨by decide, by decide⟩
  have hw : IntKind.i64.wrap (getV L s + 1) = getV L s + 1 := IntWalk.i64_in _ (by omega)
  by_cases h3 : q = getV L s + 1
  case neg =>
    rw [if_pos h3] at wa
    have hq : (q == getV L s + 1) = false := beq_eq_false_iff_ne.2 h3
    have WA := Lib.hid wa
    generalize getV L s = gv at *
    clear wa hs gbd h3
    go_enter Try.func19, Try.ntmps19
    go_wp2_with fail
    go_region_held3 (fun w' => Kept (fun _ => False) w w' ∧ w'.cell? ⟨w.heap.size, 0, none⟩ = some (.int .i64 s) ∧ w'.cell? ⟨w.heap.size, 1, none⟩ = some (.int .i64 q)) (first | (with_reducible exact ⟨KD2, b0, b1⟩) | go_keep)
      (first | (go_simp; go_at_call 21; refine (hg.out _ KD2).mono ?_; rintro e w1 ⟨rfl, hk1⟩; have KE := KD2.trans hk1 (fun _ _ h => h); have b0 := hk1.cell b0; have b1 := hk1.cell b1))
    have KF : Hid (Kept (fun _ => False) w w1) := Lib.hid KE
    go_wp2_with fail
    go_ret2
    exact ⟨_, by rw [WA.out]; rfl, ⟨fun _ => rfl, fun h => by rw [WA.out] at h; cases h⟩, KF.out⟩
  case pos =>
    rw [if_neg (fun h => h h3)] at wa
    have hq : (q == getV L s + 1) = true := beq_iff_eq.2 h3
    have WA := Lib.hid wa
    generalize getV L s = gv at *
    unfold isSite at hs
    obtain ⟨k, rfl⟩ : ∃ k : Nat, s = k := ⟨s.toNat, by omega⟩
    have hkI : (k : Int) < 17 := by omega
    have hk17 : k < 17 := by omega
    have hk0 : (0 : Int) ≤ k := by omega
    have Q3 := Lib.hid h3
    clear wa hs gbd h3
    go_enter Try.func19, Try.ntmps19
    go_wp2_with fail
    go_region_held3 (fun w' => Kept (fun _ => False) w w' ∧ w'.cell? ⟨w.heap.size, 0, none⟩ = some (.int .i64 k) ∧ w'.cell? ⟨w.heap.size, 1, none⟩ = some (.int .i64 q)) (first | (with_reducible exact ⟨KD2, b0, b1⟩) | go_keep)
      (first | (go_simp; go_at_call 21; refine (hg.out _ KD2).mono ?_; rintro e w1 ⟨rfl, hk1⟩; have KE := KD2.trans hk1 (fun _ _ h => h); have b0 := hk1.cell b0; have b1 := hk1.cell b1))
    have KF : Hid (Kept (fun _ => False) w w1) := Lib.hid KE
    have C0 := Lib.hid b0
    have C1 := Lib.hid b1
    clear b0 b1
    go_wp2_with (first
      | (refine wpList_load_row rfl 78 _ rfl w2.heap.size rfl 78 _ (0, 0) _ ((P2.out.row (cells (says L))).set_ k (.int .i64 q)) Try.underlying78 rfl (by rw [cells_add, cells_size]; kernel_rfl) ?_)
      | (refine wpList_store_row rfl 78 _ _ rfl w2.heap.size (cells (says L)) rfl rfl 78 zero17 P2.out (by rw [cells_size]; kernel_rfl) (by rw [cells_size]; rfl) (cells_one _) ?_; have f2 := (P2.out.row (cells (says L))).frozen k; have c2 := (P2.out.row (cells (says L))).cell' (cells_get (says L) hk17))
      | (go_at_call 34; refine (HO.out _ KF.out).mono ?_; rintro e w2 ⟨rfl, hk2⟩; have P2 := Lib.hid (Blk.new w2 78 zero17); have KG := Lib.hid (KF.out.trans hk2 (fun _ _ h => h)); have b0 := ((hk2.alloc (.cells zero17 78)).setRow (g := w2.heap.size) (fun h => by have := hk2.size; omega) (cells (says L))).cell C0.out; have b1 := ((hk2.alloc (.cells zero17 78)).setRow (g := w2.heap.size) (fun h => by have := hk2.size; omega) (cells (says L))).cell C1.out)
      | (go_at_call 40; rw [cells_add]; refine (rof_any _ (fun h => by have h : 0 < if ((0 : Nat) : Int) = (k : Int) then q else says L 0 := h; rw [if_neg (by omega), says_out L 0 (by decide)] at h; omega) _).mono ?_; rintro e w4 ⟨v4, rfl, ho4, hk4⟩))
    have K3 := ((KG.out.alloc (.cells zero17 78)).setRow (g := w2.heap.size) (fun h => by have := KG.out.size; omega) (cells (says L))).setCell (p := ⟨w2.heap.size, k, none⟩) (fun h => by have h : w2.heap.size < w.heap.size := h; have := KG.out.size; omega) (.int .i64 q)
    go_ret2
    exact ⟨_, by rw [WA.out]; rfl, ⟨fun h => absurd WA.out h, fun _ => owns_lower ho4 K3.size⟩, K3.trans hk4 (fun _ _ h => h)⟩
end Go.Proofs.Ytaaeomapbigfgaa
