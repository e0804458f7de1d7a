/- vector.Get, Has, Sum; with and Covers. -/
import Derived.Test.YtaaeomapbigfgaaVeVec
import Derived.Deep.RegionHeld3
namespace Go.Proofs.Ytaaeomapbigfgaa
open Go.RowKit Go.Proofs.Ytaaeomapbigfgaa.St
theorem greater_any (x y : Int) (w : World) : Calls Try.prog 54 #[.int .i64 x, .int .i64 y] w fun e w' => e = .returned (.int .i64 (if x < y then y else x)) ∧ w' = w := by
  go_enter Try.func54, Try.ntmps54
  by_cases h : x < y
  · rw [if_pos h]
    go_wp2_with fail
    go_ret
    exact ⟨rfl, rfl⟩
  · rw [if_neg h]
    go_wp2_with fail
    go_ret
    exact ⟨rfl, rfl⟩
theorem get_grew {w : World} {v : Value} {L : List Dot} (h : SlAt dotE w v L) (hb : L.length ≤ 1000000000) (s : Int) : Calls Try.prog 43 #[v, .int .i64 s] w fun e w' => e = .returned (.int .i64 (getV L s)) ∧ Grew w w' := by
  have hs := site_any s
  have ho := of_grew h hb
  unfold getV
  go_enter Try.func43, Try.ntmps43
  by_cases hi : isSite s
  · rw [decide_eq_true hi] at hs
    rw [if_pos hi]
    unfold isSite at hi
    obtain ⟨k, rfl⟩ : ∃ k : Nat, s = k := ⟨s.toNat, by omega⟩
    have hix := run_index_cells (says L) (n := k) (by omega)
    rw [Int.toNat_natCast]
    go_wp2_with (first
      | (go_at_call 41; refine (hs _).mono ?_; rintro e w1 ⟨rfl, rfl⟩)
      | (go_at_call 52; refine ho.mono ?_; rintro e w1 ⟨rfl, hk1⟩))
    go_ret
    exact ⟨rfl, hk1⟩
  · rw [decide_eq_false hi] at hs
    rw [if_neg hi]
    go_wp2_with (go_at_call 41; refine (hs _).mono ?_; rintro e w1 ⟨rfl, rfl⟩)
    go_ret
    exact ⟨rfl, Grew.refl _⟩
theorem get_any {w : World} {v : Value} {L : List Dot} (h : SlAt dotE w v L) (hb : L.length ≤ 1000000000) (s : Int) : Calls Try.prog 43 #[v, .int .i64 s] w fun e w' => e = .returned (.int .i64 (getV L s)) ∧ Kept (fun _ => False) w w' := (get_grew h hb s).mono fun _ _ ⟨he, hg⟩ => ⟨he, hg.kept⟩
theorem sumTo_bd (f : Nat → Int) (hf : ∀ i, 0 ≤ f i ∧ f i ≤ 2147483647) : ∀ n : Nat, 0 ≤ sumTo f n ∧ sumTo f n ≤ 2147483647 * n
  | 0 => by simp [sumTo]
  | n + 1 => by
    have := sumTo_bd f hf n
    have := hf n
    show 0 ≤ sumTo f n + f n ∧ sumTo f n + f n ≤ 2147483647 * ((n + 1 : Nat) : Int)
    omega
theorem sum_grew {w : World} {v : Value} {L : List Dot} (h : SlAt dotE w v L) (hb : L.length ≤ 1000000000) : Calls Try.prog 47 #[v] w fun e w' => e = .returned (.int .i64 (sumV L)) ∧ Grew w w' := by
  have ho := of_grew h hb
  go_enter Try.func47, Try.ntmps47
  go_wp2_with (go_at_call 52; refine ho.mono ?_; rintro e w1 ⟨rfl, hk1⟩)
  go_loopw [3, 8] (fun nv iv wr => ∃ n : Nat, iv = .int .i64 n ∧ n ≤ 17 ∧ nv = .int .i64 (sumTo (says L) n) ∧ wr = w1) (fun _ iv _ => 17 - (intOf iv).toNat)
  case atStart => exact ⟨0, rfl, by decide, rfl, rfl⟩
  case round =>
    obtain ⟨n, rfl, hn, rfl, rfl⟩ := hrel
    have hn0 : (0 : Int) ≤ n := by omega
    by_cases hlt : n < 17
    case neg =>
      obtain rfl : n = 17 := by omega
      go_wp2_with fail
      go_ret
      exact ⟨rfl, hk1⟩
    case pos =>
      have hI : (n : Int) < 17 := by omega
      have hix := run_index_cells (says L) hlt
      have b1 := sumTo_bd (says L) (says_bd L) n
      have b2 := says_bd L n
      have hw : IntKind.i64.wrap (sumTo (says L) n + says L n) = sumTo (says L) (n + 1) := IntWalk.i64_in _ (by omega)
      clear b1 b2
      go_wp2_with fail
      go_roundw
      case rel => exact ⟨n + 1, by go_num, by omega, rfl, trivial⟩
      case measure => simp [intOf] <;> omega
theorem sum_any {w : World} {v : Value} {L : List Dot} (h : SlAt dotE w v L) (hb : L.length ≤ 1000000000) : Calls Try.prog 47 #[v] w fun e w' => e = .returned (.int .i64 (sumV L)) ∧ Kept (fun _ => False) w w' := (sum_grew h hb).mono fun _ _ ⟨he, hg⟩ => ⟨he, hg.kept⟩
theorem hasV_any {w : World} {v : Value} {L : List Dot} (h : SlAt dotE w v L) (hb : L.length ≤ 1000000000) (d : Dot) : Calls Try.prog 25 #[v, .agg #[.int .i64 d.site, .int .i64 d.seq]] w fun e w' => e = .returned (.bool (decide (hasV L d))) ∧ Kept (fun _ => False) w w' := by
  have hg := Lib.hid (fun (w' : World) (hk : Kept (fun _ => False) w w') => get_any (h.kept hk) hb d.site)
  have hB := Blk.new w 27 #[.int .i64 d.site, .int .i64 d.seq]
  have b0 : (w.alloc (.cells #[.int .i64 d.site, .int .i64 d.seq] 27)).cell? ⟨w.heap.size, 0, none⟩ = some (.int .i64 d.site) := hB.cell' (i := 0) rfl
  have b1 : (w.alloc (.cells #[.int .i64 d.site, .int .i64 d.seq] 27)).cell? ⟨w.heap.size, 1, none⟩ = some (.int .i64 d.seq) := hB.cell' (i := 1) rfl
  have KD : Kept (fun _ => False) w (w.alloc (.cells #[.int .i64 d.site, .int .i64 d.seq] 27)).drew := ((Kept.refl _ _).alloc _).drewN 1
  unfold hasV
  clear hB h
  go_enter Try.func25, Try.ntmps25
  by_cases h1 : 1 ≤ d.seq
  · have hd1 : decide (1 ≤ d.seq) = true := decide_eq_true h1
    go_wp2_with fail
    go_region_held3 (fun w' => Kept (fun _ => False) w w' ∧ w'.cell? ⟨w.heap.size, 0, none⟩ = some (.int .i64 d.site) ∧ w'.cell? ⟨w.heap.size, 1, none⟩ = some (.int .i64 d.seq)) (first | (with_reducible exact ⟨KD, b0, b1⟩) | go_keep)
      (first | (go_simp; go_at_call 43; refine (hg.out _ KD).mono ?_; rintro e w1 ⟨rfl, hk1⟩; have KE := KD.trans hk1 (fun _ _ h => h); have b0 := hk1.cell b0; have b1 := hk1.cell b1))
    go_wp2_with fail
    go_ret
    exact ⟨by simp [h1], KE⟩
  · have hd1 : decide (1 ≤ d.seq) = false := decide_eq_false h1
    have e2 : decide (1 ≤ d.seq ∧ d.seq ≤ getV L d.site) = false := decide_eq_false fun h => h1 h.1
    go_wp2_with fail
    go_region
    go_wp2_with fail
    go_ret
    exact ⟨congrArg (fun b => Ending.returned (.bool b)) e2.symm, KD⟩
end Go.Proofs.Ytaaeomapbigfgaa

