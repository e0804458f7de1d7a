/- hearsayref7.Add. -/
import Derived.Test.YtaaeomapbigfgaaVrFns
import Derived.Test.YtaaeomapbigfgaaVeAdd
namespace Go.Proofs.Ytaaeomapbigfgaa
open Go.RowKit Go.Proofs.Ytaaeomapbigfgaa.St
set_option maxRecDepth 100000 in
set_option maxHeartbeats 4000000 in
theorem radd_any {w : World} {v : Value} {L : List Dot} (h : SlAt dotE w v L) (hb : L.length ≤ 1000000000) (d : Dot) : Calls Try.prog 19 #[v, .agg #[.int .i64 d.site, .int .i64 d.seq]] w fun e w' =>
    ∃ v', e = .returned (.tuple #[v', .int .i64 (whyAdd L d)]) ∧ AddIs w w' L d v' ∧ Kept (fun _ => False) w w' := by
  obtain ⟨s, q⟩ := d
  have hk0 : Kept (fun _ => False) w (w.alloc (.cells #[.int .i64 s, .int .i64 q] 27)) := (Kept.refl _ _).alloc _
  have hB := Blk.new w 27 #[.int .i64 s, .int .i64 q]
  have b0 : (w.alloc (.cells #[.int .i64 s, .int .i64 q] 27)).cell? ⟨w.heap.size, 0, none⟩ = some (.int .i64 s) := hB.cell' (i := 0) rfl
  have b1 : (w.alloc (.cells #[.int .i64 s, .int .i64 q] 27)).cell? ⟨w.heap.size, 1, none⟩ = some (.int .i64 q) := hB.cell' (i := 1) rfl
  have KD := Lib.hid hk0
  have KD2 := hk0.drew
  have hg := Lib.hid (fun (w' : World) (hk : Kept (fun _ => False) w w') => rget_any (h.kept hk) hb s)
  have HO := Lib.hid (fun (w' : World) (hk : Kept (fun _ => False) w w') => rsays_any (h.kept hk) hb)
  have wa : whyAdd L ⟨s, q⟩ = if ¬ isSite s ∨ q < 1 then 1 else if 2147483647 < q then 17 else if q ≠ getV L s + 1 then 9 else 0 := rfl
  clear h hB hk0
  by_cases hs : isSite s
  case neg =>
    rw [if_pos (.inl hs)] at wa
    have WA := Lib.hid wa
    have hs3 : s < 1 ∨ 16 < s := by unfold isSite at hs; omega
    clear wa hs
    by_cases h5 : s < 1
    · clear hs3
      go_enter Try.func19, Try.ntmps19
      go_wp2_with fail
      go_ret2
      exact ⟨_, by rw [WA.out]; rfl, ⟨fun _ => rfl, fun h => by rw [WA.out] at h; cases h⟩, KD.out⟩
    · have h6 := hs3.resolve_left h5
      clear hs3
      go_enter Try.func19, Try.ntmps19
      go_wp2_with fail
      go_ret2
      exact ⟨_, by rw [WA.out]; rfl, ⟨fun _ => rfl, fun h => by rw [WA.out] at h; cases h⟩, KD.out⟩
  case pos =>
  have hs1 : ¬ s < 1 := by unfold isSite at hs; omega
  have hs2 : ¬ 16 < s := by unfold isSite at hs; omega
  by_cases h1 : q < 1
  · rw [if_pos (.inr h1)] at wa
    have WA := Lib.hid wa
    clear wa hs
    go_enter Try.func19, Try.ntmps19
    go_wp2_with fail
    go_ret2
    exact ⟨_, by rw [WA.out]; rfl, ⟨fun _ => rfl, fun h => by rw [WA.out] at h; cases h⟩, KD.out⟩
  rw [if_neg (fun h => by rcases h with h | h; exact h hs; exact h1 h)] at wa
  by_cases h2 : 2147483647 < q
  · rw [if_pos h2] at wa
    have WA := Lib.hid wa
    clear wa hs
    go_enter Try.func19, Try.ntmps19
    go_wp2_with fail
    go_ret2
    exact ⟨_, by rw [WA.out]; rfl, ⟨fun _ => rfl, fun h => by rw [WA.out] at h; cases h⟩, KD.out⟩
  rw [if_neg h2] at wa
  have gbd : 0 ≤ getV L s ∧ getV L s ≤ 2147483647 := by
    unfold getV
    by_cases h : isSite s
    · rw [if_pos h]; exact says_bd L _
    · rw [if_neg h]; exact ⟨by decide, by decide⟩
  have hw : IntKind.i64.wrap (getV L s + 1) = getV L s + 1 := IntWalk.i64_in _ (by omega)
  by_cases h3 : q = getV L s + 1
  case neg =>
    rw [if_pos h3] at wa
    have hq : (q == getV L s + 1) = false := beq_eq_false_iff_ne.2 h3
    have WA := Lib.hid wa
    generalize getV L s = gv at *
    clear wa hs gbd h3
    go_enter Try.func19, Try.ntmps19
    go_wp2_with fail
    go_region_held3 (fun w' => Kept (fun _ => False) w w' ∧ w'.cell? ⟨w.heap.size, 0, none⟩ = some (.int .i64 s) ∧ w'.cell? ⟨w.heap.size, 1, none⟩ = some (.int .i64 q)) (first | (with_reducible exact ⟨KD2, b0, b1⟩) | go_keep)
      (first | (go_simp; go_at_call 21; refine (hg.out _ KD2).mono ?_; rintro e w1 ⟨rfl, hk1⟩; have KE := KD2.trans hk1 (fun _ _ h => h); have b0 := hk1.cell b0; have b1 := hk1.cell b1))
    have KF : Hid (Kept (fun _ => False) w w1) := Lib.hid KE
    go_wp2_with fail
    go_ret2
    exact ⟨_, by rw [WA.out]; rfl, ⟨fun _ => rfl, fun h => by rw [WA.out] at h; cases h⟩, KF.out⟩
  case pos =>
    rw [if_neg (fun h => h h3)] at wa
    have hq : (q == getV L s + 1) = true := beq_iff_eq.2 h3
    have WA := Lib.hid wa
    generalize getV L s = gv at *
    unfold isSite at hs
    obtain ⟨k, rfl⟩ : ∃ k : Nat, s = k := ⟨s.toNat, by omega⟩
    have hkI : (k : Int) < 17 := by omega
    have hk17 : k < 17 := by omega
    have hk0 : (0 : Int) ≤ k := by omega
    have Q3 := Lib.hid h3
    clear wa hs gbd h3
    go_enter Try.func19, Try.ntmps19
    go_wp2_with fail
    go_region_held3 (fun w' => Kept (fun _ => False) w w' ∧ w'.cell? ⟨w.heap.size, 0, none⟩ = some (.int .i64 k) ∧ w'.cell? ⟨w.heap.size, 1, none⟩ = some (.int .i64 q)) (first | (with_reducible exact ⟨KD2, b0, b1⟩) | go_keep)
      (first | (go_simp; go_at_call 21; refine (hg.out _ KD2).mono ?_; rintro e w1 ⟨rfl, hk1⟩; have KE := KD2.trans hk1 (fun _ _ h => h); have b0 := hk1.cell b0; have b1 := hk1.cell b1))
    have KF : Hid (Kept (fun _ => False) w w1) := Lib.hid KE
    have C0 := Lib.hid b0
    have C1 := Lib.hid b1
    clear b0 b1
    go_wp2_with (first
      | (refine wpList_load_row rfl 78 _ rfl w2.heap.size rfl 78 _ (0, 0) _ ((P2.out.row (cells (says L))).set_ k (.int .i64 q)) Try.underlying78 rfl (by rw [cells_add, cells_size]; kernel_rfl) ?_)
      | (refine wpList_store_row rfl 78 _ _ rfl w2.heap.size (cells (says L)) rfl rfl 78 zero17 P2.out (by rw [cells_size]; kernel_rfl) (by rw [cells_size]; rfl) (cells_one _) ?_; have f2 := (P2.out.row (cells (says L))).frozen k; have c2 := (P2.out.row (cells (says L))).cell' (cells_get (says L) hk17))
      | (go_at_call 34; refine (HO.out _ KF.out).mono ?_; rintro e w2 ⟨rfl, hk2⟩; have P2 := Lib.hid (Blk.new w2 78 zero17); have KG := Lib.hid (KF.out.trans hk2 (fun _ _ h => h)); have b0 := ((hk2.alloc (.cells zero17 78)).setRow (g := w2.heap.size) (fun h => by have := hk2.size; omega) (cells (says L))).cell C0.out; have b1 := ((hk2.alloc (.cells zero17 78)).setRow (g := w2.heap.size) (fun h => by have := hk2.size; omega) (cells (says L))).cell C1.out)
      | (go_at_call 40; rw [cells_add]; refine (rof_any _ (fun h => by have h : 0 < if ((0 : Nat) : Int) = (k : Int) then q else says L 0 := h; rw [if_neg (by omega), says_out L 0 (by decide)] at h; omega) _).mono ?_; rintro e w4 ⟨v4, rfl, ho4, hk4⟩))
    have K3 := ((KG.out.alloc (.cells zero17 78)).setRow (g := w2.heap.size) (fun h => by have := KG.out.size; omega) (cells (says L))).setCell (p := ⟨w2.heap.size, k, none⟩) (fun h => by have h : w2.heap.size < w.heap.size := h; have := KG.out.size; omega) (.int .i64 q)
    go_ret2
    exact ⟨_, by rw [WA.out]; rfl, ⟨fun h => absurd WA.out h, fun _ => owns_lower ho4 K3.size⟩, K3.trans hk4 (fun _ _ h => h)⟩
end Go.Proofs.Ytaaeomapbigfgaa

