/- The document's Compare and After; stamp.last. -/
import Derived.Test.YtdbnohlignpeaaaStCmp
namespace Go.Proofs.Ytdbnohlignpeaaa.St
open Go.RowKit

theorem rcompare_core (at_ as_ bt bs : Int) (w : World) : Calls Try.prog 14 #[.agg #[.int .i64 at_, .int .i64 as_], .agg #[.int .i64 bt, .int .i64 bs]] w fun e w' => e = .returned (.int .i64 (ID.cmp ⟨at_, as_⟩ ⟨bt, bs⟩)) ∧ Grew w w' := by
  have hg := Grew.alloc (Grew.alloc (Grew.refl w) (.cells #[.int .i64 at_, .int .i64 as_] 23)) (.cells #[.int .i64 bt, .int .i64 bs] 23)
  have hz : ∀ {v : Int}, ID.cmp ⟨at_, as_⟩ ⟨bt, bs⟩ = v → Hid (ID.cmp ⟨at_, as_⟩ ⟨bt, bs⟩ = v) := fun h => h
  have G := Lib.hid hg
  clear hg
  by_cases h1 : at_ < bt
  · rw [show ID.cmp ⟨at_, as_⟩ ⟨bt, bs⟩ = -1 by rw [cmp_eq, if_pos (.inl h1)]]
    have e1 : (at_ == bt) = false := by simp; omega
    go_enter Try.func14, Try.ntmps14
    go_wp2_with fail
    go_ret
    exact ⟨rfl, G.out⟩
  · by_cases h2 : bt < at_
    · rw [show ID.cmp ⟨at_, as_⟩ ⟨bt, bs⟩ = 1 by rw [cmp_eq, if_neg (by unfold ID.lt; simp only; omega), if_pos (.inl h2)]]
      have e1 : (at_ == bt) = false := by simp; omega
      go_enter Try.func14, Try.ntmps14
      go_wp2_with fail
      go_ret
      exact ⟨rfl, G.out⟩
    · obtain rfl : at_ = bt := by omega
      by_cases h3 : as_ < bs
      · rw [show ID.cmp ⟨at_, as_⟩ ⟨at_, bs⟩ = -1 by rw [cmp_eq, if_pos (.inr ⟨rfl, h3⟩)]]
        have e1 : (as_ == bs) = false := by simp; omega
        go_enter Try.func14, Try.ntmps14
        go_wp2_with fail
        go_ret
        exact ⟨rfl, G.out⟩
      · by_cases h4 : bs < as_
        · rw [show ID.cmp ⟨at_, as_⟩ ⟨at_, bs⟩ = 1 by rw [cmp_eq, if_neg (by unfold ID.lt; simp only; omega), if_pos (.inr ⟨rfl, h4⟩)]]
          have e1 : (as_ == bs) = false := by simp; omega
          go_enter Try.func14, Try.ntmps14
          go_wp2_with fail
          go_ret
          exact ⟨rfl, G.out⟩
        · obtain rfl : as_ = bs := by omega
          rw [show ID.cmp ⟨at_, as_⟩ ⟨at_, as_⟩ = 0 from cmp_zero.2 rfl]
          go_enter Try.func14, Try.ntmps14
          go_wp2_with fail
          go_ret
          exact ⟨rfl, G.out⟩
theorem rcompare_any (a b : ID) (w : World) : Calls Try.prog 14 #[idV a, idV b] w fun e w' => e = .returned (.int .i64 (a.cmp b)) ∧ Grew w w' := rcompare_core a.t a.s b.t b.s w
theorem rafter_core (t s n : Int) (hn : -9223372036854775808 ≤ n) (hn2 : n ≤ 9223372036854775807) (w : World) : Calls Try.prog 16 #[.agg #[.int .i64 t, .int .i64 s], .int .i64 n] w fun e w' => e = .returned (idV (ID.after ⟨t, s⟩ n)) ∧ Grew w w' := by
  have hg := Grew.alloc (Grew.alloc (Grew.refl w) (.cells #[.int .i64 t, .int .i64 s] 23)) (.cells #[.int .i64 0, .int .i64 0] 23)
  have hb0 := Blk.alloc (Blk.new w 23 #[.int .i64 t, .int .i64 s]) (.cells #[.int .i64 0, .int .i64 0] 23)
  have hb1 := Blk.new (w.alloc (.cells #[.int .i64 t, .int .i64 s] 23)) 23 #[.int .i64 0, .int .i64 0]
  rw [World.size_alloc] at hb1
  have hc := isid_core t s ((w.alloc (.cells #[.int .i64 t, .int .i64 s] 23)).alloc (.cells #[.int .i64 0, .int .i64 0] 23))
  have H0 := Lib.hid hb0
  have H1 := Lib.hid hb1
  clear hb0 hb1
  cases hb : isB ⟨t, s⟩
  · have e : ID.after ⟨t, s⟩ n = ID.zero := by unfold ID.after; rw [if_neg]; intro h; simp [isB, h.1] at hb
    rw [e]
    rw [hb] at hc
    clear hb e
    go_enter Try.func16, Try.ntmps16
    go_wp2_with fail
    refine hc.mono ?_
    rintro e w' ⟨rfl, hg2⟩
    have hb1 := hg2.box H1.out
    have c0 : _ = some (Value.int .i64 0) := hb1.cell' (i := 0) rfl
    have c1 : _ = some (Value.int .i64 0) := hb1.cell' (i := 1) rfl
    have f0 := hb1.frozen 0
    have f1 := hb1.frozen 1
    have G := Lib.hid (hg.trans hg2)
    clear hg hg2 hb1 hc
    go_wp2_with fail
    refine bodyPost_ret (v := .agg #[.int .i64 0, .int .i64 0]) (by simp [results, Try.results16, go_sem, c0, c1]) rfl ⟨rfl, (G.out.setCell (by simp) _).setCell (by simp) _⟩
  · have hI := isB_true hb
    unfold ID.Is at hI
    obtain ⟨i1, i2, i3, i4⟩ := hI
    simp only at i1 i2 i3 i4
    have hIs := Lib.hid (isB_true hb)
    rw [hb] at hc
    clear hb
    by_cases hx : 0 ≤ n ∧ n ≤ 2147483647 - t
    · obtain ⟨x1, x2⟩ := hx
      have e : ID.after ⟨t, s⟩ n = ⟨t + n, s⟩ := by unfold ID.after; rw [if_pos ⟨hIs.out, x1, x2⟩]
      rw [e]
      clear e
      go_enter Try.func16, Try.ntmps16
      go_wp2_with fail
      refine hc.mono ?_
      rintro e w' ⟨rfl, hg2⟩
      have hb0 := hg2.box H0.out
      have hb1 := hg2.box H1.out
      have d0 : _ = some (Value.int .i64 t) := hb0.cell' (i := 0) rfl
      have d1 : _ = some (Value.int .i64 s) := hb0.cell' (i := 1) rfl
      have e0 := hb0.frozen 0
      have e1 := hb0.frozen 1
      have c0 : _ = some (Value.int .i64 0) := hb1.cell' (i := 0) rfl
      have c1 : _ = some (Value.int .i64 0) := hb1.cell' (i := 1) rfl
      have f0 := hb1.frozen 0
      have f1 := hb1.frozen 1
      have G := Lib.hid (hg.trans hg2)
      clear hg hg2 hb1 hb0 hc
      go_wp2_with fail
      refine bodyPost_ret (v := .agg #[.int .i64 (t + n), .int .i64 s]) (by simp [results, Try.results16, go_sem, c0, c1]) rfl ⟨rfl, (G.out.setCell (by simp) _).setCell (by simp) _⟩
    · have e : ID.after ⟨t, s⟩ n = ID.zero := by unfold ID.after; rw [if_neg]; intro h; exact hx ⟨h.2.1, h.2.2⟩
      rw [e]
      clear e
      rcases (show n < 0 ∨ (0 ≤ n ∧ 2147483647 - t < n) by omega) with x1 | ⟨x1, x2⟩
      all_goals
        go_enter Try.func16, Try.ntmps16
        go_wp2_with fail
        refine hc.mono ?_
        rintro e w' ⟨rfl, hg2⟩
        have hb0 := hg2.box H0.out
        have hb1 := hg2.box H1.out
        have d0 : _ = some (Value.int .i64 t) := hb0.cell' (i := 0) rfl
        have c0 : _ = some (Value.int .i64 0) := hb1.cell' (i := 0) rfl
        have c1 : _ = some (Value.int .i64 0) := hb1.cell' (i := 1) rfl
        have f0 := hb1.frozen 0
        have f1 := hb1.frozen 1
        have G := Lib.hid (hg.trans hg2)
        clear hg hg2 hb1 hb0 hc
        go_wp2_with fail
        refine bodyPost_ret (v := .agg #[.int .i64 0, .int .i64 0]) (by simp [results, Try.results16, go_sem, c0, c1]) rfl ⟨rfl, (G.out.setCell (by simp) _).setCell (by simp) _⟩
theorem rafter_any (a : ID) (n : Int) (hn : -9223372036854775808 ≤ n) (hn2 : n ≤ 9223372036854775807) (w : World) : Calls Try.prog 16 #[idV a, .int .i64 n] w fun e w' => e = .returned (idV (a.after n)) ∧ Grew w w' := rafter_core a.t a.s n hn hn2 w

theorem last_core (t s c : Int) (hc1 : -9223372036854775808 ≤ c) (hc2 : c ≤ 9223372036854775807) (w : World) : Calls Try.prog 62 #[.agg #[.int .i64 t, .int .i64 s, .int .i64 c]] w fun e w' => e = .returned (idV (if c < 1 then ID.zero else ID.after ⟨t, s⟩ (c - 1))) ∧ Grew w w' := by
  have hg := Grew.alloc (Grew.alloc (Grew.refl w) (.cells #[.int .i64 t, .int .i64 s, .int .i64 c] 35)) (.cells #[.int .i64 0, .int .i64 0] 23)
  have hb1 := Blk.new (w.alloc (.cells #[.int .i64 t, .int .i64 s, .int .i64 c] 35)) 23 #[.int .i64 0, .int .i64 0]
  rw [World.size_alloc] at hb1
  by_cases h : c < 1
  · rw [if_pos h]
    have G := Lib.hid hg
    clear hg hb1
    go_enter Try.func62, Try.ntmps62
    go_wp2_with fail
    exact bodyPost_ret (v := .agg #[.int .i64 0, .int .i64 0]) (by simp [results, Try.results62, go_sem]) rfl ⟨rfl, G.out⟩
  · rw [if_neg h]
    have ha := after_core t s (c - 1) (by omega) (by omega) ((w.alloc (.cells #[.int .i64 t, .int .i64 s, .int .i64 c] 35)).alloc (.cells #[.int .i64 0, .int .i64 0] 23))
    generalize ID.after ⟨t, s⟩ (c - 1) = a at ha ⊢
    obtain ⟨x, y⟩ := a
    have G0 := Lib.hid hg
    have H1 := Lib.hid hb1
    clear hg hb1
    go_enter Try.func62, Try.ntmps62
    go_wp2_with fail
    refine ha.mono ?_
    rintro e w' ⟨rfl, hg2⟩
    have hb1 := hg2.box H1.out
    have c0 : _ = some (Value.int .i64 0) := hb1.cell' (i := 0) rfl
    have c1 : _ = some (Value.int .i64 0) := hb1.cell' (i := 1) rfl
    have f0 := hb1.frozen 0
    have f1 := hb1.frozen 1
    have G := Lib.hid (G0.out.trans hg2)
    clear hg2 hb1
    unfold idV
    go_wp2_with fail
    refine bodyPost_ret (v := .agg #[.int .i64 x, .int .i64 y]) (by simp [results, Try.results62, go_sem, c0, c1]) rfl ⟨rfl, (G.out.setCell (by simp) _).setCell (by simp) _⟩
end Go.Proofs.Ytdbnohlignpeaaa.St
