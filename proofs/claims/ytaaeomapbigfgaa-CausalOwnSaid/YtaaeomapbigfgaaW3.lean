/- cmp.Compare, cmp.Or; stamp.Compare, is, After; the document's. -/
import Derived.Test.YtaaeomapbigfgaaChecked
import Derived.Test.YtaaeomapbigfgaaW2
import Derived.BigQuiet
import Derived.Deep.QuietTactic
import Derived.Deep.RegionHeld3
import Derived.WalkSpells
import Derived.Lib.Hide
import Derived.Lib.SliceRun
namespace Go.Proofs.Ytaaeomapbigfgaa.St
open Go.RowKit

theorem nan_any (x : Int) (w : World) : Calls Try.prog 51 #[.int .i64 x] w fun e w' => e = .returned (.bool false) ∧ w = w' := by
  go_enter Try.func51, Try.ntmps51
  go_wp2
  go_ret
  exact ⟨by simp, rfl⟩
theorem ccmp_any (x y : Int) (w : World) : Calls Try.prog 38 #[.int .i64 x, .int .i64 y] w fun e w' => e = .returned (.int .i64 (cmpI x y)) ∧ w = w' := by
  by_cases h : x < y
  · have e : cmpI x y = -1 := by unfold cmpI; rw [if_pos h]
    rw [e]
    go_enter Try.func38, Try.ntmps38
    go_wp2_with (go_at_call 51; refine (nan_any _ _).mono ?_; rintro e w' ⟨rfl, rfl⟩)
    go_ret
    exact ⟨rfl, rfl⟩
  · by_cases h2 : y < x
    · have e : cmpI x y = 1 := by unfold cmpI; rw [if_neg h, if_pos h2]
      rw [e]
      go_enter Try.func38, Try.ntmps38
      go_wp2_with (go_at_call 51; refine (nan_any _ _).mono ?_; rintro e w' ⟨rfl, rfl⟩)
      go_ret
      exact ⟨rfl, rfl⟩
    · have e : cmpI x y = 0 := by unfold cmpI; rw [if_neg h, if_neg h2]
      rw [e]
      go_enter Try.func38, Try.ntmps38
      go_wp2_with (go_at_call 51; refine (nan_any _ _).mono ?_; rintro e w' ⟨rfl, rfl⟩)
      go_ret
      exact ⟨rfl, rfl⟩
theorem or2 (g : Nat) (x y : Int) (w : World) (h0 : w.cell? ⟨g, 0, none⟩ = some (.int .i64 x)) (h1 : w.cell? ⟨g, 1, none⟩ = some (.int .i64 y)) :
    Calls Try.prog 37 #[.slice (some ⟨g, 0, none⟩) 2 2] w fun e w' => e = .returned (.int .i64 (orL [x, y])) ∧ w = w' := by
  go_enter Try.func37, Try.ntmps37
  go_wp2
  go_loop [8] (fun i => ∃ k : Nat, k ≤ 2 ∧ i = .int .i64 k ∧ orL [x, y] = orL ([x, y].drop k)) (fun i => 2 - (intOf i).toNat)
  case atStart => exact ⟨0, by omega, rfl, rfl⟩
  case round =>
    obtain ⟨k, hk, rfl, he⟩ := hrel
    have E := Lib.hid he
    clear he
    rcases (show k = 0 ∨ k = 1 ∨ k = 2 by omega) with rfl | rfl | rfl
    · by_cases hx : x = 0
      · subst hx
        go_wp2
        go_round
        case rel => exact ⟨1, by omega, rfl, rfl⟩
        case measure => simp [intOf]
      · have hxb : (x != 0) = true := by simpa using hx
        go_wp2
        go_ret
        exact ⟨by simp [orL, hx], rfl⟩
    · by_cases hy : y = 0
      · subst hy
        go_wp2
        go_round
        case rel => exact ⟨2, by omega, rfl, E.out.trans (by simp [orL])⟩
        case measure => simp [intOf]
      · have hyb : (y != 0) = true := by simpa using hy
        go_wp2
        go_ret
        exact ⟨by rw [E.out]; simp [orL, hy], rfl⟩
    · go_wp2
      go_ret
      exact ⟨by rw [E.out]; rfl, rfl⟩

def idV (a : ID) : Value := .agg #[.int .i64 a.t, .int .i64 a.s]
def runV (r : Run) : Value := .agg #[.int .i64 r.id.t, .int .i64 r.id.s, .int .i64 r.c]
theorem compare_any (a b : ID) (w : World) : Calls Try.prog 105 #[idV a, idV b] w fun e w' => e = .returned (.int .i64 (a.cmp b)) ∧ Grew w w' := by
  obtain ⟨at_, as_⟩ := a
  obtain ⟨bt, bs⟩ := b
  show Calls _ _ #[.agg #[.int .i64 at_, .int .i64 as_], .agg #[.int .i64 bt, .int .i64 bs]] _ _
  unfold ID.cmp
  have b1 := Blk.alloc (Blk.new w 31 #[.int .i64 at_, .int .i64 as_]) (.cells #[.int .i64 bt, .int .i64 bs] 31)
  have b2 := Blk.new (w.alloc (.cells #[.int .i64 at_, .int .i64 as_] 31)) 31 #[.int .i64 bt, .int .i64 bs]
  have c1 : _ = some (Value.int .i64 at_) := b1.cell' (i := 0) rfl
  have c2 : _ = some (Value.int .i64 as_) := b1.cell' (i := 1) rfl
  have c3 : _ = some (Value.int .i64 bt) := b2.cell' (i := 0) rfl
  have c4 : _ = some (Value.int .i64 bs) := b2.cell' (i := 1) rfl
  have hg := Grew.alloc (Grew.alloc (Grew.refl w) (.cells #[.int .i64 at_, .int .i64 as_] 31)) (.cells #[.int .i64 bt, .int .i64 bs] 31)
  rw [World.size_alloc] at c3 c4
  clear b1 b2
  go_enter Try.func105, Try.ntmps105
  go_wp2_with fail
  obtain ⟨W, hW, hz⟩ : ∃ W, ((w.alloc (.cells #[.int .i64 at_, .int .i64 as_] 31)).alloc (.cells #[.int .i64 bt, .int .i64 bs] 31)) = W ∧ W.heap.size = w.heap.size + 2 := ⟨_, rfl, by simp⟩
  rw [hW] at c1 c2 c3 c4 hg ⊢
  clear hW
  have Z := Lib.hid hz
  clear hz
  go_region_held3 (fun w' => w'.cell? ⟨w.heap.size, 0, none⟩ = some (.int .i64 at_) ∧ w'.cell? ⟨w.heap.size, 1, none⟩ = some (.int .i64 as_) ∧ w'.cell? ⟨w.heap.size + 1, 0, none⟩ = some (.int .i64 bt) ∧ w'.cell? ⟨w.heap.size + 1, 1, none⟩ = some (.int .i64 bs)) (first | exact ⟨c1, c2, c3, c4⟩ | exact ⟨Lib.cell?_alloc_some _ c1, Lib.cell?_alloc_some _ c2, Lib.cell?_alloc_some _ c3, Lib.cell?_alloc_some _ c4⟩)
    (first
      | (go_simp; go_at_call 38; refine (ccmp_any _ _ _).mono ?_; rintro e w' ⟨rfl, rfl⟩)
      | (go_simp; go_at_call 37; refine (or2 W.heap.size (cmpI at_ bt) (cmpI as_ bs) (W.alloc (.cells #[.int .i64 (cmpI at_ bt), .int .i64 (cmpI as_ bs)] 3)).drew ((Blk.new W 3 #[.int .i64 (cmpI at_ bt), .int .i64 (cmpI as_ bs)]).cell' (i := 0) rfl) ((Blk.new W 3 #[.int .i64 (cmpI at_ bt), .int .i64 (cmpI as_ bs)]).cell' (i := 1) rfl)).mono ?_; rintro e w' ⟨rfl, rfl⟩))
  go_wp2
  go_ret
  exact ⟨rfl, (hg.alloc _).drew⟩

/-! ### is, IsID, After -/
theorem is_core (t s : Int) (w : World) : Calls Try.prog 97 #[.agg #[.int .i64 t, .int .i64 s]] w fun e w' => e = .returned (.bool (isB ⟨t, s⟩)) ∧ Grew w w' := by
  by_cases h1 : 1 ≤ t
  · by_cases h2 : t ≤ 2147483647
    · by_cases h3 : 1 ≤ s
      · by_cases h4 : s ≤ 16
        · have e : isB ⟨t, s⟩ = true := by simp [isB, ID.Is, h1, h2, h3, h4]
          rw [e]
          go_enter Try.func97, Try.ntmps97
          go_wp2
          go_ret
          exact ⟨rfl, (Grew.refl w).alloc _⟩
        · have e : isB ⟨t, s⟩ = false := by simp [isB, ID.Is, h4]
          rw [e]
          go_enter Try.func97, Try.ntmps97
          go_wp2
          go_ret
          exact ⟨rfl, (Grew.refl w).alloc _⟩
      · have e : isB ⟨t, s⟩ = false := by simp [isB, ID.Is, h3]
        rw [e]
        go_enter Try.func97, Try.ntmps97
        go_wp2
        go_ret
        exact ⟨rfl, (Grew.refl w).alloc _⟩
    · have e : isB ⟨t, s⟩ = false := by simp [isB, ID.Is, h2]
      rw [e]
      go_enter Try.func97, Try.ntmps97
      go_wp2
      go_ret
      exact ⟨rfl, (Grew.refl w).alloc _⟩
  · have e : isB ⟨t, s⟩ = false := by simp [isB, ID.Is, h1]
    rw [e]
    go_enter Try.func97, Try.ntmps97
    go_wp2
    go_ret
    exact ⟨rfl, (Grew.refl w).alloc _⟩
theorem is_any (a : ID) (w : World) : Calls Try.prog 97 #[idV a] w fun e w' => e = .returned (.bool (isB a)) ∧ Grew w w' := is_core a.t a.s w
theorem isB_true {a : ID} (h : isB a = true) : a.Is := by simpa [isB] using h
theorem after_core (t s n : Int) (hn : -9223372036854775808 ≤ n) (hn2 : n ≤ 9223372036854775807) (w : World) : Calls Try.prog 95 #[.agg #[.int .i64 t, .int .i64 s], .int .i64 n] w fun e w' => e = .returned (idV (ID.after ⟨t, s⟩ n)) ∧ Grew w w' := by
  have hg := Grew.alloc (Grew.alloc (Grew.refl w) (.cells #[.int .i64 t, .int .i64 s] 31)) (.cells #[.int .i64 0, .int .i64 0] 31)
  have hb0 := Blk.alloc (Blk.new w 31 #[.int .i64 t, .int .i64 s]) (.cells #[.int .i64 0, .int .i64 0] 31)
  have hb1 := Blk.new (w.alloc (.cells #[.int .i64 t, .int .i64 s] 31)) 31 #[.int .i64 0, .int .i64 0]
  rw [World.size_alloc] at hb1
  have hc := is_core t s ((w.alloc (.cells #[.int .i64 t, .int .i64 s] 31)).alloc (.cells #[.int .i64 0, .int .i64 0] 31))
  have H0 := Lib.hid hb0
  have H1 := Lib.hid hb1
  clear hb0 hb1
  cases hb : isB ⟨t, s⟩
  · have e : ID.after ⟨t, s⟩ n = ID.zero := by unfold ID.after; rw [if_neg]; intro h; simp [isB, h.1] at hb
    rw [e]
    rw [hb] at hc
    clear hb e
    go_enter Try.func95, Try.ntmps95
    go_wp2_with fail
    refine hc.mono ?_
    rintro e w' ⟨rfl, hg2⟩
    have hb1 := hg2.box H1.out
    have c0 : _ = some (Value.int .i64 0) := hb1.cell' (i := 0) rfl
    have c1 : _ = some (Value.int .i64 0) := hb1.cell' (i := 1) rfl
    have f0 := hb1.frozen 0
    have f1 := hb1.frozen 1
    have G := Lib.hid (hg.trans hg2)
    clear hg hg2 hb1 hc
    go_wp2_with fail
    refine bodyPost_ret (v := .agg #[.int .i64 0, .int .i64 0]) (by simp [results, Try.results95, go_sem, c0, c1]) rfl ⟨rfl, (G.out.setCell (by simp) _).setCell (by simp) _⟩
  · have hI := isB_true hb
    unfold ID.Is at hI
    obtain ⟨i1, i2, i3, i4⟩ := hI
    simp only at i1 i2 i3 i4
    have hIs := Lib.hid (isB_true hb)
    rw [hb] at hc
    clear hb
    by_cases hx : 0 ≤ n ∧ n ≤ 2147483647 - t
    · obtain ⟨x1, x2⟩ := hx
      have e : ID.after ⟨t, s⟩ n = ⟨t + n, s⟩ := by unfold ID.after; rw [if_pos ⟨hIs.out, x1, x2⟩]
      rw [e]
      clear e
      go_enter Try.func95, Try.ntmps95
      go_wp2_with fail
      refine hc.mono ?_
      rintro e w' ⟨rfl, hg2⟩
      have hb0 := hg2.box H0.out
      have hb1 := hg2.box H1.out
      have d0 : _ = some (Value.int .i64 t) := hb0.cell' (i := 0) rfl
      have d1 : _ = some (Value.int .i64 s) := hb0.cell' (i := 1) rfl
      have e0 := hb0.frozen 0
      have e1 := hb0.frozen 1
      have c0 : _ = some (Value.int .i64 0) := hb1.cell' (i := 0) rfl
      have c1 : _ = some (Value.int .i64 0) := hb1.cell' (i := 1) rfl
      have f0 := hb1.frozen 0
      have f1 := hb1.frozen 1
      have G := Lib.hid (hg.trans hg2)
      clear hg hg2 hb1 hb0 hc
      go_wp2_with fail
      refine bodyPost_ret (v := .agg #[.int .i64 (t + n), .int .i64 s]) (by simp [results, Try.results95, go_sem, c0, c1]) rfl ⟨rfl, ((G.out.setCell (by simp) _).setCell (by simp) _).setCell (by simp) _⟩
    · have e : ID.after ⟨t, s⟩ n = ID.zero := by unfold ID.after; rw [if_neg]; intro h; exact hx ⟨h.2.1, h.2.2⟩
      rw [e]
      clear e
      rcases (show n < 0 ∨ (0 ≤ n ∧ 2147483647 - t < n) by omega) with x1 | ⟨x1, x2⟩
      all_goals
        go_enter Try.func95, Try.ntmps95
        go_wp2_with fail
        refine hc.mono ?_
        rintro e w' ⟨rfl, hg2⟩
        have hb0 := hg2.box H0.out
        have hb1 := hg2.box H1.out
        have d0 : _ = some (Value.int .i64 t) := hb0.cell' (i := 0) rfl
        have c0 : _ = some (Value.int .i64 0) := hb1.cell' (i := 0) rfl
        have c1 : _ = some (Value.int .i64 0) := hb1.cell' (i := 1) rfl
        have f0 := hb1.frozen 0
        have f1 := hb1.frozen 1
        have G := Lib.hid (hg.trans hg2)
        clear hg hg2 hb1 hb0 hc
        go_wp2_with fail
        refine bodyPost_ret (v := .agg #[.int .i64 0, .int .i64 0]) (by simp [results, Try.results95, go_sem, c0, c1]) rfl ⟨rfl, (G.out.setCell (by simp) _).setCell (by simp) _⟩
theorem after_any (a : ID) (n : Int) (hn : -9223372036854775808 ≤ n) (hn2 : n ≤ 9223372036854775807) (w : World) : Calls Try.prog 95 #[idV a, .int .i64 n] w fun e w' => e = .returned (idV (a.after n)) ∧ Grew w w' := after_core a.t a.s n hn hn2 w
end Go.Proofs.Ytaaeomapbigfgaa.St
