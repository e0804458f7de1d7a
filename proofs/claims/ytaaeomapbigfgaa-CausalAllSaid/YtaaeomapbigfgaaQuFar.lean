/- causal.far. -/
import Derived.Test.YtaaeomapbigfgaaQuMay
import Derived.Deep.RegionHeld3
namespace Go.Proofs.Ytaaeomapbigfgaa
open Go.RowKit Go.Proofs.Ytaaeomapbigfgaa.St
theorem or3 (g : Nat) (x y z : Int) (w : World) (h0 : w.cell? ⟨g, 0, none⟩ = some (.int .i64 x)) (h1 : w.cell? ⟨g, 1, none⟩ = some (.int .i64 y)) (h2 : w.cell? ⟨g, 2, none⟩ = some (.int .i64 z)) :
    Calls Try.prog 37 #[.slice (some ⟨g, 0, none⟩) 3 3] w fun e w' => e = .returned (.int .i64 (orL [x, y, z])) ∧ w = w' := by
  go_enter Try.func37, Try.ntmps37
  go_wp2
  go_loop [8] (fun i => ∃ k : Nat, k ≤ 3 ∧ i = .int .i64 k ∧ orL [x, y, z] = orL ([x, y, z].drop k)) (fun i => 3 - (intOf i).toNat)
  case atStart => exact ⟨0, by omega, rfl, rfl⟩
  case round =>
    obtain ⟨k, hk, rfl, he⟩ := hrel
    have E := Lib.hid he
    clear he
    rcases (show k = 0 ∨ k = 1 ∨ k = 2 ∨ k = 3 by omega) with rfl | rfl | rfl | rfl
    · by_cases hx : x = 0
      · subst hx
        go_wp2
        go_round
        case rel => exact ⟨1, by omega, rfl, rfl⟩
        case measure => simp [intOf]
      · have hxb : (x != 0) = true := by simpa using hx
        go_wp2
        go_ret
        exact ⟨by simp [orL, hx], rfl⟩
    · by_cases hy : y = 0
      · subst hy
        go_wp2
        go_round
        case rel => exact ⟨2, by omega, rfl, E.out.trans (by simp [orL])⟩
        case measure => simp [intOf]
      · have hyb : (y != 0) = true := by simpa using hy
        go_wp2
        go_ret
        exact ⟨by rw [E.out]; simp [orL, hy], rfl⟩
    · by_cases hz : z = 0
      · subst hz
        go_wp2
        go_round
        case rel => exact ⟨3, by omega, rfl, E.out.trans (by simp [orL])⟩
        case measure => simp [intOf]
      · have hzb : (z != 0) = true := by simpa using hz
        go_wp2
        go_ret
        exact ⟨by rw [E.out]; simp [orL, hz], rfl⟩
    · go_wp2
      go_ret
      exact ⟨by rw [E.out]; rfl, rfl⟩
/-- how far two operations are from one another -/
def farV (a b : Dot) (A B : List Dot) : Int := orL [cmpI (sumV A) (sumV B), cmpI a.site b.site, cmpI a.seq b.seq]
set_option maxRecDepth 100000 in
set_option maxHeartbeats 4000000 in
theorem far_any {w : World} {x y : OpV} {A B : List Dot} (hA : SlAt dotE w x.deps.v A) (hB : SlAt dotE w y.deps.v B) (hAl : A.length ≤ 1000000000) (hBl : B.length ≤ 1000000000) :
    Calls Try.prog 31 #[.agg (opA x), .agg (opA y)] w fun e w' => e = .returned (.int .i64 (farV x.dot y.dot A B)) ∧ Grew w w' := by
  have hX := (Blk.new w 34 (opA x)).alloc (.cells (opA y) 34)
  have hY := Blk.new (w.alloc (.cells (opA x) 34)) 34 (opA y)
  have k0 : Grew w ((w.alloc (.cells (opA x) 34)).alloc (.cells (opA y) 34)) := ((Grew.refl _).alloc _).alloc _
  rw [World.size_alloc] at hY
  have HA := Lib.hid (fun (w' : World) (hk : Grew w w') => sum_grew (hA.kept hk.kept) hAl)
  have HB := Lib.hid (fun (w' : World) (hk : Grew w w') => sum_grew (hB.kept hk.kept) hBl)
  go_enter Try.func31, Try.ntmps31
  go_wp2_with fail
  obtain ⟨W, hW⟩ : ∃ W, ((w.alloc (.cells (opA x) 34)).alloc (.cells (opA y) 34)) = W := ⟨_, rfl⟩
  rw [hW] at hX hY k0 ⊢
  have a0 : W.cell? ⟨w.heap.size, 0, none⟩ = some (.int .i64 x.dot.site) := hX.cell' (i := 0) rfl
  have a1 : W.cell? ⟨w.heap.size, 1, none⟩ = some (.int .i64 x.dot.seq) := hX.cell' (i := 1) rfl
  have a2 : W.cell? ⟨w.heap.size, 2, none⟩ = some x.deps.v := hX.cell' (i := 2) rfl
  have b0 : W.cell? ⟨w.heap.size + 1, 0, none⟩ = some (.int .i64 y.dot.site) := hY.cell' (i := 0) rfl
  have b1 : W.cell? ⟨w.heap.size + 1, 1, none⟩ = some (.int .i64 y.dot.seq) := hY.cell' (i := 1) rfl
  have b2 : W.cell? ⟨w.heap.size + 1, 2, none⟩ = some y.deps.v := hY.cell' (i := 2) rfl
  have KD := k0.drew
  clear hX hY k0 hW hA hB
  have NW := Lib.hid (fun (w2 : World) => Blk.new w2 3 #[.int .i64 (cmpI (sumV A) (sumV B)), .int .i64 (cmpI x.dot.site y.dot.site), .int .i64 (cmpI x.dot.seq y.dot.seq)])
  go_region_held3 (fun w' => w'.cell? ⟨w.heap.size, 0, none⟩ = some (.int .i64 x.dot.site) ∧ w'.cell? ⟨w.heap.size, 1, none⟩ = some (.int .i64 x.dot.seq) ∧ w'.cell? ⟨w.heap.size, 2, none⟩ = some x.deps.v ∧ w'.cell? ⟨w.heap.size + 1, 0, none⟩ = some (.int .i64 y.dot.site) ∧ w'.cell? ⟨w.heap.size + 1, 1, none⟩ = some (.int .i64 y.dot.seq) ∧ w'.cell? ⟨w.heap.size + 1, 2, none⟩ = some y.deps.v) (first | (with_reducible exact ⟨a0, a1, a2, b0, b1, b2⟩) | go_keep)
    (first
      | (go_simp; go_at_call 38; refine (ccmp_any _ _ _).mono ?_; rintro e w' ⟨rfl, rfl⟩)
      | (go_simp; go_at_call 37; refine (or3 w2.heap.size (cmpI (sumV A) (sumV B)) (cmpI x.dot.site y.dot.site) (cmpI x.dot.seq y.dot.seq) _ ((NW.out w2).cell' (i := 0) rfl) ((NW.out w2).cell' (i := 1) rfl) ((NW.out w2).cell' (i := 2) rfl)).mono ?_; rintro e w' ⟨rfl, rfl⟩)
      | (go_simp; go_at_call 47; refine (HB.out _ KE).mono ?_; rintro e w2 ⟨rfl, hk2⟩; have KF := KE.trans hk2; have a0 := hk2.kept.cell a0; have a1 := hk2.kept.cell a1; have a2 := hk2.kept.cell a2; have b0 := hk2.kept.cell b0; have b1 := hk2.kept.cell b1; have b2 := hk2.kept.cell b2)
      | (go_simp; go_at_call 47; refine (HA.out _ KD).mono ?_; rintro e w1 ⟨rfl, hk1⟩; have KE := KD.trans hk1; have a0 := hk1.kept.cell a0; have a1 := hk1.kept.cell a1; have a2 := hk1.kept.cell a2; have b0 := hk1.kept.cell b0; have b1 := hk1.kept.cell b1; have b2 := hk1.kept.cell b2))
  go_wp2_with fail
  go_ret
  exact ⟨rfl, KF.alloc _⟩
theorem SlAt.ent {w : World} {v : Value} {W : List Ent} (h : SlAt entE w v W) (hn : 0 < W.length) : ∃ g o c, v = .slice (some ⟨g, o, none⟩) W.length c ∧ W.length ≤ c ∧ c ≤ maxLen ∧ g < w.heap.size ∧ ∀ (i : Nat) (e : Ent), W[i]? = some e → ∀ (j : Nat) (u : Value), (opA e.v)[j]? = some u →
    w.cell? ⟨g, o + i * 11 + j, none⟩ = some u := by
  obtain ⟨g, o, c, rfl, h1, h2, hg, hc⟩ := h.one hn
  refine ⟨g, o, c, rfl, h1, h2, hg, fun i e he j u hu => ?_⟩
  rw [Nat.add_assoc]
  have hu' : e.v.cells[j]? = some u := by simpa [opA] using hu
  exact hc i e he j u hu'
/-- the place of the first one that is farthest, among the first n -/
def grI (W : List Ent) : Nat → Nat
  | 0 => 0
  | n + 1 => match W[n]?, W[grI W n]? with
    | some e, some f => if 0 < farV e.v.dot f.v.dot e.D f.D then n else grI W n
    | _, _ => grI W n
theorem grI_succ {W : List Ent} {n : Nat} {e f : Ent} (he : W[n]? = some e) (hf : W[grI W n]? = some f) : grI W (n + 1) = if 0 < farV e.v.dot f.v.dot e.D f.D then n else grI W n := by
  show (match W[n]?, W[grI W n]? with
    | some e, some f => if 0 < farV e.v.dot f.v.dot e.D f.D then n else grI W n
    | _, _ => grI W n) = _
  rw [he, hf]
theorem grI_lt (W : List Ent) : ∀ n, n ≤ W.length → 0 < W.length → grI W n < W.length
  | 0, _, h => h
  | n + 1, h, h0 => by
    have ih := grI_lt W n (by omega) h0
    obtain ⟨e, he⟩ := get_of_lt (show n < W.length by omega)
    obtain ⟨f, hf⟩ := get_of_lt ih
    rw [grI_succ he hf]
    split <;> omega
end Go.Proofs.Ytaaeomapbigfgaa

