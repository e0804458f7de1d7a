/- Operations in memory; slices.Clone of Dots. (*causal.Queue).may. causal.far. -/
import Derived.Test.YtaaeomapbigfgaaW8
import Derived.Test.YtaaeomapbigfgaaW7
import Derived.Laws.StructEq
import Derived.Shelf.SlSortCmp.QuietGrown
import Derived.Deep.RegionHeld3
namespace Go.Proofs.Ytaaeomapbigfgaa
open Go.RowKit Go.Proofs.Ytaaeomapbigfgaa.St
set_option maxRecDepth 100000 in
set_option maxHeartbeats 1000000 in
theorem clone_dot {w : World} {v : Value} {L : List Dot} (h : SlAt dotE w v L) (hb : L.length ≤ 1000000000) :
    Calls Try.prog 23 #[v] w fun e w' => ∃ v', e = .returned v' ∧ w'.ownsRow w.heap.size 27 2 v' L.length (dotE.flat L) ∧ Kept (fun _ => False) w w' := by
  have q := fun (w : World) (a : Option Addr) (n c n' c' : Nat) => Lib.run_eql_slice_nil (P := Try.prog) w 29 _ a n c n' c' Try.underlying29
  obtain ⟨a, c, rfl, hle, hc⟩ := h.sl
  cases a with
  | none =>
    obtain ⟨rfl, _, rfl⟩ := h.none_
    clear h hb hc hle
    go_enter Try.func23, Try.ntmps23
    go_wp2
    go_ret
    exact ⟨_, rfl, World.ownsRow_nil _ _ _ _, Kept.refl _ _⟩
  | some x =>
    obtain ⟨_, hn⟩ := h.at_
    obtain ⟨i0, hi, hz0, hz1, hz2⟩ := info_parts info_dot
    have hl := dotE.flat_len L
    have h1 := dotE.flat_one_cell L
    generalize dotE.flat L = news at hn hl h1 ⊢
    generalize L.length = n at *
    have hl2 : news.length = n * 2 := hl
    have hn2 : ∀ j u, news[j]? = some u → (w.alloc (.cells #[] 27)).cell? (x.add j) = some u := fun j u hu => by
      have hc := hn j u hu
      rw [World.cell?_of_block (a := x.add j) (w := w)]
      · exact hc
      · exact Below.heap_alloc w _ _ (World.block_lt_of_cell? w _ hc)
    have N := Lib.hid hn2
    have I := Lib.hid hi
    have Z0 := Lib.hid hz0
    have Z1 := Lib.hid hz1
    have Z2 := Lib.hid hz2
    have HL := Lib.hid hl2
    have H1 := Lib.hid h1
    have h63 : 0 + n ≤ maxLen := by unfold maxLen; omega
    have hby : (0 + n) * 16 ≤ 140737488355328 := by omega
    clear hn hn2 hi hz0 hz1 hz2 hl hl2 h1 h hc
    go_enter Try.func23, Try.ntmps23
    go_wp2_with (at_builtin; refine wpList_append_own _ rfl _ _ 29 rfl w.heap.size 27 i0 (.agg #[.int .i64 0, .int .i64 0]) 2 16 Try.underlying29 I.out Z0.out Z1.out Z2.out rfl (by decide) _ _ _ rfl (World.ownsRow_made w #[] 0 (Nat.le_refl _) (Nat.zero_le _) (by simp)) x n c news rfl HL.out N.out H1.out h63 hby (by simp) ?_)
    intro v' w1 hown hgrow _
    go_wp2
    go_ret
    refine ⟨v', rfl, by simpa using hown, ?_⟩
    exact ((Kept.refl _ _).alloc _).grown hgrow (fun k e hk => by simp [Value.ownBlock] at e; omega)
/-- a slice's own words -/
structure Sl where
  a : Option Addr
  n : Nat
  c : Nat
def Sl.v (s : Sl) : Value := .slice s.a s.n s.c
theorem Sl.of {α : Type} {E : Enc α} {w : World} {v : Value} {L : List α} (h : SlAt E w v L) : ∃ s : Sl, v = s.v := by
  obtain ⟨a, c, rfl, _⟩ := h.sl
  exact ⟨⟨a, _, c⟩, rfl⟩
/-- an operation as it stands in cells -/
structure OpV where
  dot : Dot
  deps : Sl
  kind : Int
  id : ID
  ref : ID
  text : ByteArray
  gone : Sl
  site : Int
def OpV.cells (x : OpV) : List Value := [.int .i64 x.dot.site, .int .i64 x.dot.seq, x.deps.v, .int .i64 x.kind, .int .i64 x.id.t, .int .i64 x.id.s, .int .i64 x.ref.t, .int .i64 x.ref.s, .string x.text, x.gone.v, .int .i64 x.site]
def opA (x : OpV) : Array Value := x.cells.toArray
theorem opA_size (x : OpV) : (opA x).size = 11 := rfl
theorem opA_one (x : OpV) : (opA x).all (·.oneCell') = true := by simp [opA, OpV.cells, Value.oneCell', Sl.v]
/-- an operation with what its lists say -/
structure Ent where
  v : OpV
  D : List Dot
  G : List Run
def entE : Enc Ent := ⟨11, fun e => e.v.cells, fun _ => rfl, by decide, fun e u hu => by
  have h := (Array.all_eq_true_iff_forall_mem.1 (opA_one e.v)) u (by simpa [opA] using hu)
  exact h⟩
structure Ent.At (w : World) (e : Ent) : Prop where
  deps : SlAt dotE w e.v.deps.v e.D
  gone : SlAt runE w e.v.gone.v e.G
def Ent.can (V : List Dot) (d : Dot) (D : List Dot) : Prop := d.seq = getV V d.site + 1 ∧ coversV V D
instance (V : List Dot) (d : Dot) (D : List Dot) : Decidable (Ent.can V d D) := by unfold Ent.can; infer_instance
theorem info_op : (Try.prog.info? 34).map (fun i => (i.zero, i.size, i.bytes)) = some (some (.agg #[.int .i64 0, .int .i64 0, .slice none 0 0, .int .i64 0, .int .i64 0, .int .i64 0, .int .i64 0, .int .i64 0, .string ByteArray.empty, .slice none 0 0, .int .i64 0]), 11, 128) := by kernel_rfl
end Go.Proofs.Ytaaeomapbigfgaa
namespace Go.Proofs.Ytaaeomapbigfgaa
open Go.RowKit Go.Proofs.Ytaaeomapbigfgaa.St
open Go.Sort (grow)
theorem Grew.grown {w : World} (n : Nat) (os : Array Obj) : Grew w (grow (w.drewN n) os) := ⟨n, os, rfl⟩
/-- a contract at every world that has grown, as the drawn regions ask it -/
theorem grown_call {f : FuncId} {args : Array Value} {w : World} {v : Value} (h : ∀ w', Grew w w' → Calls Try.prog f args w' fun e w'' => e = .returned v ∧ Grew w' w'') (n : Nat) (os : Array Obj) :
    Calls Try.prog f args (grow (w.drewN n) os) fun e w'' => e = .returned v ∧ ∃ p : GrownBy, w'' = grow (w.drewN p.n) p.os :=
  Calls.grown_of ((h _ (Grew.grown n os)).mono fun _ _ ⟨he, q, os', hq⟩ => ⟨he, q, os', hq⟩)
set_option maxRecDepth 100000 in
set_option maxHeartbeats 4000000 in
theorem may_grew {w : World} {g : Nat} {h0 v wv ov : Value} {V D : List Dot} {x : OpV} (hq : Blk w g 67 #[h0, v, wv, ov]) (hv : SlAt dotE w v V) (hD : SlAt dotE w x.deps.v D) (hVl : V.length ≤ 1000000000) (hDl : D.length ≤ 1000000000) :
    Calls Try.prog 29 #[.pointer (some ⟨g, 0, none⟩), .agg (opA x)] w fun e w' => e = .returned (.bool (decide (Ent.can V x.dot D))) ∧ Grew w w' := by
  have hB := Blk.new w 34 (opA x)
  have k0 : Grew w (w.alloc (.cells (opA x) 34)) := (Grew.refl _).alloc _
  have hgt := hq.lt
  obtain ⟨W, hW, hz⟩ : ∃ W, w.alloc (.cells (opA x) 34) = W ∧ W.heap.size = w.heap.size + 1 := ⟨_, rfl, by simp⟩
  rw [hW] at hB k0
  have b0 := cell_grown (w := W) (by show w.heap.size < _; omega) (show W.cell? ⟨w.heap.size, 0, none⟩ = some (.int .i64 x.dot.site) from hB.cell' (i := 0) rfl)
  have b1 := cell_grown (w := W) (by show w.heap.size < _; omega) (show W.cell? ⟨w.heap.size, 1, none⟩ = some (.int .i64 x.dot.seq) from hB.cell' (i := 1) rfl)
  have b2 := cell_grown (w := W) (by show w.heap.size < _; omega) (show W.cell? ⟨w.heap.size, 2, none⟩ = some x.deps.v from hB.cell' (i := 2) rfl)
  have q1 := cell_grown (w := W) (by show g < _; omega) (show W.cell? ⟨g, 1, none⟩ = some v from (k0.kept.blk (fun h => h) hq).cell' (i := 1) rfl)
  have HG := Lib.hid (fun (w' : World) (hk : Grew W w') => get_grew (hv.kept (k0.trans hk).kept) hVl x.dot.site)
  have HC := Lib.hid (fun (w' : World) (hk : Grew W w') => covers_grew (hv.kept (k0.trans hk).kept) (hD.kept (k0.trans hk).kept) hVl hDl)
  have gbd : 0 ≤ getV V x.dot.site ∧ getV V x.dot.site ≤ 2147483647 := by
    unfold getV
    by_cases h : isSite x.dot.site
    · rw [if_pos h]; exact says_bd V _
    · rw [if_neg h]; exact ⟨by decide, by decide⟩
  have hw : IntKind.i64.wrap (getV V x.dot.site + 1) = getV V x.dot.site + 1 := IntWalk.i64_in _ (by omega)
  have K0 := Lib.hid k0
  have hmix : Try.prog.follows .mixedOrders = true := by kernel_rfl
  have HW := Lib.hid hW
  by_cases hs : x.dot.seq = getV V x.dot.site + 1
  · have hsb : (x.dot.seq == getV V x.dot.site + 1) = true := beq_iff_eq.2 hs
    have ANS : Hid (decide (coversV V D) = decide (Ent.can V x.dot D)) := Lib.hid (decide_eq_decide.2 ⟨fun h => ⟨hs, h⟩, fun h => h.2⟩)
    generalize decide (coversV V D) = cb at *
    generalize getV V x.dot.site = gv at *
    clear hq hv hD hB k0 gbd hs hz hgt hW
    go_enter Try.func29, Try.ntmps29
    go_wp2_with fail
    rw [HW.out]
    go_quiet_grown (first
      | (go_at_call 46; exact grown_call HC.out _ _)
      | (go_at_call 43; exact grown_call HG.out _ _))
    go_wp2_with fail
    go_ret
    exact ⟨by rw [← ANS.out]; rfl, K0.out.trans (Grew.grown _ _)⟩
  · have hsb : (x.dot.seq == getV V x.dot.site + 1) = false := beq_eq_false_iff_ne.2 hs
    have ANS : Hid (false = decide (Ent.can V x.dot D)) := Lib.hid (decide_eq_false fun h => hs h.1).symm
    generalize getV V x.dot.site = gv at *
    clear hq hv hD hB k0 gbd hs hz hgt hW
    go_enter Try.func29, Try.ntmps29
    go_wp2_with fail
    rw [HW.out]
    go_quiet_grown (first
      | (go_at_call 43; exact grown_call HG.out _ _))
    go_wp2_with fail
    go_ret
    exact ⟨by rw [← ANS.out]; rfl, K0.out.trans (Grew.grown _ _)⟩
end Go.Proofs.Ytaaeomapbigfgaa
namespace Go.Proofs.Ytaaeomapbigfgaa
open Go.RowKit Go.Proofs.Ytaaeomapbigfgaa.St
theorem or3 (g : Nat) (x y z : Int) (w : World) (h0 : w.cell? ⟨g, 0, none⟩ = some (.int .i64 x)) (h1 : w.cell? ⟨g, 1, none⟩ = some (.int .i64 y)) (h2 : w.cell? ⟨g, 2, none⟩ = some (.int .i64 z)) :
    Calls Try.prog 37 #[.slice (some ⟨g, 0, none⟩) 3 3] w fun e w' => e = .returned (.int .i64 (orL [x, y, z])) ∧ w = w' := by
  go_enter Try.func37, Try.ntmps37
  go_wp2
  go_loop [8] (fun i => ∃ k : Nat, k ≤ 3 ∧ i = .int .i64 k ∧ orL [x, y, z] = orL ([x, y, z].drop k)) (fun i => 3 - (intOf i).toNat)
  case atStart => exact ⟨0, by omega, rfl, rfl⟩
  case round =>
    obtain ⟨k, hk, rfl, he⟩ := hrel
    have E := Lib.hid he
    clear he
    rcases (show k = 0 ∨ k = 1 ∨ k = 2 ∨ k = 3 by omega) with rfl | rfl | rfl | rfl
    · by_cases hx : x = 0
      · subst hx
        go_wp2
        go_round
        case rel => exact ⟨1, by omega, rfl, rfl⟩
        case measure => simp [intOf]
      · have hxb : (x != 0) = true := by simpa using hx
        go_wp2
        go_ret
        exact ⟨by simp [orL, hx], rfl⟩
    · by_cases hy : y = 0
      · subst hy
        go_wp2
        go_round
        case rel => exact ⟨2, by omega, rfl, E.out.trans (by simp [orL])⟩
        case measure => simp [intOf]
      · have hyb : (y != 0) = true := by simpa using hy
        go_wp2
        go_ret
        exact ⟨by rw [E.out]; simp [orL, hy], rfl⟩
    · by_cases hz : z = 0
      · subst hz
        go_wp2
        go_round
        case rel => exact ⟨3, by omega, rfl, E.out.trans (by simp [orL])⟩
        case measure => simp [intOf]
      · have hzb : (z != 0) = true := by simpa using hz
        go_wp2
        go_ret
        exact ⟨by rw [E.out]; simp [orL, hz], rfl⟩
    · go_wp2
      go_ret
      exact ⟨by rw [E.out]; rfl, rfl⟩
/-- how far two operations are from one another -/
def farV (a b : Dot) (A B : List Dot) : Int := orL [cmpI (sumV A) (sumV B), cmpI a.site b.site, cmpI a.seq b.seq]
set_option maxRecDepth 100000 in
set_option maxHeartbeats 4000000 in
theorem far_any {w : World} {x y : OpV} {A B : List Dot} (hA : SlAt dotE w x.deps.v A) (hB : SlAt dotE w y.deps.v B) (hAl : A.length ≤ 1000000000) (hBl : B.length ≤ 1000000000) :
    Calls Try.prog 31 #[.agg (opA x), .agg (opA y)] w fun e w' => e = .returned (.int .i64 (farV x.dot y.dot A B)) ∧ Grew w w' := by
  have hX := (Blk.new w 34 (opA x)).alloc (.cells (opA y) 34)
  have hY := Blk.new (w.alloc (.cells (opA x) 34)) 34 (opA y)
  have k0 : Grew w ((w.alloc (.cells (opA x) 34)).alloc (.cells (opA y) 34)) := ((Grew.refl _).alloc _).alloc _
  rw [World.size_alloc] at hY
  have HA := Lib.hid (fun (w' : World) (hk : Grew w w') => sum_grew (hA.kept hk.kept) hAl)
  have HB := Lib.hid (fun (w' : World) (hk : Grew w w') => sum_grew (hB.kept hk.kept) hBl)
  go_enter Try.func31, Try.ntmps31
  go_wp2_with fail
  obtain ⟨W, hW⟩ : ∃ W, ((w.alloc (.cells (opA x) 34)).alloc (.cells (opA y) 34)) = W := ⟨_, rfl⟩
  rw [hW] at hX hY k0 ⊢
  have a0 : W.cell? ⟨w.heap.size, 0, none⟩ = some (.int .i64 x.dot.site) := hX.cell' (i := 0) rfl
  have a1 : W.cell? ⟨w.heap.size, 1, none⟩ = some (.int .i64 x.dot.seq) := hX.cell' (i := 1) rfl
  have a2 : W.cell? ⟨w.heap.size, 2, none⟩ = some x.deps.v := hX.cell' (i := 2) rfl
  have b0 : W.cell? ⟨w.heap.size + 1, 0, none⟩ = some (.int .i64 y.dot.site) := hY.cell' (i := 0) rfl
  have b1 : W.cell? ⟨w.heap.size + 1, 1, none⟩ = some (.int .i64 y.dot.seq) := hY.cell' (i := 1) rfl
  have b2 : W.cell? ⟨w.heap.size + 1, 2, none⟩ = some y.deps.v := hY.cell' (i := 2) rfl
  have KD := k0.drew
  clear hX hY k0 hW hA hB
  have NW := Lib.hid (fun (w2 : World) => Blk.new w2 3 #[.int .i64 (cmpI (sumV A) (sumV B)), .int .i64 (cmpI x.dot.site y.dot.site), .int .i64 (cmpI x.dot.seq y.dot.seq)])
  go_region_held3 (fun w' => w'.cell? ⟨w.heap.size, 0, none⟩ = some (.int .i64 x.dot.site) ∧ w'.cell? ⟨w.heap.size, 1, none⟩ = some (.int .i64 x.dot.seq) ∧ w'.cell? ⟨w.heap.size, 2, none⟩ = some x.deps.v ∧ w'.cell? ⟨w.heap.size + 1, 0, none⟩ = some (.int .i64 y.dot.site) ∧ w'.cell? ⟨w.heap.size + 1, 1, none⟩ = some (.int .i64 y.dot.seq) ∧ w'.cell? ⟨w.heap.size + 1, 2, none⟩ = some y.deps.v) (first | (with_reducible exact ⟨a0, a1, a2, b0, b1, b2⟩) | go_keep)
    (first
      | (go_simp; go_at_call 38; refine (ccmp_any _ _ _).mono ?_; rintro e w' ⟨rfl, rfl⟩)
      | (go_simp; go_at_call 37; refine (or3 w2.heap.size (cmpI (sumV A) (sumV B)) (cmpI x.dot.site y.dot.site) (cmpI x.dot.seq y.dot.seq) _ ((NW.out w2).cell' (i := 0) rfl) ((NW.out w2).cell' (i := 1) rfl) ((NW.out w2).cell' (i := 2) rfl)).mono ?_; rintro e w' ⟨rfl, rfl⟩)
      | (go_simp; go_at_call 47; refine (HB.out _ KE).mono ?_; rintro e w2 ⟨rfl, hk2⟩; have KF := KE.trans hk2; have a0 := hk2.kept.cell a0; have a1 := hk2.kept.cell a1; have a2 := hk2.kept.cell a2; have b0 := hk2.kept.cell b0; have b1 := hk2.kept.cell b1; have b2 := hk2.kept.cell b2)
      | (go_simp; go_at_call 47; refine (HA.out _ KD).mono ?_; rintro e w1 ⟨rfl, hk1⟩; have KE := KD.trans hk1; have a0 := hk1.kept.cell a0; have a1 := hk1.kept.cell a1; have a2 := hk1.kept.cell a2; have b0 := hk1.kept.cell b0; have b1 := hk1.kept.cell b1; have b2 := hk1.kept.cell b2))
  go_wp2_with fail
  go_ret
  exact ⟨rfl, KF.alloc _⟩
theorem SlAt.ent {w : World} {v : Value} {W : List Ent} (h : SlAt entE w v W) (hn : 0 < W.length) : ∃ g o c, v = .slice (some ⟨g, o, none⟩) W.length c ∧ W.length ≤ c ∧ c ≤ maxLen ∧ g < w.heap.size ∧ ∀ (i : Nat) (e : Ent), W[i]? = some e → ∀ (j : Nat) (u : Value), (opA e.v)[j]? = some u →
    w.cell? ⟨g, o + i * 11 + j, none⟩ = some u := by
  obtain ⟨g, o, c, rfl, h1, h2, hg, hc⟩ := h.one hn
  refine ⟨g, o, c, rfl, h1, h2, hg, fun i e he j u hu => ?_⟩
  rw [Nat.add_assoc]
  have hu' : e.v.cells[j]? = some u := by simpa [opA] using hu
  exact hc i e he j u hu'
/-- the place of the first one that is farthest, among the first n -/
def grI (W : List Ent) : Nat → Nat
  | 0 => 0
  | n + 1 => match W[n]?, W[grI W n]? with
    | some e, some f => if 0 < farV e.v.dot f.v.dot e.D f.D then n else grI W n
    | _, _ => grI W n
theorem grI_succ {W : List Ent} {n : Nat} {e f : Ent} (he : W[n]? = some e) (hf : W[grI W n]? = some f) : grI W (n + 1) = if 0 < farV e.v.dot f.v.dot e.D f.D then n else grI W n := by
  show (match W[n]?, W[grI W n]? with
    | some e, some f => if 0 < farV e.v.dot f.v.dot e.D f.D then n else grI W n
    | _, _ => grI W n) = _
  rw [he, hf]
theorem grI_lt (W : List Ent) : ∀ n, n ≤ W.length → 0 < W.length → grI W n < W.length
  | 0, _, h => h
  | n + 1, h, h0 => by
    have ih := grI_lt W n (by omega) h0
    obtain ⟨e, he⟩ := get_of_lt (show n < W.length by omega)
    obtain ⟨f, hf⟩ := get_of_lt ih
    rw [grI_succ he hf]
    split <;> omega
end Go.Proofs.Ytaaeomapbigfgaa
