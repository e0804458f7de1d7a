/- Operations in memory; slices.Clone of Dots. (*causal.Queue).may. causal.far. slices.IndexFunc and slices.DeleteFunc of the identifiers that are none, on a row of the call's own. copy of a row's own elements one place down. It speaks of no program of its own. -/
import Derived.Test.YtaaeomapbigfgaaGreatU4
import Derived.Laws.StructEq
import Derived.Shelf.SlSortCmp.QuietGrown
import Derived.Deep.RegionHeld3
import Derived.Laws.IdiomCopy
import Derived.Shelf.Abstract
import Derived.Test.YtaaeomapbigfgaaGreatU3
import Derived.Laws.CopyRow
import Derived.Deep.RegionLaw
namespace Go.Proofs.YtaaeomapbigfgaaGreat
open Go.RowKit Go.Proofs.YtaaeomapbigfgaaGreat.St
set_option maxRecDepth 100000 in
set_option maxHeartbeats 1000000 in
theorem clone_dot {w : World} {v : Value} {L : List Dot} (h : SlAt dotE w v L) (hb : L.length ≤ 1000000000) :
    Calls Tryz.prog 30 #[v] w fun e w' => ∃ v', e = .returned v' ∧ w'.ownsRow w.heap.size 28 2 v' L.length (dotE.flat L) ∧ Kept (fun _ => False) w w' := by
  have q := fun (w : World) (a : Option Addr) (n c n' c' : Nat) => Lib.run_eql_slice_nil (P := Tryz.prog) w 23 _ a n c n' c' Tryz.underlying23
  obtain ⟨a, c, rfl, hle, hc⟩ := h.sl
  cases a with
  | none =>
    obtain ⟨rfl, _, rfl⟩ := h.none_
    clear h hb hc hle
    go_enter Tryz.func30, Tryz.ntmps30
    go_wp2
    go_ret
    exact ⟨_, rfl, World.ownsRow_nil _ _ _ _, Kept.refl _ _⟩
  | some x =>
    obtain ⟨_, hn⟩ := h.at_
    obtain ⟨i0, hi, hz0, hz1, hz2⟩ := info_parts info_dot
    have hl := dotE.flat_len L
    have h1 := dotE.flat_one_cell L
    generalize dotE.flat L = news at hn hl h1 ⊢
    generalize L.length = n at *
    have hl2 : news.length = n * 2 := hl
    have hn2 : ∀ j u, news[j]? = some u → (w.alloc (.cells #[] 28)).cell? (x.add j) = some u := fun j u hu => by
      have hc := hn j u hu
      rw [World.cell?_of_block (a := x.add j) (w := w)]
      · exact hc
      · exact Below.heap_alloc w _ _ (World.block_lt_of_cell? w _ hc)
    have N := Lib.hid hn2
    have I := Lib.hid hi
    have Z0 := Lib.hid hz0
    have Z1 := Lib.hid hz1
    have Z2 := Lib.hid hz2
    have HL := Lib.hid hl2
    have H1 := Lib.hid h1
    have h63 : 0 + n ≤ maxLen := by unfold maxLen; omega
    have hby : (0 + n) * 16 ≤ 140737488355328 := by omega
    clear hn hn2 hi hz0 hz1 hz2 hl hl2 h1 h hc
    go_enter Tryz.func30, Tryz.ntmps30
    go_wp2_with (at_builtin; refine wpList_append_own _ rfl _ _ 23 rfl w.heap.size 28 i0 (.agg #[.int .i64 0, .int .i64 0]) 2 16 Tryz.underlying23 I.out Z0.out Z1.out Z2.out rfl (by decide) _ _ _ rfl (World.ownsRow_made w #[] 0 (Nat.le_refl _) (Nat.zero_le _) (by simp)) x n c news rfl HL.out N.out H1.out h63 hby (by simp) ?_)
    intro v' w1 hown hgrow _
    go_wp2
    go_ret
    refine ⟨v', rfl, by simpa using hown, ?_⟩
    exact ((Kept.refl _ _).alloc _).grown hgrow (fun k e hk => by simp [Value.ownBlock] at e; omega)
/-- a slice's own words -/
structure Sl where
  a : Option Addr
  n : Nat
  c : Nat
def Sl.v (s : Sl) : Value := .slice s.a s.n s.c
theorem Sl.of {α : Type} {E : Enc α} {w : World} {v : Value} {L : List α} (h : SlAt E w v L) : ∃ s : Sl, v = s.v := by
  obtain ⟨a, c, rfl, _⟩ := h.sl
  exact ⟨⟨a, _, c⟩, rfl⟩
/-- an operation as it stands in cells -/
structure OpV where
  dot : Dot
  deps : Sl
  kind : Int
  id : ID
  ref : ID
  text : ByteArray
  gone : Sl
  site : Int
def OpV.cells (x : OpV) : List Value := [.int .i64 x.dot.site, .int .i64 x.dot.seq, x.deps.v, .int .i64 x.kind, .int .i64 x.id.t, .int .i64 x.id.s, .int .i64 x.ref.t, .int .i64 x.ref.s, .string x.text, x.gone.v, .int .i64 x.site]
def opA (x : OpV) : Array Value := x.cells.toArray
theorem opA_size (x : OpV) : (opA x).size = 11 := rfl
theorem opA_one (x : OpV) : (opA x).all (·.oneCell') = true := by simp [opA, OpV.cells, Value.oneCell', Sl.v]
/-- an operation with what its lists say -/
structure Ent where
  v : OpV
  D : List Dot
  G : List Run
def entE : Enc Ent := ⟨11, fun e => e.v.cells, fun _ => rfl, by decide, fun e u hu => by
  have h := (Array.all_eq_true_iff_forall_mem.1 (opA_one e.v)) u (by simpa [opA] using hu)
  exact h⟩
structure Ent.At (w : World) (e : Ent) : Prop where
  deps : SlAt dotE w e.v.deps.v e.D
  gone : SlAt runE w e.v.gone.v e.G
def Ent.can (V : List Dot) (d : Dot) (D : List Dot) : Prop := d.seq = getV V d.site + 1 ∧ coversV V D
instance (V : List Dot) (d : Dot) (D : List Dot) : Decidable (Ent.can V d D) := by unfold Ent.can; infer_instance
theorem info_op : (Tryz.prog.info? 42).map (fun i => (i.zero, i.size, i.bytes)) = some (some (.agg #[.int .i64 0, .int .i64 0, .slice none 0 0, .int .i64 0, .int .i64 0, .int .i64 0, .int .i64 0, .int .i64 0, .string ByteArray.empty, .slice none 0 0, .int .i64 0]), 11, 128) := by kernel_rfl
end Go.Proofs.YtaaeomapbigfgaaGreat
namespace Go.Proofs.YtaaeomapbigfgaaGreat
open Go.RowKit Go.Proofs.YtaaeomapbigfgaaGreat.St
open Go.Sort (grow)
theorem Grew.grown {w : World} (n : Nat) (os : Array Obj) : Grew w (grow (w.drewN n) os) := ⟨n, os, rfl⟩
/-- a contract at every world that has grown, as the drawn regions ask it -/
theorem grown_call {f : FuncId} {args : Array Value} {w : World} {v : Value} (h : ∀ w', Grew w w' → Calls Tryz.prog f args w' fun e w'' => e = .returned v ∧ Grew w' w'') (n : Nat) (os : Array Obj) :
    Calls Tryz.prog f args (grow (w.drewN n) os) fun e w'' => e = .returned v ∧ ∃ p : GrownBy, w'' = grow (w.drewN p.n) p.os :=
  Calls.grown_of ((h _ (Grew.grown n os)).mono fun _ _ ⟨he, q, os', hq⟩ => ⟨he, q, os', hq⟩)
set_option maxRecDepth 100000 in
set_option maxHeartbeats 4000000 in
theorem may_grew {w : World} {g : Nat} {h0 v wv ov : Value} {V D : List Dot} {x : OpV} (hq : Blk w g 49 #[h0, v, wv, ov]) (hv : SlAt dotE w v V) (hD : SlAt dotE w x.deps.v D) (hVl : V.length ≤ 1000000000) (hDl : D.length ≤ 1000000000) :
    Calls Tryz.prog 42 #[.pointer (some ⟨g, 0, none⟩), .agg (opA x)] w fun e w' => e = .returned (.bool (decide (Ent.can V x.dot D))) ∧ Grew w w' := by
  have hB := Blk.new w 42 (opA x)
  have k0 : Grew w (w.alloc (.cells (opA x) 42)) := (Grew.refl _).alloc _
  have hgt := hq.lt
  obtain ⟨W, hW, hz⟩ : ∃ W, w.alloc (.cells (opA x) 42) = W ∧ W.heap.size = w.heap.size + 1 := ⟨_, rfl, by simp⟩
  rw [hW] at hB k0
  have b0 := cell_grown (w := W) (by show w.heap.size < _; omega) (show W.cell? ⟨w.heap.size, 0, none⟩ = some (.int .i64 x.dot.site) from hB.cell' (i := 0) rfl)
  have b1 := cell_grown (w := W) (by show w.heap.size < _; omega) (show W.cell? ⟨w.heap.size, 1, none⟩ = some (.int .i64 x.dot.seq) from hB.cell' (i := 1) rfl)
  have b2 := cell_grown (w := W) (by show w.heap.size < _; omega) (show W.cell? ⟨w.heap.size, 2, none⟩ = some x.deps.v from hB.cell' (i := 2) rfl)
  have q1 := cell_grown (w := W) (by show g < _; omega) (show W.cell? ⟨g, 1, none⟩ = some v from (k0.kept.blk (fun h => h) hq).cell' (i := 1) rfl)
  have HG := Lib.hid (fun (w' : World) (hk : Grew W w') => get_grew (hv.kept (k0.trans hk).kept) hVl x.dot.site)
  have HC := Lib.hid (fun (w' : World) (hk : Grew W w') => covers_grew (hv.kept (k0.trans hk).kept) (hD.kept (k0.trans hk).kept) hVl hDl)
  have gbd : 0 ≤ getV V x.dot.site ∧ getV V x.dot.site ≤ 2147483647 := by
    unfold getV
    by_cases h : isSite x.dot.site
    · rw [if_pos h]; exact says_bd V _
    · rw [if_neg h]; exact ⟨by decide, by decide⟩
  have hw : IntKind.i64.wrap (getV V x.dot.site + 1) = getV V x.dot.site + 1 := IntWalk.i64_in _ (by omega)
  have K0 := Lib.hid k0
  have hmix : Tryz.prog.follows .mixedOrders = true := by kernel_rfl
  have HW := Lib.hid hW
  by_cases hs : x.dot.seq = getV V x.dot.site + 1
  · have hsb : (x.dot.seq == getV V x.dot.site + 1) = true := beq_iff_eq.2 hs
    have ANS : Hid (decide (coversV V D) = decide (Ent.can V x.dot D)) := Lib.hid (decide_eq_decide.2 ⟨fun h => ⟨hs, h⟩, fun h => h.2⟩)
    generalize decide (coversV V D) = cb at *
    generalize getV V x.dot.site = gv at *
    clear hq hv hD hB k0 gbd hs hz hgt hW
    go_enter Tryz.func42, Tryz.ntmps42
    go_wp2_with fail
    rw [HW.out]
    go_quiet_grown (first
      | (go_at_call 67; exact grown_call HC.out _ _)
      | (go_at_call 64; exact grown_call HG.out _ _))
    go_wp2_with fail
    go_ret
    exact ⟨by rw [← ANS.out]; rfl, K0.out.trans (Grew.grown _ _)⟩
  · have hsb : (x.dot.seq == getV V x.dot.site + 1) = false := beq_eq_false_iff_ne.2 hs
    have ANS : Hid (false = decide (Ent.can V x.dot D)) := Lib.hid (decide_eq_false fun h => hs h.1).symm
    generalize getV V x.dot.site = gv at *
    clear hq hv hD hB k0 gbd hs hz hgt hW
    go_enter Tryz.func42, Tryz.ntmps42
    go_wp2_with fail
    rw [HW.out]
    go_quiet_grown (first
      | (go_at_call 64; exact grown_call HG.out _ _))
    go_wp2_with fail
    go_ret
    exact ⟨by rw [← ANS.out]; rfl, K0.out.trans (Grew.grown _ _)⟩
end Go.Proofs.YtaaeomapbigfgaaGreat
namespace Go.Proofs.YtaaeomapbigfgaaGreat
open Go.RowKit Go.Proofs.YtaaeomapbigfgaaGreat.St
theorem or3 (g : Nat) (x y z : Int) (w : World) (h0 : w.cell? ⟨g, 0, none⟩ = some (.int .i64 x)) (h1 : w.cell? ⟨g, 1, none⟩ = some (.int .i64 y)) (h2 : w.cell? ⟨g, 2, none⟩ = some (.int .i64 z)) :
    Calls Tryz.prog 49 #[.slice (some ⟨g, 0, none⟩) 3 3] w fun e w' => e = .returned (.int .i64 (orL [x, y, z])) ∧ w = w' := by
  go_enter Tryz.func49, Tryz.ntmps49
  go_wp2
  go_loop [8] (fun i => ∃ k : Nat, k ≤ 3 ∧ i = .int .i64 k ∧ orL [x, y, z] = orL ([x, y, z].drop k)) (fun i => 3 - (intOf i).toNat)
  case atStart => exact ⟨0, by omega, rfl, rfl⟩
  case round =>
    obtain ⟨k, hk, rfl, he⟩ := hrel
    have E := Lib.hid he
    clear he
    rcases (show k = 0 ∨ k = 1 ∨ k = 2 ∨ k = 3 by omega) with rfl | rfl | rfl | rfl
    · by_cases hx : x = 0
      · subst hx
        go_wp2
        go_round
        case rel => exact ⟨1, by omega, rfl, rfl⟩
        case measure => simp [intOf]
      · have hxb : (x != 0) = true := by simpa using hx
        go_wp2
        go_ret
        exact ⟨by simp [orL, hx], rfl⟩
    · by_cases hy : y = 0
      · subst hy
        go_wp2
        go_round
        case rel => exact ⟨2, by omega, rfl, E.out.trans (by simp [orL])⟩
        case measure => simp [intOf]
      · have hyb : (y != 0) = true := by simpa using hy
        go_wp2
        go_ret
        exact ⟨by rw [E.out]; simp [orL, hy], rfl⟩
    · by_cases hz : z = 0
      · subst hz
        go_wp2
        go_round
        case rel => exact ⟨3, by omega, rfl, E.out.trans (by simp [orL])⟩
        case measure => simp [intOf]
      · have hzb : (z != 0) = true := by simpa using hz
        go_wp2
        go_ret
        exact ⟨by rw [E.out]; simp [orL, hz], rfl⟩
    · go_wp2
      go_ret
      exact ⟨by rw [E.out]; rfl, rfl⟩
/-- how far two operations are from one another -/
def farV (a b : Dot) (A B : List Dot) : Int := orL [cmpI (sumV A) (sumV B), cmpI a.site b.site, cmpI a.seq b.seq]
set_option maxRecDepth 100000 in
set_option maxHeartbeats 4000000 in
theorem far_any {w : World} {x y : OpV} {A B : List Dot} (hA : SlAt dotE w x.deps.v A) (hB : SlAt dotE w y.deps.v B) (hAl : A.length ≤ 1000000000) (hBl : B.length ≤ 1000000000) :
    Calls Tryz.prog 44 #[.agg (opA x), .agg (opA y)] w fun e w' => e = .returned (.int .i64 (farV x.dot y.dot A B)) ∧ Grew w w' := by
  have hX := (Blk.new w 42 (opA x)).alloc (.cells (opA y) 42)
  have hY := Blk.new (w.alloc (.cells (opA x) 42)) 42 (opA y)
  have k0 : Grew w ((w.alloc (.cells (opA x) 42)).alloc (.cells (opA y) 42)) := ((Grew.refl _).alloc _).alloc _
  rw [World.size_alloc] at hY
  have HA := Lib.hid (fun (w' : World) (hk : Grew w w') => sum_grew (hA.kept hk.kept) hAl)
  have HB := Lib.hid (fun (w' : World) (hk : Grew w w') => sum_grew (hB.kept hk.kept) hBl)
  go_enter Tryz.func44, Tryz.ntmps44
  go_wp2_with fail
  obtain ⟨W, hW⟩ : ∃ W, ((w.alloc (.cells (opA x) 42)).alloc (.cells (opA y) 42)) = W := ⟨_, rfl⟩
  rw [hW] at hX hY k0 ⊢
  have a0 : W.cell? ⟨w.heap.size, 0, none⟩ = some (.int .i64 x.dot.site) := hX.cell' (i := 0) rfl
  have a1 : W.cell? ⟨w.heap.size, 1, none⟩ = some (.int .i64 x.dot.seq) := hX.cell' (i := 1) rfl
  have a2 : W.cell? ⟨w.heap.size, 2, none⟩ = some x.deps.v := hX.cell' (i := 2) rfl
  have b0 : W.cell? ⟨w.heap.size + 1, 0, none⟩ = some (.int .i64 y.dot.site) := hY.cell' (i := 0) rfl
  have b1 : W.cell? ⟨w.heap.size + 1, 1, none⟩ = some (.int .i64 y.dot.seq) := hY.cell' (i := 1) rfl
  have b2 : W.cell? ⟨w.heap.size + 1, 2, none⟩ = some y.deps.v := hY.cell' (i := 2) rfl
  have KD := k0.drew
  clear hX hY k0 hW hA hB
  have NW := Lib.hid (fun (w2 : World) => Blk.new w2 3 #[.int .i64 (cmpI (sumV A) (sumV B)), .int .i64 (cmpI x.dot.site y.dot.site), .int .i64 (cmpI x.dot.seq y.dot.seq)])
  go_region_held3 (fun w' => w'.cell? ⟨w.heap.size, 0, none⟩ = some (.int .i64 x.dot.site) ∧ w'.cell? ⟨w.heap.size, 1, none⟩ = some (.int .i64 x.dot.seq) ∧ w'.cell? ⟨w.heap.size, 2, none⟩ = some x.deps.v ∧ w'.cell? ⟨w.heap.size + 1, 0, none⟩ = some (.int .i64 y.dot.site) ∧ w'.cell? ⟨w.heap.size + 1, 1, none⟩ = some (.int .i64 y.dot.seq) ∧ w'.cell? ⟨w.heap.size + 1, 2, none⟩ = some y.deps.v) (first | (with_reducible exact ⟨a0, a1, a2, b0, b1, b2⟩) | go_keep)
    (first
      | (go_simp; go_at_call 50; refine (ccmp_any _ _ _).mono ?_; rintro e w' ⟨rfl, rfl⟩)
      | (go_simp; go_at_call 49; refine (or3 w2.heap.size (cmpI (sumV A) (sumV B)) (cmpI x.dot.site y.dot.site) (cmpI x.dot.seq y.dot.seq) _ ((NW.out w2).cell' (i := 0) rfl) ((NW.out w2).cell' (i := 1) rfl) ((NW.out w2).cell' (i := 2) rfl)).mono ?_; rintro e w' ⟨rfl, rfl⟩)
      | (go_simp; go_at_call 68; refine (HB.out _ KE).mono ?_; rintro e w2 ⟨rfl, hk2⟩; have KF := KE.trans hk2; have a0 := hk2.kept.cell a0; have a1 := hk2.kept.cell a1; have a2 := hk2.kept.cell a2; have b0 := hk2.kept.cell b0; have b1 := hk2.kept.cell b1; have b2 := hk2.kept.cell b2)
      | (go_simp; go_at_call 68; refine (HA.out _ KD).mono ?_; rintro e w1 ⟨rfl, hk1⟩; have KE := KD.trans hk1; have a0 := hk1.kept.cell a0; have a1 := hk1.kept.cell a1; have a2 := hk1.kept.cell a2; have b0 := hk1.kept.cell b0; have b1 := hk1.kept.cell b1; have b2 := hk1.kept.cell b2))
  go_wp2_with fail
  go_ret
  exact ⟨rfl, KF.alloc _⟩
theorem SlAt.ent {w : World} {v : Value} {W : List Ent} (h : SlAt entE w v W) (hn : 0 < W.length) : ∃ g o c, v = .slice (some ⟨g, o, none⟩) W.length c ∧ W.length ≤ c ∧ c ≤ maxLen ∧ g < w.heap.size ∧ ∀ (i : Nat) (e : Ent), W[i]? = some e → ∀ (j : Nat) (u : Value), (opA e.v)[j]? = some u →
    w.cell? ⟨g, o + i * 11 + j, none⟩ = some u := by
  obtain ⟨g, o, c, rfl, h1, h2, hg, hc⟩ := h.one hn
  refine ⟨g, o, c, rfl, h1, h2, hg, fun i e he j u hu => ?_⟩
  rw [Nat.add_assoc]
  have hu' : e.v.cells[j]? = some u := by simpa [opA] using hu
  exact hc i e he j u hu'
/-- the place of the first one that is farthest, among the first n -/
def grI (W : List Ent) : Nat → Nat
  | 0 => 0
  | n + 1 => match W[n]?, W[grI W n]? with
    | some e, some f => if 0 < farV e.v.dot f.v.dot e.D f.D then n else grI W n
    | _, _ => grI W n
theorem grI_succ {W : List Ent} {n : Nat} {e f : Ent} (he : W[n]? = some e) (hf : W[grI W n]? = some f) : grI W (n + 1) = if 0 < farV e.v.dot f.v.dot e.D f.D then n else grI W n := by
  show (match W[n]?, W[grI W n]? with
    | some e, some f => if 0 < farV e.v.dot f.v.dot e.D f.D then n else grI W n
    | _, _ => grI W n) = _
  rw [he, hf]
theorem grI_lt (W : List Ent) : ∀ n, n ≤ W.length → 0 < W.length → grI W n < W.length
  | 0, _, h => h
  | n + 1, h, h0 => by
    have ih := grI_lt W n (by omega) h0
    obtain ⟨e, he⟩ := get_of_lt (show n < W.length by omega)
    obtain ⟨f, hf⟩ := get_of_lt ih
    rw [grI_succ he hf]
    split <;> omega
end Go.Proofs.YtaaeomapbigfgaaGreat
namespace Go.Proofs.YtaaeomapbigfgaaGreat
open Go.RowKit
section
variable {α : Type} {E : Enc α} {w : World} {t : TypeId} {g cap : Nat} {D : List α}
theorem Blk.setCells : ∀ (vs : List Value) (o : Nat) {w : World} {cs : Array Value}, Blk w g t cs → ∃ cs', Blk (w.setCells g o vs) g t cs' ∧ cs'.size = cs.size ∧ ∀ m, m < o → cs'[m]? = cs[m]?
  | [], o, w, cs, h => ⟨cs, h, rfl, fun _ _ => rfl⟩
  | v :: r, o, w, cs, h => by
    obtain ⟨cs', h1, h2, h3⟩ := Blk.setCells r (o + 1) (h.set_ o v)
    refine ⟨cs', h1, by simpa using h2, fun m hm => ?_⟩
    rw [h3 m (by omega), Array.getElem?_setIfInBounds_ne (by omega)]
theorem Kept.setCells (g : Nat) : ∀ (vs : List Value) (o : Nat) {w0 w : World}, Kept (· = g) w0 w → Kept (· = g) w0 (w.setCells g o vs)
  | [], _, _, _, h => h
  | v :: r, o, _, _, h => Kept.setCells g r (o + 1) (h.setCell (p := ⟨g, o, none⟩) (fun _ => rfl) v)
theorem run_clear_own {P : Program} (h : OwnAt E w t g cap D) {T e : TypeId} (ty : TypeId) (ht : P.underlying T = some (.slice e)) {z : Value} (hv : ∀ w, (zeroValue e).run P w = .ok z w) (hz : z.cells.size = E.k) (hz1 : ∀ u ∈ z.cells.toList, u.oneCell' = true)
    {i n c : Nat} (hn : i + n ≤ cap) : ∃ w', (Builtin.clear_ #[T] ty #[.slice (some ⟨g, i * E.k, none⟩) n c]).run P w = .ok (.tuple #[]) w' ∧ OwnAt E w' t g cap (D.take i) ∧ Kept (· = g) w w' := by
  rcases n with _ | m
  · refine ⟨w, ?_, h.take i, Kept.refl _ _⟩
    simp [Builtin.clear_, run_underlying ht]
  · have hsz : (Builtin.zeroCells z.cells (m + 1)).toList.length = (m + 1) * E.k := by simp [Builtin.zeroCells, hz]
    have hone : ∀ u ∈ (Builtin.zeroCells z.cells (m + 1)).toList, u.oneCell' = true := by
      intro u hu
      simp only [Builtin.zeroCells, Array.toList_map, List.mem_map] at hu
      obtain ⟨k, _, rfl⟩ := hu
      refine hz1 _ ?_
      have hk : k % z.cells.size < z.cells.size := Nat.mod_lt _ (by rw [hz]; exact E.pos)
      rw [getElem!_pos z.cells _ hk]
      exact Array.getElem_mem_toList hk
    have hO := h
    obtain ⟨cs, h1, h2, h3, h4, h5⟩ := h
    have hin : ∀ j, j < (m + 1) * E.k → i * E.k + j < cs.size := fun j hj => by
      have := Nat.mul_le_mul_right E.k hn
      rw [Nat.add_mul] at this
      omega
    have hst := run_storeCells_cells (P := P) g (i * E.k) (Builtin.zeroCells z.cells (m + 1)).toList 0 w (fun j hj => by rw [Nat.add_zero, h1.cell]; simp [hin j (by omega)]) (fun j hj => h1.frozen _) hone
    obtain ⟨cs', g1, g2, g3⟩ := Blk.setCells (Builtin.zeroCells z.cells (m + 1)).toList (i * E.k) h1
    refine ⟨w.setCells g (i * E.k) (Builtin.zeroCells z.cells (m + 1)).toList, ?_, ⟨cs', g1, by omega, by rw [List.length_take]; omega, h4, ?_⟩, Kept.setCells g _ _ (Kept.refl _ _)⟩
    · simp only [Nat.add_zero] at hst
      simp [Builtin.clear_, run_underlying ht, hv, hst]
    · intro a x hx j u hu
      rw [List.getElem?_take] at hx
      split at hx
      · rename_i ha
        have hj : j < E.k := by rw [← E.len x]; exact (List.getElem?_eq_some_iff.1 hu).1
        have := Nat.mul_le_mul_right E.k (show a + 1 ≤ i by omega)
        rw [Nat.add_mul] at this
        rw [g3 _ (by omega)]
        exact h5 a x hx j u hu
      · cases hx
end
namespace St
theorem OwnAt.id {w : World} {t : TypeId} {g cap : Nat} {D : List ID} (h : OwnAt idE w t g cap D) {i : Nat} {x : ID} (hx : D[i]? = some x) :
    w.cell? ⟨g, i * 2, none⟩ = some (.int .i64 x.t) ∧ w.cell? ⟨g, i * 2 + 1, none⟩ = some (.int .i64 x.s) := ⟨h.cell (j := 0) hx rfl, h.cell (j := 1) hx rfl⟩
/-- the place of the first that is none -/
def FirstBad (D : List ID) (i : Int) : Prop := (i = -1 ∧ ∀ x ∈ D, isB x = true) ∨ ∃ k : Nat, i = k ∧ k < D.length ∧ (∀ (j : Nat) x, j < k → D[j]? = some x → isB x = true) ∧ ∀ x, D[k]? = some x → isB x = false

theorem zero_id : ∀ w, (zeroValue 39).run Tryz.prog w = .ok (.agg #[.int .i64 0, .int .i64 0]) w := fun _ => by kernel_rfl
/-- what DeleteFunc keeps: i written, j looked at -/
structure DelInv (D : List ID) (i j : Nat) (X : List ID) : Prop where
  len : X.length = D.length
  low : X.take i = (D.take j).filter isB
  il : i = ((D.take j).filter isB).length
  lt : i < j
  high : ∀ m, j ≤ m → X[m]? = D[m]?
theorem DelInv.skip {D X : List ID} {i j : Nat} {x : ID} (h : DelInv D i j X) (hx : D[j]? = some x) (hb : isB x = false) : DelInv D i (j + 1) X := by
  have e : (D.take (j + 1)).filter isB = (D.take j).filter isB := by rw [List.take_add_one, hx, List.filter_append]; simp [hb]
  exact ⟨h.len, by rw [e]; exact h.low, by rw [e]; exact h.il, by have := h.lt; omega, fun m hm => h.high m (by omega)⟩
theorem DelInv.keep {D X : List ID} {i j : Nat} {x : ID} (h : DelInv D i j X) (hx : D[j]? = some x) (hb : isB x = true) : DelInv D (i + 1) (j + 1) (X.set i x) := by
  have hj : j < D.length := (List.getElem?_eq_some_iff.1 hx).1
  have hl := h.len
  have hij := h.lt
  have e : (D.take (j + 1)).filter isB = (D.take j).filter isB ++ [x] := by rw [List.take_add_one, hx, List.filter_append]; simp [hb]
  refine ⟨by simpa using hl, ?_, by rw [e, List.length_append, ← h.il]; rfl, by omega, fun m hm => ?_⟩
  · rw [e, ← h.low, List.take_add_one, List.take_set_of_le (Nat.le_refl _), List.getElem?_set_self (by omega)]
    rfl
  · rw [List.getElem?_set_ne (by omega)]
    exact h.high m (by omega)
theorem DelInv.start {D : List ID} {k : Nat} (h1 : ∀ (j : Nat) x, j < k → D[j]? = some x → isB x = true) (h2 : ∀ x, D[k]? = some x → isB x = false) (hk : k < D.length) : DelInv D k (k + 1) D := by
  obtain ⟨x, hx⟩ := get_of_lt hk
  have e0 : (D.take k).filter isB = D.take k := List.filter_eq_self.2 fun y hy => by
    obtain ⟨j, hj⟩ := List.getElem?_of_mem hy
    rw [List.getElem?_take] at hj
    split at hj
    · rename_i hjk; exact h1 j y hjk hj
    · cases hj
  have e : (D.take (k + 1)).filter isB = D.take k := by rw [List.take_add_one, hx, List.filter_append, e0]; simp [h2 x hx]
  exact ⟨rfl, e.symm, by rw [e, List.length_take]; omega, by omega, fun _ _ => rfl⟩
theorem DelInv.done {D X : List ID} {i : Nat} (h : DelInv D i D.length X) : X.take i = D.filter isB ∧ i = (D.filter isB).length := by
  have h1 := h.low
  have h2 := h.il
  rw [List.take_length] at h1 h2
  exact ⟨h1, h2⟩

end St
end Go.Proofs.YtaaeomapbigfgaaGreat
namespace Go.Proofs.YtaaeomapbigfgaaGreat
open Go.RowKit
section
variable {P : Program} {α : Type} {E : Enc α} {w : World} {t : TypeId} {g cap : Nat} {D : List α}
theorem run_copy_rowK (w : World) (dT sT ty elem : TypeId) (g o dLen dCap : Nat) (a : Addr) (sLen sCap : Nat) (cur : Array Value) (t : TypeId) (cs : List Value) {k n : Nat}
    (hu : P.underlying dT = some (.slice elem)) (hs : (P.info? elem).map (·.size) = some k)
    (hg : w.heap[g]? = some (.cells cur t (0, 0))) (hn : n = Nat.min sLen dLen) (hcs : cs.length = n * k)
    (hsrc : ∀ j v, cs[j]? = some v → w.cell? (a.add j) = some v) (hfit : o + cs.length ≤ cur.size) (h1 : ∀ v ∈ cs, v.oneCell' = true) :
    (Builtin.copy_ #[dT, sT] ty #[.slice (some ⟨g, o, none⟩) dLen dCap, .slice (some a) sLen sCap]).run P w =
      .ok (goInt n) (w.setRow g (cur.toList.take o ++ cs ++ cur.toList.drop (o + cs.length)).toArray) := by
  have hl := run_loadCells_list (P := P) w a cs hsrc
  have hst := run_storeCells_at P g o t cs 0 cur w hg (by simpa using hfit) h1
  cases hq : P.info? elem with
  | none => simp [hq] at hs
  | some i =>
    have hi : i.size = k := by simpa [hq] using hs
    rw [hcs] at hl
    simp [Builtin.copy_, run_underlying hu, Builtin.lenOf, Builtin.firstCells, sizeOf, typeInfo, hq, hi, ← hn, hl, hst]
theorem run_copy_erase (h : OwnAt E w t g cap D) (dT sT ty elem : TypeId) (hu : P.underlying dT = some (.slice elem)) (hs : (P.info? elem).map (·.size) = some E.k) {i : Nat} (hi : i + 1 < D.length) (c1 c2 : Nat) :
    ∃ w', (Builtin.copy_ #[dT, sT] ty #[.slice (some ⟨g, i * E.k, none⟩) (D.length - i) c1, .slice (some ⟨g, (i + 1) * E.k, none⟩) (D.length - (i + 1)) c2]).run P w = .ok (goInt ((D.length - (i + 1) : Nat) : Int)) w' ∧
      OwnAt E w' t g cap (D.eraseIdx i) ∧ Kept (· = g) w w' := by
  obtain ⟨cs, h1, h2, h3, h4, h5⟩ := h
  have hf := Enc.Row.flat h5
  have hlen : (E.flat (D.drop (i + 1))).length = (D.length - (i + 1)) * E.k := by rw [E.flat_len, List.length_drop]
  have hmul : D.length * E.k ≤ cap * E.k := Nat.mul_le_mul_right _ h3
  have hsplit : D.length * E.k = (i + 1) * E.k + (D.length - (i + 1)) * E.k := by rw [← Nat.add_mul]; congr 1; omega
  have hi1 : (i + 1) * E.k = i * E.k + E.k := Nat.succ_mul _ _
  refine ⟨_, run_copy_rowK w dT sT ty elem g (i * E.k) (D.length - i) c1 ⟨g, (i + 1) * E.k, none⟩ (D.length - (i + 1)) c2 cs t (E.flat (D.drop (i + 1))) (k := E.k) (n := D.length - (i + 1)) hu hs h1 (by
    rw [show Nat.min (D.length - (i + 1)) (D.length - i) = D.length - (i + 1) from Nat.min_eq_left (by omega)]) hlen (fun j v hv => ?_) (by rw [hlen]; omega) (E.flat_one_cell _), ⟨_, Blk.row h1 _, ?_, ?_, h4, ?_⟩, (Kept.refl (fun x => x = g) w).setRow (g := g) (fun _ => rfl) _⟩
  · have hadd : (⟨g, (i + 1) * E.k, none⟩ : Addr).add j = ⟨g, (i + 1) * E.k + j, none⟩ := by unfold Addr.add; split <;> simp_all
    obtain ⟨i', j', x, hj, hx, hu'⟩ := E.flat_inv hv
    rw [List.getElem?_drop] at hx
    have := h5 (i + 1 + i') x hx j' v hu'
    rw [hadd, h1.cell, hj, show (i + 1) * E.k + (i' * E.k + j') = (i + 1 + i') * E.k + j' by rw [Nat.add_mul (i + 1)]; omega]
    exact this
  · have : cs.toList.length = cap * E.k := by simpa using h2
    simp [hlen]
    omega
  · rw [List.length_eraseIdx]; split <;> omega
  · refine Enc.Row.of_flat ?_
    have hel : (D.eraseIdx i).length = D.length - 1 := by rw [List.length_eraseIdx, if_pos (by omega)]
    have he : D.eraseIdx i = D.take i ++ D.drop (i + 1) := List.eraseIdx_eq_take_drop_succ ..
    have ht : cs.toList.take (i * E.k) = E.flat (D.take i) := by
      have := Enc.Row.flat (Enc.Row.take h5 i)
      rwa [List.length_take, Nat.min_eq_left (by omega)] at this
    rw [hel, he, E.flat_append, ht]
    have hfl : (E.flat (D.take i)).length = i * E.k := by rw [E.flat_len, List.length_take, Nat.min_eq_left (by omega)]
    have hm1 : (D.length - 1) * E.k = i * E.k + (D.length - (i + 1)) * E.k := by rw [← Nat.add_mul]; congr 1; omega
    rw [List.take_append_of_le_length (by simp [hfl, hlen]; omega), List.take_of_length_le (by simp [hfl, hlen]; omega)]
theorem run_copy_noneK (w : World) (dT sT ty elem : TypeId) (d a : Option Addr) (dLen dCap sLen sCap : Nat) {k : Nat} (hu : P.underlying dT = some (.slice elem)) (hs : (P.info? elem).map (·.size) = some k) (hn : Nat.min sLen dLen = 0) :
    (Builtin.copy_ #[dT, sT] ty #[.slice d dLen dCap, .slice a sLen sCap]).run P w = .ok (goInt 0) w := by
  cases hq : P.info? elem with
  | none => simp [hq] at hs
  | some i =>
    have hl : ∀ (x : Addr), (loadCells x 0).run P w = .ok #[] w := fun x => by simpa using run_loadCells_list (P := P) w x [] (by simp)
    cases d <;> cases a <;> simp [Builtin.copy_, run_underlying hu, Builtin.lenOf, Builtin.firstCells, sizeOf, typeInfo, hq, hn, storeCells, hl]
theorem step_copy {ops : Array Oper} {o : Oper} {a : Act} {K : Act → World → Prop} {Q : Exit → Act → World → Prop} {F : Prop} (hgd : o.guard = none) (d s : Operand) (dT sT : TypeId)
    (ho : o.op = .call { callee := .builtin .copy, args := #[d, s], argTypes := #[dT, sT] }) {vd vs n : Value} (hd : a.eval d = vd) (hs : a.eval s = vs) {w' : World} (hrun : (Builtin.copy_ #[dT, sT] o.type #[vd, vs]).run P w = .ok n w') (h : K (a.put o.dst n) w') :
    if Region.wanted o (yielded ops a.tmps) = true then Oper.wp P o a w K Q else F := by
  have hw : Region.wanted o (yielded ops a.tmps) = true := by simp [Region.wanted, hgd]
  rw [if_pos hw]
  unfold Oper.wp
  simp [execOp, ho, resolve, invoke, builtin, hd, hs, hrun, Result.andThen]
  exact h
end
end Go.Proofs.YtaaeomapbigfgaaGreat
