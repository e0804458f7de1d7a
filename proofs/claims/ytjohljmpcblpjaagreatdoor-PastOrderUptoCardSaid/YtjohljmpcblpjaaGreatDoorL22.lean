/- past.row's inner functions: waiting. slices.Equal over rows of nodes. The laws' own helpers: two rows of runs, of nodes; an identifier. The law's own helpers: two rows of nodes, of identifiers. -/
import Derived.Test.YtjohljmpcblpjaaGreatDoorL21
import Derived.Test.YtjohljmpcblpjaaGreatDoorL16
import Derived.Test.YtjohljmpcblpjaaGreatDoorL5
import Derived.Test.YtjohljmpcblpjaaGreatDoorL2
import Derived.Test.YtjohljmpcblpjaaGreatDoorL10
import Derived.Test.YtjohljmpcblpjaaGreatDoorL12
import Derived.Test.YtjohljmpcblpjaaGreatDoorL6
namespace Go.Proofs.YtjohljmpcblpjaaGreatDoor.Pa
open Go.RowKit Go.Proofs.YtjohljmpcblpjaaGreatDoor.St Go.Proofs.YtjohljmpcblpjaaGreatDoor
attribute [local go_sem] Oper.semAt_some
/-- what row's inner functions look at -/
structure WaitS (w : World) (tb mb lb lm gb : Nat) (l : List Ent) (V : List Dot) (lk : List (Int × Value)) : Prop where
  tc : w.cell? ⟨tb, 0, none⟩ = some (.map (some mb))
  ops : OpsM w mb (kvsOf l)
  rows : ∀ e ∈ l, SlAt dotE w e.v.deps.v e.D
  lc : w.cell? ⟨lb, 0, none⟩ = some (.map (some lm))
  left : MapK intK w lm lk
  gc : ∃ gv, w.cell? ⟨gb, 0, none⟩ = some gv ∧ SlAt dotE w gv V
theorem WaitS.still {w w' : World} {tb mb lb lm gb : Nat} {l : List Ent} {V : List Dot} {lk : List (Int × Value)} (h : WaitS w tb mb lb lm gb l V lk) (hk : Kept (fun _ => False) w w') : WaitS w' tb mb lb lm gb l V lk := by
  obtain ⟨gv, g1, g2⟩ := h.gc
  exact ⟨hk.cell h.tc, h.ops.keep hk (fun h => h), fun e he => (h.rows e he).kept hk, hk.cell h.lc, h.left.keep hk (fun h => h), gv, hk.cell g1, g2.kept hk⟩
theorem WaitS.look {w : World} {tb mb lb lm gb : Nat} {l : List Ent} {V : List Dot} {lk : List (Int × Value)} (h : WaitS w tb mb lb lm gb l V lk) (hn : (l.map dotOf).Nodup) (s : Nat) :
    ∃ (x : OpV) (b : Bool), (Instr.lookup 91 (.map (some mb)) (.agg #[.int .i64 (s : Int), .int .i64 (says V s + 1)]) true).run Tryz.prog w = .ok (.tuple #[.agg (opA x), .bool b]) w ∧
      ((b = false ∧ candP dotOf depOf l V s = none) ∨ (b = true ∧ ∃ e ∈ l, x = e.v ∧ SlAt dotE w x.deps.v e.D ∧ candP dotOf depOf l V s = if coversV V e.D then some e else none)) := by
  obtain ⟨x, h1, h2⟩ := h.ops.look ⟨(s : Int), says V s + 1⟩
  rw [kvs_keys] at h1 h2
  by_cases hm : (⟨(s : Int), says V s + 1⟩ : Dot) ∈ l.map dotOf
  case neg =>
    rw [decide_eq_false hm] at h1
    refine ⟨x, false, h1, .inl ⟨rfl, ?_⟩⟩
    unfold candP
    refine List.find?_eq_none.2 fun e he => ?_
    simp only [decide_eq_true_eq]
    rintro ⟨h3, _⟩
    exact hm (h3 ▸ List.mem_map_of_mem he)
  case pos =>
    rw [decide_eq_true hm] at h1
    have h3 := h2 hm
    obtain ⟨p, hp, e1, e2⟩ := getK_mem h3
    unfold kvsOf at hp
    obtain ⟨e, he, rfl⟩ := List.mem_map.1 hp
    have e3 : opA e.v = opA x := Value.agg.inj e2
    refine ⟨e.v, true, by rw [e3]; exact h1, .inr ⟨rfl, e, he, rfl, h.rows e he, ?_⟩⟩
    have e4 : dotOf e = ⟨(s : Int), says V s + 1⟩ := e1
    have hu := inj_nodup hn
    unfold candP
    by_cases hc : coversV V e.D
    · rw [if_pos hc]
      have h5 : (l.find? fun e => decide (dotOf e = ⟨(s : Int), says V s + 1⟩ ∧ coversV V (depOf e))) ≠ none := fun h9 => by
        have := List.find?_eq_none.1 h9 e he
        simp only [decide_eq_true_eq] at this
        exact this ⟨e4, hc⟩
      cases hf : l.find? fun e => decide (dotOf e = ⟨(s : Int), says V s + 1⟩ ∧ coversV V (depOf e)) with
      | none => exact absurd hf h5
      | some y =>
        have h6 := List.find?_some hf
        simp only [decide_eq_true_eq] at h6
        rw [hu y (List.mem_of_find?_eq_some hf) e he (h6.1.trans e4.symm)]
    · rw [if_neg hc]
      refine List.find?_eq_none.2 fun y hy => ?_
      simp only [decide_eq_true_eq]
      rintro ⟨h6, h7⟩
      rw [hu y hy e he (h6.trans e4.symm)] at h7
      exact hc h7
def WaitPost (o : Option Ent) (e : Ending) : Prop := ∃ x : OpV, e = .returned (.tuple #[.agg (opA x), .bool o.isSome]) ∧ ∀ y, o = some y → x = y.v
def PaS (w2 : World) (z0 : Nat) (W : World) : Prop := Kept (· = z0) w2 W ∧ ∃ cs : Array Value, cs.size = 11 ∧ Blk W z0 62 cs
set_option maxRecDepth 100000 in
set_option maxHeartbeats 4000000 in
theorem waiting_any {w : World} {tb mb lb lm gb : Nat} {l : List Ent} {V : List Dot} {lk : List (Int × Value)} (h : WaitS w tb mb lb lm gb l V lk) (hn : (l.map dotOf).Nodup) (hdl : ∀ e ∈ l, e.D.length ≤ 1000000000) (hV : V.length ≤ 1000000000) (s : Nat) (hs : getK lk (s : Int) = some (.int .i64 (says V s + 1))) :
    Calls Tryz.prog 102 #[.int .i64 (s : Int), .pointer (some ⟨tb, 0, none⟩), .pointer (some ⟨lb, 0, none⟩), .pointer (some ⟨gb, 0, none⟩)] w fun e w' => WaitPost (candP dotOf depOf l V s) e ∧ Kept (fun _ => False) w w' := by
  have H := Lib.hid h
  obtain ⟨w1, hw1⟩ : ∃ w1, w.alloc (.cells #[.int .i64 0, .int .i64 0, .slice none 0 0, .int .i64 0, .int .i64 0, .int .i64 0, .int .i64 0, .int .i64 0, .string ⟨#[]⟩, .slice none 0 0, .int .i64 0] 62) = w1 := ⟨_, rfl⟩
  obtain ⟨gv, g10, g20⟩ := h.gc
  have hk1 : Kept (fun _ => False) w w1 := by rw [← hw1]; exact (Kept.refl _ _).alloc _
  have h1 := h.still hk1
  obtain ⟨x, b, hlk, hcand⟩ := h1.look hn s
  have hll := run_lookupK (K := intK) (k := (s : Int)) Tryz.underlying168 h1.left hs
  have g1 := hk1.cell g10
  have g2 := g20.kept hk1
  have b0 : Blk w1 w.heap.size 62 #[.int .i64 0, .int .i64 0, .slice none 0 0, .int .i64 0, .int .i64 0, .int .i64 0, .int .i64 0, .int .i64 0, .string ⟨#[]⟩, .slice none 0 0, .int .i64 0] := by rw [← hw1]; exact Blk.new _ _ _
  have B0 := Lib.hid b0
  have K1 := Lib.hid hk1
  have HC := Lib.hid hcand
  have H0 := Lib.hid g10
  have t1 := h1.tc
  have l1 := h1.lc
  have G2 := Lib.hid g2
  obtain ⟨q, hq⟩ : ∃ q, says V s + 1 = q := ⟨_, rfl⟩
  rw [hq] at hlk hll
  clear h hs hcand b0 g2 H h1 hk1 hq g10 g20
  obtain ⟨⟨xs, xq⟩, ⟨xa, xn, xc⟩, xk, ⟨xt, xi⟩, ⟨xrt, xri⟩, xtx, ⟨ga, gn, gc⟩, xsite⟩ := x
  have hlk2 : (Instr.lookup 91 (.map (some mb)) (.agg #[.int .i64 (s : Int), .int .i64 q]) true).run Tryz.prog w1 = .ok (.tuple #[.agg #[.int .i64 xs, .int .i64 xq, .slice xa xn xc, .int .i64 xk, .int .i64 xt, .int .i64 xi, .int .i64 xrt, .int .i64 xri, .string xtx, .slice ga gn gc, .int .i64 xsite], .bool b]) w1 := hlk
  have hll2 : (Instr.lookup 168 (.map (some lm)) (.int .i64 (s : Int)) false).run Tryz.prog w1 = .ok (.int .i64 q) w1 := hll
  clear hlk hll
  go_enter Tryz.func102, Tryz.ntmps102
  go_upto_region 2 with fail
  obtain ⟨w2, hw2⟩ : ∃ w2, w1.alloc (.cells #[.int .i64 xs, .int .i64 xq, .slice xa xn xc, .int .i64 xk, .int .i64 xt, .int .i64 xi, .int .i64 xrt, .int .i64 xri, .string xtx, .slice ga gn gc, .int .i64 xsite] 62) = w2 := ⟨_, rfl⟩
  have hk2 : Kept (fun _ => False) w1 w2 := by rw [← hw2]; exact (Kept.refl _ _).alloc _
  have b1 : Blk w2 w1.heap.size 62 #[.int .i64 xs, .int .i64 xq, .slice xa xn xc, .int .i64 xk, .int .i64 xt, .int .i64 xi, .int .i64 xrt, .int .i64 xri, .string xtx, .slice ga gn gc, .int .i64 xsite] := by rw [← hw2]; exact Blk.new _ _ _
  have b0 := hk2.blk (fun h => h) B0.out
  have hne : ¬ w1.heap.size = w.heap.size := by have := B0.out.lt; omega
  obtain ⟨z, hz⟩ : ∃ z, w1.heap.size = z := ⟨_, rfl⟩
  obtain ⟨z0, hz0⟩ : ∃ z0, w.heap.size = z0 := ⟨_, rfl⟩
  rw [hw2, hz, hz0]
  rw [hz] at b1 hne
  rw [hz0] at b0 hne
  have hgb : ¬ gb = z0 := by rw [← hz0]; exact fun h9 => by have := World.block_lt_of_cell? w _ H0.out; simp only at this; omega
  have K2 := Lib.hid ((K1.out.trans hk2 fun _ _ h => h))
  have G3 := Lib.hid (G2.out.kept hk2)
  have K2' := Lib.hid hk2
  obtain ⟨da, dc, rfl, _, _⟩ := G3.out.sl
  have gc2 := hk2.cell g1
  have HX : Hid (∀ W, PaS w2 z0 W → Blk W z 62 #[.int .i64 xs, .int .i64 xq, .slice xa xn xc, .int .i64 xk, .int .i64 xt, .int .i64 xi, .int .i64 xrt, .int .i64 xri, .string xtx, .slice ga gn gc, .int .i64 xsite]) := Lib.hid fun W hk => hk.1.blk hne b1
  have HC2 : Hid (∀ W, PaS w2 z0 W → W.cell? ⟨z, 2, none⟩ = some (.slice xa xn xc)) := Lib.hid fun W hk => (HX.out W hk).cell' (i := 2) rfl
  have HG : Hid (∀ W, PaS w2 z0 W → W.cell? ⟨gb, 0, none⟩ = some (.slice da V.length dc)) := Lib.hid fun W hk => by
    rw [World.cell?_of_block (a := ⟨gb, 0, none⟩) (w := w2) (hk.1.block gb (World.block_lt_of_cell? w2 _ gc2) hgb)]
    exact gc2
  have HS0 : Hid (PaS w2 z0 w2.drew) := Lib.hid ⟨(Kept.refl _ _).drew, _, rfl, b0.drewN 1⟩
  have EZ := Lib.hid hz0
  clear hk2 b1 b0 hne hw2 hz hz0 hgb hw1 hll2 hlk2 t1 l1 g1 gc2
  rcases HC.out with ⟨rfl, hcn⟩ | ⟨rfl, e, he, hex, hsd, hcn⟩
  case inl =>
    have HCN := Lib.hid hcn
    clear hcn
    refine wp_region_held_drew (S := PaS w2 z0) (by kernel_rfl) HS0.out (fun hHeld => ?_)
    refine takeH (i := 0) (d := (some 19)) rfl rfl (by kernel_rfl) (by kernel_rfl) (by kernel_rfl) (fun _ _ _ h => h) (yieldsIf_load_blk (by rfl) _ _ rfl rfl HX.out Tryz.underlying62 rfl size_op) (by assumption) ?_
    try simp only [Act.put, List.setIfInBounds_toArray, List.set_cons_zero, List.set_cons_succ]
    refine takeH (i := 1) (d := (some 20)) (v := ?_) rfl rfl (by kernel_rfl) (by kernel_rfl) (by kernel_rfl) (fun _ _ _ h => h) (Or.inl ⟨by rfl, ?_⟩) (by assumption) ?_
    rotate_left 1
    focus (intro w hSw; clear hSw; go_simp; try with_reducible rfl)
    try simp only [Act.put, List.setIfInBounds_toArray, List.set_cons_zero, List.set_cons_succ]
    refine takeH (i := 2) (d := (some 21)) (v := ?_) rfl rfl (by kernel_rfl) (by kernel_rfl) (by kernel_rfl) (fun _ _ _ h => h) (Or.inl ⟨by rfl, ?_⟩) (by assumption) ?_
    rotate_left 1
    focus (intro w hSw; clear hSw; go_simp; try with_reducible rfl)
    try simp only [Act.put, List.setIfInBounds_toArray, List.set_cons_zero, List.set_cons_succ]
    refine takeH (i := 3) (d := (some 22)) (v := undef) rfl rfl (by kernel_rfl) (by kernel_rfl) (by kernel_rfl) (fun _ _ _ h => h) (Or.inr ⟨by rfl, rfl⟩) (by assumption) ?_
    try simp only [Act.put, List.setIfInBounds_toArray, List.set_cons_zero, List.set_cons_succ]
    refine takeH (i := 4) (d := (some 23)) (v := undef) rfl rfl (by kernel_rfl) (by kernel_rfl) (by kernel_rfl) (fun _ _ _ h => h) (Or.inr ⟨by rfl, rfl⟩) (by assumption) ?_
    try simp only [Act.put, List.setIfInBounds_toArray, List.set_cons_zero, List.set_cons_succ]
    refine takeH (i := 5) (d := (some 24)) (v := undef) rfl rfl (by kernel_rfl) (by kernel_rfl) (by kernel_rfl) (fun _ _ _ h => h) (Or.inr ⟨by rfl, rfl⟩) (by assumption) ?_
    try simp only [Act.put, List.setIfInBounds_toArray, List.set_cons_zero, List.set_cons_succ]
    refine takeH (i := 6) (d := (some 25)) (v := undef) rfl rfl (by kernel_rfl) (by kernel_rfl) (by kernel_rfl) (fun _ _ _ h => h) (Or.inr ⟨by rfl, rfl⟩) (by assumption) ?_
    try simp only [Act.put, List.setIfInBounds_toArray, List.set_cons_zero, List.set_cons_succ]
    refine takeH (i := 7) (d := (some 26)) (v := ?_) rfl rfl (by kernel_rfl) (by kernel_rfl) (by kernel_rfl) (fun _ _ _ h => h) (Or.inl ⟨by rfl, ?_⟩) (by assumption) ?_
    rotate_left 1
    focus (intro w hSw; clear hSw; go_simp; try with_reducible rfl)
    try simp only [Act.put, List.setIfInBounds_toArray, List.set_cons_zero, List.set_cons_succ]
    refine wpAnyH_one (i := 8) (by kernel_rfl) ?_
    have HH := hHeld
    obtain ⟨k1, cs, c1, c2⟩ := HH
    refine StepH.store (d := none) rfl rfl (by rfl) 62 _ _ rfl rfl rfl (c2) (size_op) (c1) (by simp [Value.oneCell']) ?_ (fun hHeld => ?_)
    focus (exact ⟨k1.setRow (fun _ => rfl) _, _, rfl, c2.row _⟩)
    try simp only [Act.put]
    refine takeH (i := 9) (d := (some 6)) (v := ?_) rfl rfl (by kernel_rfl) (by kernel_rfl) (by kernel_rfl) (fun _ _ _ h => h) (Or.inl ⟨by rfl, ?_⟩) (by assumption) ?_
    rotate_left 1
    focus (intro w hSw; clear hSw; go_simp; try with_reducible rfl)
    try simp only [Act.put, List.setIfInBounds_toArray, List.set_cons_zero, List.set_cons_succ]
    refine wpAnyH_done (by kernel_rfl) ?_ _
    go_wp2_with fail
    refine bodyPost_ret (Blk.resultC rfl _ (c2.row _) rfl Tryz.underlying62 rfl size_op) rfl ⟨⟨⟨⟨xs, xq⟩, ⟨xa, xn, xc⟩, xk, ⟨xt, xi⟩, ⟨xrt, xri⟩, xtx, ⟨ga, gn, gc⟩, xsite⟩, by rw [HCN.out]; rfl, ?_⟩, ?_⟩
    focus (intro y hy; rw [HCN.out] at hy; cases hy)
    exact K2.out.trans (k1.setRow (fun _ => rfl) _) (fun b hb h9 => by have := EZ.out; omega)
  case inr =>
    have HCN := Lib.hid hcn
    have HEX := Lib.hid hex
    have HDL := Lib.hid (hdl e he)
    have HSD := Lib.hid (K2'.out.trans (Kept.refl _ _) (fun _ _ h => h) |> fun k => hsd.kept k)
    clear hcn hex hsd he
    refine wp_region_held_drew (S := PaS w2 z0) (by kernel_rfl) HS0.out (fun hHeld => ?_)
    refine takeH (i := 0) (d := (some 19)) rfl rfl (by kernel_rfl) (by kernel_rfl) (by kernel_rfl) (fun _ _ _ h => h) (yieldsIf_load_blk (by rfl) _ _ rfl rfl HX.out Tryz.underlying62 rfl size_op) (by assumption) ?_
    try simp only [Act.put, List.setIfInBounds_toArray, List.set_cons_zero, List.set_cons_succ]
    refine takeH (i := 1) (d := (some 20)) (v := ?_) rfl rfl (by kernel_rfl) (by kernel_rfl) (by kernel_rfl) (fun _ _ _ h => h) (Or.inl ⟨by rfl, ?_⟩) (by assumption) ?_
    rotate_left 1
    focus (intro w hSw; clear hSw; go_simp; try with_reducible rfl)
    try simp only [Act.put, List.setIfInBounds_toArray, List.set_cons_zero, List.set_cons_succ]
    refine takeH (i := 2) (d := (some 21)) (v := ?_) rfl rfl (by kernel_rfl) (by kernel_rfl) (by kernel_rfl) (fun _ _ _ h => h) (Or.inl ⟨by rfl, ?_⟩) (by assumption) ?_
    rotate_left 1
    focus (intro w hSw; clear hSw; go_simp; try with_reducible rfl)
    try simp only [Act.put, List.setIfInBounds_toArray, List.set_cons_zero, List.set_cons_succ]
    refine takeH (i := 3) (d := (some 22)) (v := ?_) rfl rfl (by kernel_rfl) (by kernel_rfl) (by kernel_rfl) (fun _ _ _ h => h) (Or.inl ⟨by rfl, ?_⟩) (by assumption) ?_
    rotate_left 1
    focus (intro w hSw; have h9 := HG.out w hSw; clear hSw; go_simp; try with_reducible rfl)
    try simp only [Act.put, List.setIfInBounds_toArray, List.set_cons_zero, List.set_cons_succ]
    refine takeH (i := 4) (d := (some 23)) (v := ?_) rfl rfl (by kernel_rfl) (by kernel_rfl) (by kernel_rfl) (fun _ _ _ h => h) (Or.inl ⟨by rfl, ?_⟩) (by assumption) ?_
    rotate_left 1
    focus (intro w hSw; clear hSw; go_simp; try with_reducible rfl)
    try simp only [Act.put, List.setIfInBounds_toArray, List.set_cons_zero, List.set_cons_succ]
    refine takeH (i := 5) (d := (some 24)) (v := ?_) rfl rfl (by kernel_rfl) (by kernel_rfl) (by kernel_rfl) (fun _ _ _ h => h) (Or.inl ⟨by rfl, ?_⟩) (by assumption) ?_
    rotate_left 1
    focus (intro w hSw; have h9 := HC2.out w hSw; clear hSw; go_simp; try with_reducible rfl)
    try simp only [Act.put, List.setIfInBounds_toArray, List.set_cons_zero, List.set_cons_succ]
    refine wpAnyH_one (i := 6) (by kernel_rfl) ?_
    have HH := hHeld
    obtain ⟨k1, cs, c1, c2⟩ := HH
    refine StepH.call (d := (some 25)) (f := ?_) (args := ?_) (w' := ?_) rfl rfl (by rfl) ?_ ?_
    rotate_left 3
    focus (go_simp; first | done | with_reducible rfl | ((repeat' apply And.intro) <;> with_reducible rfl))
    refine Calls.mono (covers_any (G3.out.kept (Kept.refl _ _).drew) (HSD.out.kept (Kept.refl _ _).drew) hV HDL.out) ?_
    rintro e1 Wc ⟨rfl, KC⟩
    refine ⟨_, rfl, ?_, fun hHeld => ?_⟩
    focus (exact ⟨k1.trans KC (fun _ _ h => h.elim), cs, c1, KC.blk (fun h => h) c2⟩)
    try simp only [Act.put, List.setIfInBounds_toArray, List.set_cons_zero, List.set_cons_succ]
    refine takeH (i := 7) (d := (some 26)) (v := ?_) rfl rfl (by kernel_rfl) (by kernel_rfl) (by kernel_rfl) (fun _ _ _ h => h) (Or.inl ⟨by rfl, ?_⟩) (by assumption) ?_
    rotate_left 1
    focus (intro w hSw; clear hSw; go_simp; try with_reducible rfl)
    try simp only [Act.put, List.setIfInBounds_toArray, List.set_cons_zero, List.set_cons_succ]
    refine wpAnyH_one (i := 8) (by kernel_rfl) ?_
    have HH := hHeld
    obtain ⟨k1, cs, c1, c2⟩ := HH
    refine StepH.store (d := none) rfl rfl (by rfl) 62 _ _ rfl rfl rfl (c2) (size_op) (c1) (by simp [Value.oneCell']) ?_ (fun hHeld => ?_)
    focus (exact ⟨k1.setRow (fun _ => rfl) _, _, rfl, c2.row _⟩)
    try simp only [Act.put]
    refine takeH (i := 9) (d := (some 6)) (v := ?_) rfl rfl (by kernel_rfl) (by kernel_rfl) (by kernel_rfl) (fun _ _ _ h => h) (Or.inl ⟨by rfl, ?_⟩) (by assumption) ?_
    rotate_left 1
    focus (intro w hSw; clear hSw; go_simp; try with_reducible rfl)
    try simp only [Act.put, List.setIfInBounds_toArray, List.set_cons_zero, List.set_cons_succ]
    refine wpAnyH_done (by kernel_rfl) ?_ _
    have hpick : (if coversV V e.D then some e else none : Option Ent).isSome = decide (coversV V e.D) := by by_cases hc : coversV V e.D <;> simp [hc]
    go_wp2_with fail
    refine bodyPost_ret (Blk.resultC rfl _ (c2.row _) rfl Tryz.underlying62 rfl size_op) rfl ⟨⟨⟨⟨xs, xq⟩, ⟨xa, xn, xc⟩, xk, ⟨xt, xi⟩, ⟨xrt, xri⟩, xtx, ⟨ga, gn, gc⟩, xsite⟩, by rw [HCN.out, hpick]; rfl, ?_⟩, ?_⟩
    focus (intro y hy; rw [HCN.out] at hy; by_cases hc : coversV V e.D; (rw [if_pos hc] at hy; cases hy; exact HEX.out); (rw [if_neg hc] at hy; cases hy))
    exact K2.out.trans (k1.setRow (fun _ => rfl) _) (fun b hb h9 => by have := EZ.out; omega)
end Go.Proofs.YtjohljmpcblpjaaGreatDoor.Pa
namespace Go.Proofs.YtjohljmpcblpjaaGreatDoor.Tr
open Go.RowKit Go.Proofs.YtjohljmpcblpjaaGreatDoor.St
theorem eq_node (x y : Nd) : decide (x = y) = ((x.id.t == y.id.t && x.id.s == y.id.s) && (x.ref.t == y.ref.t && x.ref.s == y.ref.s) && x.rune == y.rune && x.st == y.st) := by
  rw [Bool.eq_iff_iff]
  simp [Nd.ext_iff, ID.ext_iff, and_assoc]
theorem ne_node (x y : Nd) (w : World) : (binOp .neq 84 (.agg (ndC x).toArray) (.agg (ndC y).toArray)).run Tryz.prog w = .ok (.bool (!decide (x = y))) w := by
  rw [eq_node]
  show (binOp .neq 84 (.agg #[.int .i64 x.id.t, .int .i64 x.id.s, .int .i64 x.ref.t, .int .i64 x.ref.s, .int .i32 x.rune, .int .i64 x.st]) (.agg #[.int .i64 y.id.t, .int .i64 y.id.s, .int .i64 y.ref.t, .int .i64 y.ref.s, .int .i32 y.rune, .int .i64 y.st])).run Tryz.prog w = _
  cases h1 : x.id.t == y.id.t
  · go_simp
  cases h2 : x.id.s == y.id.s
  · go_simp
  cases h3 : x.ref.t == y.ref.t
  · go_simp
  cases h4 : x.ref.s == y.ref.s
  · go_simp
  cases h5 : x.rune == y.rune
  · go_simp
  cases h6 : x.st == y.st
  · go_simp
  · go_simp
end Go.Proofs.YtjohljmpcblpjaaGreatDoor.Tr
namespace Go.Proofs.YtjohljmpcblpjaaGreatDoor.Tr
open Go.RowKit Go.Proofs.YtjohljmpcblpjaaGreatDoor.St
theorem eq_cases_run (x y : Run) : x = y ∨ (x ≠ y ∧ (x.id.t == y.id.t) = false) ∨ (x ≠ y ∧ (x.id.t == y.id.t) = true ∧ (x.id.s == y.id.s) = false) ∨ (x ≠ y ∧ (x.id.t == y.id.t) = true ∧ (x.id.s == y.id.s) = true ∧ (x.c == y.c) = false) := by
  by_cases h1 : x.id.t = y.id.t
  · by_cases h2 : x.id.s = y.id.s
    · by_cases h3 : x.c = y.c
      · exact .inl (by rw [Run.ext_iff, ID.ext_iff]; exact ⟨⟨h1, h2⟩, h3⟩)
      · exact .inr (.inr (.inr ⟨fun e => h3 (by rw [e]), by simpa using h1, by simpa using h2, by simpa using h3⟩))
    · exact .inr (.inr (.inl ⟨fun e => h2 (by rw [e]), by simpa using h1, by simpa using h2⟩))
  · exact .inr (.inl ⟨fun e => h1 (by rw [e]), by simpa using h1⟩)
end Go.Proofs.YtjohljmpcblpjaaGreatDoor.Tr
namespace Go.Proofs.YtjohljmpcblpjaaGreatDoor.Pa
open Go.RowKit Go.Proofs.YtjohljmpcblpjaaGreatDoor.St Go.Proofs.YtjohljmpcblpjaaGreatDoor Go.Proofs.YtjohljmpcblpjaaGreatDoor.Tr
set_option maxHeartbeats 4000000 in
theorem pnodes_eq {w : World} {u v : Value} {L M : List Nd} (hu : SlAt nodeE w u L) (hv : SlAt nodeE w v M) (hb : L.length ≤ 1000000000) :
    Calls Tryz.prog 27 #[u, v] w fun e w' => e = .returned (.bool (decide (L = M))) ∧ ∃ q, w' = w.drewN q := by
  obtain ⟨a, c, rfl, _, _⟩ := hu.sl
  obtain ⟨b, d, rfl, _, _⟩ := hv.sl
  by_cases hl : L.length = M.length
  case neg =>
    have hne : decide (L = M) = false := decide_eq_false fun e => hl (by rw [e])
    have hlb : ((L.length : Int) != M.length) = true := by simp; omega
    rw [hne]
    clear hu hv hl hne
    go_enter Tryz.func27, Tryz.ntmps27
    go_wp2
    go_ret
    exact ⟨rfl, 0, rfl⟩
  case pos =>
    have hlb : ((L.length : Int) != M.length) = false := by simp; omega
    have HU := Lib.hid hu
    have HV := Lib.hid hv
    have HL := Lib.hid hl
    clear hu hv hl
    go_enter Tryz.func27, Tryz.ntmps27
    go_wp2
    go_loopw [5] (fun i wr => ∃ n q : Nat, i = .int .i64 n ∧ n ≤ L.length ∧ L.take n = M.take n ∧ wr = w.drewN q) (fun i _ => L.length - (intOf i).toNat)
    case atStart => exact ⟨0, 0, rfl, Nat.zero_le _, rfl, rfl⟩
    case round =>
      obtain ⟨n, q, rfl, hn, ht, rfl⟩ := hrel
      have TT := Lib.hid ht
      clear ht
      by_cases hlt : n < L.length
      case neg =>
        have hge : L.length ≤ n := by omega
        have e : decide (L = M) = true := decide_eq_true (by have := TT.out; rw [List.take_of_length_le hge, List.take_of_length_le (by rw [← HL.out]; exact hge)] at this; exact this)
        have E := Lib.hid e
        clear e
        go_wp2
        go_ret
        exact ⟨by rw [E.out]; rfl, _, rfl⟩
      case pos =>
        have hlM := HL.out
        obtain ⟨x, hx⟩ := get_of_lt hlt
        obtain ⟨y, hy⟩ := get_of_lt (show n < M.length by omega)
        obtain ⟨g, o, c', e1, _, h1⟩ := SlAt.node HU.out (by omega)
        obtain ⟨g', o', c2, e2, _, h2⟩ := SlAt.node HV.out (by omega)
        cases e1
        cases e2
        obtain ⟨k1, k2, k3, k4, k5, k6⟩ := h1 n x hx
        obtain ⟨l1, l2, l3, l4, l5, l6⟩ := h2 n y hy
        have X0 := Lib.hid hx
        have Y0 := Lib.hid hy
        have hn0 : (0 : Int) ≤ n := by omega
        have hnl : (n : Int) < L.length := by omega
        have hnm : (n : Int) < M.length := by omega
        clear hx hy h1 h2 hlM
        have hne := ne_node x y
        unfold ndC at hne
        by_cases hxy : x = y
        · rw [decide_eq_true hxy] at hne
          have XY := Lib.hid hxy
          clear hxy
          go_wp2
          go_quiet (fail)
          go_wp2
          go_roundw
          case rel => exact ⟨n + 1, _, by go_num, by omega, by rw [List.take_add_one, List.take_add_one, X0.out, Y0.out, TT.out, XY.out], rfl⟩
          case measure => simp [intOf]; omega
        · rw [decide_eq_false hxy] at hne
          have HNE := Lib.hid hxy
          clear hxy
          have NE : Hid (decide (L = M) = false) := decide_eq_false fun e => by
            have hz := Y0.out
            rw [← e, X0.out] at hz
            exact HNE.out (Option.some.inj hz)
          go_wp2
          go_quiet (fail)
          go_wp2
          go_ret
          exact ⟨by rw [NE.out]; rfl, _, World.drewN_drewN _ _ _⟩
theorem eq_cases (x y : ID) : x = y ∨ (x ≠ y ∧ (x.t == y.t) = false) ∨ (x ≠ y ∧ (x.t == y.t) = true ∧ (x.s == y.s) = false) := by
  by_cases h1 : x.t = y.t
  · by_cases h2 : x.s = y.s
    · exact .inl (by rw [ID.ext_iff]; exact ⟨h1, h2⟩)
    · exact .inr (.inr ⟨fun e => h2 (by rw [e]), by simpa using h1, by simpa using h2⟩)
  · exact .inr (.inl ⟨fun e => h1 (by rw [e]), by simpa using h1⟩)

set_option maxHeartbeats 1000000 in
theorem pids_eq {w : World} {u v : Value} {L M : List ID} (hu : SlAt idE w u L) (hv : SlAt idE w v M) (hb : L.length ≤ 1000000000) :
    Calls Tryz.prog 21 #[u, v] w fun e w' => e = .returned (.bool (decide (L = M))) ∧ ∃ q, w' = w.drewN q := by
  obtain ⟨a, c, rfl, _, _⟩ := hu.sl
  obtain ⟨b, d, rfl, _, _⟩ := hv.sl
  by_cases hl : L.length = M.length
  case neg =>
    have hne : decide (L = M) = false := decide_eq_false fun e => hl (by rw [e])
    have hlb : ((L.length : Int) != M.length) = true := by simp; omega
    rw [hne]
    clear hu hv hl hne
    go_enter Tryz.func21, Tryz.ntmps21
    go_wp2
    go_ret
    exact ⟨rfl, 0, rfl⟩
  case pos =>
    have hlb : ((L.length : Int) != M.length) = false := by simp; omega
    have HU := Lib.hid hu
    have HV := Lib.hid hv
    have HL := Lib.hid hl
    clear hu hv hl
    go_enter Tryz.func21, Tryz.ntmps21
    go_wp2
    go_loopw [5] (fun i wr => ∃ n q : Nat, i = .int .i64 n ∧ n ≤ L.length ∧ L.take n = M.take n ∧ wr = w.drewN q) (fun i _ => L.length - (intOf i).toNat)
    case atStart => exact ⟨0, 0, rfl, Nat.zero_le _, rfl, rfl⟩
    case round =>
      obtain ⟨n, q, rfl, hn, ht, rfl⟩ := hrel
      have TT := Lib.hid ht
      clear ht
      by_cases hlt : n < L.length
      case neg =>
        have hge : L.length ≤ n := by omega
        have e : decide (L = M) = true := decide_eq_true (by have := TT.out; rw [List.take_of_length_le hge, List.take_of_length_le (by rw [← HL.out]; exact hge)] at this; exact this)
        have E := Lib.hid e
        clear e
        go_wp2
        go_ret
        exact ⟨by rw [E.out]; rfl, _, rfl⟩
      case pos =>
        have hlM := HL.out
        obtain ⟨x, hx⟩ := get_of_lt hlt
        obtain ⟨y, hy⟩ := get_of_lt (show n < M.length by omega)
        obtain ⟨g, o, c', e1, _, h1⟩ := SlAt.id HU.out (by omega)
        obtain ⟨g', o', c2, e2, _, h2⟩ := SlAt.id HV.out (by omega)
        cases e1
        cases e2
        obtain ⟨k1, k2⟩ := h1 n x hx
        obtain ⟨k4, k5⟩ := h2 n y hy
        have X0 := Lib.hid hx
        have Y0 := Lib.hid hy
        have hn0 : (0 : Int) ≤ n := by omega
        have hnl : (n : Int) < L.length := by omega
        have hnm : (n : Int) < M.length := by omega
        clear hx hy h1 h2 hlM
        rcases eq_cases x y with rfl | ⟨hxy, e1⟩ | ⟨hxy, e1, e2⟩
        · go_wp2
          go_quiet (fail)
          go_wp2
          go_roundw
          case rel => exact ⟨n + 1, _, by go_num, by omega, by rw [List.take_add_one, List.take_add_one, X0.out, Y0.out, TT.out], rfl⟩
          case measure => simp [intOf]; omega
        all_goals
          have HNE := Lib.hid hxy
          clear hxy
          have NE : Hid (decide (L = M) = false) := decide_eq_false fun e => by
            have hz := Y0.out
            rw [← e, X0.out] at hz
            exact HNE.out (Option.some.inj hz)
          go_wp2
          go_quiet (fail)
          go_wp2
          go_ret
          exact ⟨by rw [NE.out]; rfl, _, World.drewN_drewN _ _ _⟩
theorem eq_dots (x y : Dot) : x = y ∨ (x ≠ y ∧ (x.site == y.site) = false) ∨ (x ≠ y ∧ (x.site == y.site) = true ∧ (x.seq == y.seq) = false) := by
  by_cases h1 : x.site = y.site
  · by_cases h2 : x.seq = y.seq
    · exact .inl (Dot.ext h1 h2)
    · exact .inr (.inr ⟨fun e => h2 (by rw [e]), by simpa using h1, by simpa using h2⟩)
  · exact .inr (.inl ⟨fun e => h1 (by rw [e]), by simpa using h1⟩)
set_option maxHeartbeats 1000000 in
theorem pvecs_eq {w : World} {u v : Value} {L M : List Dot} (hu : SlAt dotE w u L) (hv : SlAt dotE w v M) (hb : L.length ≤ 1000000000) :
    Calls Tryz.prog 29 #[u, v] w fun e w' => e = .returned (.bool (decide (L = M))) ∧ ∃ q, w' = w.drewN q := by
  obtain ⟨a, c, rfl, _, _⟩ := hu.sl
  obtain ⟨b, d, rfl, _, _⟩ := hv.sl
  by_cases hl : L.length = M.length
  case neg =>
    have hne : decide (L = M) = false := decide_eq_false fun e => hl (by rw [e])
    have hlb : ((L.length : Int) != M.length) = true := by simp; omega
    rw [hne]
    clear hu hv hl hne
    go_enter Tryz.func29, Tryz.ntmps29
    go_wp2
    go_ret
    exact ⟨rfl, 0, rfl⟩
  case pos =>
    have hlb : ((L.length : Int) != M.length) = false := by simp; omega
    have HU := Lib.hid hu
    have HV := Lib.hid hv
    have HL := Lib.hid hl
    clear hu hv hl
    go_enter Tryz.func29, Tryz.ntmps29
    go_wp2
    go_loopw [5] (fun i wr => ∃ n q : Nat, i = .int .i64 n ∧ n ≤ L.length ∧ L.take n = M.take n ∧ wr = w.drewN q) (fun i _ => L.length - (intOf i).toNat)
    case atStart => exact ⟨0, 0, rfl, Nat.zero_le _, rfl, rfl⟩
    case round =>
      obtain ⟨n, q, rfl, hn, ht, rfl⟩ := hrel
      have TT := Lib.hid ht
      clear ht
      by_cases hlt : n < L.length
      case neg =>
        have hge : L.length ≤ n := by omega
        have e : decide (L = M) = true := decide_eq_true (by have := TT.out; rw [List.take_of_length_le hge, List.take_of_length_le (by rw [← HL.out]; exact hge)] at this; exact this)
        have E := Lib.hid e
        clear e
        go_wp2
        go_ret
        exact ⟨by rw [E.out]; rfl, _, rfl⟩
      case pos =>
        have hlM := HL.out
        obtain ⟨x, hx⟩ := get_of_lt hlt
        obtain ⟨y, hy⟩ := get_of_lt (show n < M.length by omega)
        obtain ⟨g, o, c', e1, h1⟩ := SlAt.dotc HU.out (by omega)
        obtain ⟨g', o', c2, e2, h2⟩ := SlAt.dotc HV.out (by omega)
        cases e1
        cases e2
        obtain ⟨k1, k2⟩ := h1 n x hx
        obtain ⟨k4, k5⟩ := h2 n y hy
        have X0 := Lib.hid hx
        have Y0 := Lib.hid hy
        have hn0 : (0 : Int) ≤ n := by omega
        have hnl : (n : Int) < L.length := by omega
        have hnm : (n : Int) < M.length := by omega
        clear hx hy h1 h2 hlM
        rcases eq_dots x y with rfl | ⟨hxy, e1⟩ | ⟨hxy, e1, e2⟩
        · go_wp2
          go_quiet (fail)
          go_wp2
          go_roundw
          case rel => exact ⟨n + 1, _, by go_num, by omega, by rw [List.take_add_one, List.take_add_one, X0.out, Y0.out, TT.out], rfl⟩
          case measure => simp [intOf]; omega
        all_goals
          have HNE := Lib.hid hxy
          clear hxy
          have NE : Hid (decide (L = M) = false) := decide_eq_false fun e => by
            have hz := Y0.out
            rw [← e, X0.out] at hz
            exact HNE.out (Option.some.inj hz)
          go_wp2
          go_quiet (fail)
          go_wp2
          go_ret
          exact ⟨by rw [NE.out]; rfl, _, World.drewN_drewN _ _ _⟩
def intE : Enc Int := ⟨1, fun x => [.int .i64 x], fun _ => rfl, by decide, fun x u hu => by rw [List.mem_singleton.1 hu]; rfl⟩
theorem eq_int (x y : Int) : x = y ∨ (x ≠ y ∧ (x == y) = false) := by
  by_cases h : x = y
  · exact .inl h
  · exact .inr ⟨h, by simpa using h⟩
theorem SlAt.intc {w : World} {v : Value} {L : List Int} (h : SlAt intE w v L) (hn : 0 < L.length) : ∃ g o c, v = .slice (some ⟨g, o, none⟩) L.length c ∧ ∀ (i : Nat) (x : Int), L[i]? = some x → w.cell? ⟨g, o + i, none⟩ = some (.int .i64 x) := by
  obtain ⟨g, o, c, rfl, _, _, _, hc⟩ := h.one hn
  exact ⟨g, o, c, rfl, fun i x hx => by have h9 := hc i x hx 0 _ rfl; rw [show intE.k = 1 from rfl, Nat.mul_one, Nat.add_zero] at h9; exact h9⟩
set_option maxHeartbeats 1000000 in
theorem pints_eq {w : World} {u v : Value} {L M : List Int} (hu : SlAt intE w u L) (hv : SlAt intE w v M) (hb : L.length ≤ 1000000000) :
    Calls Tryz.prog 24 #[u, v] w fun e w' => e = .returned (.bool (decide (L = M))) ∧ ∃ q, w' = w.drewN q := by
  obtain ⟨a, c, rfl, _, _⟩ := hu.sl
  obtain ⟨b, d, rfl, _, _⟩ := hv.sl
  by_cases hl : L.length = M.length
  case neg =>
    have hne : decide (L = M) = false := decide_eq_false fun e => hl (by rw [e])
    have hlb : ((L.length : Int) != M.length) = true := by simp; omega
    rw [hne]
    clear hu hv hl hne
    go_enter Tryz.func24, Tryz.ntmps24
    go_wp2
    go_ret
    exact ⟨rfl, 0, rfl⟩
  case pos =>
    have hlb : ((L.length : Int) != M.length) = false := by simp; omega
    have HU := Lib.hid hu
    have HV := Lib.hid hv
    have HL := Lib.hid hl
    clear hu hv hl
    go_enter Tryz.func24, Tryz.ntmps24
    go_wp2
    go_loopw [5] (fun i wr => ∃ n q : Nat, i = .int .i64 n ∧ n ≤ L.length ∧ L.take n = M.take n ∧ wr = w.drewN q) (fun i _ => L.length - (intOf i).toNat)
    case atStart => exact ⟨0, 0, rfl, Nat.zero_le _, rfl, rfl⟩
    case round =>
      obtain ⟨n, q, rfl, hn, ht, rfl⟩ := hrel
      have TT := Lib.hid ht
      clear ht
      by_cases hlt : n < L.length
      case neg =>
        have hge : L.length ≤ n := by omega
        have e : decide (L = M) = true := decide_eq_true (by have := TT.out; rw [List.take_of_length_le hge, List.take_of_length_le (by rw [← HL.out]; exact hge)] at this; exact this)
        have E := Lib.hid e
        clear e
        go_wp2
        go_ret
        exact ⟨by rw [E.out]; rfl, _, rfl⟩
      case pos =>
        have hlM := HL.out
        obtain ⟨x, hx⟩ := get_of_lt hlt
        obtain ⟨y, hy⟩ := get_of_lt (show n < M.length by omega)
        obtain ⟨g, o, c', e1, h1⟩ := SlAt.intc HU.out (by omega)
        obtain ⟨g', o', c2, e2, h2⟩ := SlAt.intc HV.out (by omega)
        cases e1
        cases e2
        have k1 := h1 n x hx
        have k4 := h2 n y hy
        have X0 := Lib.hid hx
        have Y0 := Lib.hid hy
        have hn0 : (0 : Int) ≤ n := by omega
        have hnl : (n : Int) < L.length := by omega
        have hnm : (n : Int) < M.length := by omega
        clear hx hy h1 h2 hlM
        rcases eq_int x y with rfl | ⟨hxy, e1⟩
        · go_wp2
          go_quiet (fail)
          go_wp2
          go_roundw
          case rel => exact ⟨n + 1, _, by go_num, by omega, by rw [List.take_add_one, List.take_add_one, X0.out, Y0.out, TT.out], rfl⟩
          case measure => simp [intOf]; omega
        all_goals
          have HNE := Lib.hid hxy
          clear hxy
          have NE : Hid (decide (L = M) = false) := decide_eq_false fun e => by
            have hz := Y0.out
            rw [← e, X0.out] at hz
            exact HNE.out (Option.some.inj hz)
          go_wp2
          go_quiet (fail)
          go_wp2
          go_ret
          exact ⟨by rw [NE.out]; rfl, _, World.drewN_drewN _ _ _⟩
end Go.Proofs.YtjohljmpcblpjaaGreatDoor.Pa
