/- hearsayref7.Add. (*hearsayref13.Queue).deliver. hearsayref7.Has, Covers and Check. (*hearsayref13.Queue).can. Elements of several cells, loaded whole and stored whole. They speak of no program of their own. -/
import Derived.Test.YtaaeomapbigfgaaGreatU11
import Derived.Test.YtaaeomapbigfgaaGreatU4
import Derived.Test.YtaaeomapbigfgaaGreatU7
import Derived.Deep.DeepCutAuto
import Derived.Test.YtaaeomapbigfgaaGreatU5
import Derived.Test.YtaaeomapbigfgaaGreatU3
namespace Go.Proofs.YtaaeomapbigfgaaGreat
open Go.RowKit Go.Proofs.YtaaeomapbigfgaaGreat.St
set_option maxRecDepth 100000 in
set_option maxHeartbeats 4000000 in
theorem radd_any {w : World} {v : Value} {L : List Dot} (h : SlAt dotE w v L) (hb : L.length ≤ 1000000000) (d : Dot) : Calls Tryz.prog 22 #[v, .agg #[.int .i64 d.site, .int .i64 d.seq]] w fun e w' =>
    ∃ v', e = .returned (.tuple #[v', .int .i64 (whyAdd L d)]) ∧ AddIs w w' L d v' ∧ Kept (fun _ => False) w w' := by
  obtain ⟨s, q⟩ := d
  have hk0 : Kept (fun _ => False) w (w.alloc (.cells #[.int .i64 s, .int .i64 q] 28)) := (Kept.refl _ _).alloc _
  have hB := Blk.new w 28 #[.int .i64 s, .int .i64 q]
  have b0 : (w.alloc (.cells #[.int .i64 s, .int .i64 q] 28)).cell? ⟨w.heap.size, 0, none⟩ = some (.int .i64 s) := hB.cell' (i := 0) rfl
  have b1 : (w.alloc (.cells #[.int .i64 s, .int .i64 q] 28)).cell? ⟨w.heap.size, 1, none⟩ = some (.int .i64 q) := hB.cell' (i := 1) rfl
  have KD := Lib.hid hk0
  have KD2 := hk0.drew
  have hg := Lib.hid (fun (w' : World) (hk : Kept (fun _ => False) w w') => rget_any (h.kept hk) hb s)
  have HO := Lib.hid (fun (w' : World) (hk : Kept (fun _ => False) w w') => rsays_any (h.kept hk) hb)
  have wa : whyAdd L ⟨s, q⟩ = if ¬ isSite s ∨ q < 1 then 1 else if 2147483647 < q then 17 else if q ≠ getV L s + 1 then 9 else 0 := rfl
  clear h hB hk0
  by_cases hs : isSite s
  case neg =>
    rw [if_pos (.inl hs)] at wa
    have WA := Lib.hid wa
    have hs3 : s < 1 ∨ 16 < s := by unfold isSite at hs; omega
    clear wa hs
    by_cases h5 : s < 1
    · clear hs3
      go_enter Tryz.func22, Tryz.ntmps22
      go_wp2_with fail
      go_ret2
      exact ⟨_, by rw [WA.out]; rfl, ⟨fun _ => rfl, fun h => by rw [WA.out] at h; cases h⟩, KD.out⟩
    · have h6 := hs3.resolve_left h5
      clear hs3
      go_enter Tryz.func22, Tryz.ntmps22
      go_wp2_with fail
      go_ret2
      exact ⟨_, by rw [WA.out]; rfl, ⟨fun _ => rfl, fun h => by rw [WA.out] at h; cases h⟩, KD.out⟩
  case pos =>
  have hs1 : ¬ s < 1 := by unfold isSite at hs; omega
  have hs2 : ¬ 16 < s := by unfold isSite at hs; omega
  by_cases h1 : q < 1
  · rw [if_pos (.inr h1)] at wa
    have WA := Lib.hid wa
    clear wa hs
    go_enter Tryz.func22, Tryz.ntmps22
    go_wp2_with fail
    go_ret2
    exact ⟨_, by rw [WA.out]; rfl, ⟨fun _ => rfl, fun h => by rw [WA.out] at h; cases h⟩, KD.out⟩
  rw [if_neg (fun h => by rcases h with h | h; exact h hs; exact h1 h)] at wa
  by_cases h2 : 2147483647 < q
  · rw [if_pos h2] at wa
    have WA := Lib.hid wa
    clear wa hs
    go_enter Tryz.func22, Tryz.ntmps22
    go_wp2_with fail
    go_ret2
    exact ⟨_, by rw [WA.out]; rfl, ⟨fun _ => rfl, fun h => by rw [WA.out] at h; cases h⟩, KD.out⟩
  rw [if_neg h2] at wa
  have gbd : 0 ≤ getV L s ∧ getV L s ≤ 2147483647 := by
    unfold getV
    by_cases h : isSite s
    · rw [if_pos h]; exact says_bd L _
    · rw [if_neg h]; exact ⟨by decide, by decide⟩
  have hw : IntKind.i64.wrap (getV L s + 1) = getV L s + 1 := IntWalk.i64_in _ (by omega)
  by_cases h3 : q = getV L s + 1
  case neg =>
    rw [if_pos h3] at wa
    have hq : (q == getV L s + 1) = false := beq_eq_false_iff_ne.2 h3
    have WA := Lib.hid wa
    generalize getV L s = gv at *
    clear wa hs gbd h3
    go_enter Tryz.func22, Tryz.ntmps22
    go_wp2_with fail
    go_region_held3 (fun w' => Kept (fun _ => False) w w' ∧ w'.cell? ⟨w.heap.size, 0, none⟩ = some (.int .i64 s) ∧ w'.cell? ⟨w.heap.size, 1, none⟩ = some (.int .i64 q)) (first | (with_reducible exact ⟨KD2, b0, b1⟩) | go_keep)
      (first | (go_simp; go_at_call 21; refine (hg.out _ KD2).mono ?_; rintro e w1 ⟨rfl, hk1⟩; have KE := KD2.trans hk1 (fun _ _ h => h); have b0 := hk1.cell b0; have b1 := hk1.cell b1))
    have KF : Hid (Kept (fun _ => False) w w1) := Lib.hid KE
    go_wp2_with fail
    go_ret2
    exact ⟨_, by rw [WA.out]; rfl, ⟨fun _ => rfl, fun h => by rw [WA.out] at h; cases h⟩, KF.out⟩
  case pos =>
    rw [if_neg (fun h => h h3)] at wa
    have hq : (q == getV L s + 1) = true := beq_iff_eq.2 h3
    have WA := Lib.hid wa
    generalize getV L s = gv at *
    unfold isSite at hs
    obtain ⟨k, rfl⟩ : ∃ k : Nat, s = k := ⟨s.toNat, by omega⟩
    have hkI : (k : Int) < 17 := by omega
    have hk17 : k < 17 := by omega
    have hk0 : (0 : Int) ≤ k := by omega
    have Q3 := Lib.hid h3
    clear wa hs gbd h3
    go_enter Tryz.func22, Tryz.ntmps22
    go_wp2_with fail
    go_region_held3 (fun w' => Kept (fun _ => False) w w' ∧ w'.cell? ⟨w.heap.size, 0, none⟩ = some (.int .i64 k) ∧ w'.cell? ⟨w.heap.size, 1, none⟩ = some (.int .i64 q)) (first | (with_reducible exact ⟨KD2, b0, b1⟩) | go_keep)
      (first | (go_simp; go_at_call 21; refine (hg.out _ KD2).mono ?_; rintro e w1 ⟨rfl, hk1⟩; have KE := KD2.trans hk1 (fun _ _ h => h); have b0 := hk1.cell b0; have b1 := hk1.cell b1))
    have KF : Hid (Kept (fun _ => False) w w1) := Lib.hid KE
    have C0 := Lib.hid b0
    have C1 := Lib.hid b1
    clear b0 b1
    go_wp2_with (first
      | (refine wpList_load_row rfl 89 _ rfl w2.heap.size rfl 89 _ (0, 0) _ ((P2.out.row (cells (says L))).set_ k (.int .i64 q)) Tryz.underlying89 rfl (by rw [cells_add, cells_size]; kernel_rfl) ?_)
      | (refine wpList_store_row rfl 89 _ _ rfl w2.heap.size (cells (says L)) rfl rfl 89 zero17 P2.out (by rw [cells_size]; kernel_rfl) (by rw [cells_size]; rfl) (cells_one _) ?_; have f2 := (P2.out.row (cells (says L))).frozen k; have c2 := (P2.out.row (cells (says L))).cell' (cells_get (says L) hk17))
      | (go_at_call 51; refine (HO.out _ KF.out).mono ?_; rintro e w2 ⟨rfl, hk2⟩; have P2 := Lib.hid (Blk.new w2 89 zero17); have KG := Lib.hid (KF.out.trans hk2 (fun _ _ h => h)); have b0 := ((hk2.alloc (.cells zero17 89)).setRow (g := w2.heap.size) (fun h => by have := hk2.size; omega) (cells (says L))).cell C0.out; have b1 := ((hk2.alloc (.cells zero17 89)).setRow (g := w2.heap.size) (fun h => by have := hk2.size; omega) (cells (says L))).cell C1.out)
      | (go_at_call 52; rw [cells_add]; refine (rof_any _ (fun h => by have h : 0 < if ((0 : Nat) : Int) = (k : Int) then q else says L 0 := h; rw [if_neg (by omega), says_out L 0 (by decide)] at h; omega) _).mono ?_; rintro e w4 ⟨v4, rfl, ho4, hk4⟩))
    have K3 := ((KG.out.alloc (.cells zero17 89)).setRow (g := w2.heap.size) (fun h => by have := KG.out.size; omega) (cells (says L))).setCell (p := ⟨w2.heap.size, k, none⟩) (fun h => by have h : w2.heap.size < w.heap.size := h; have := KG.out.size; omega) (.int .i64 q)
    go_ret2
    exact ⟨_, by rw [WA.out]; rfl, ⟨fun h => absurd WA.out h, fun _ => owns_lower ho4 K3.size⟩, K3.trans hk4 (fun _ _ h => h)⟩
end Go.Proofs.YtaaeomapbigfgaaGreat
namespace Go.Proofs.YtaaeomapbigfgaaGreat
open Go.RowKit Go.Proofs.YtaaeomapbigfgaaGreat.St
set_option maxRecDepth 100000 in
set_option maxHeartbeats 8000000 in
theorem rdeliver_any {w : World} {g : Nat} {h0 v wv ov : Value} {V : List Dot} {O : List Ent} {e : Ent} (hq : Blk w g 51 #[h0, v, wv, ov]) (hv : SlAt dotE w v V) (hVl : V.length ≤ 1000000000) (hO : OutAt entE w 42 ov O) (hOl : O.length ≤ 1000000) (hadd : whyAdd V e.v.dot = 0) :
    Calls Tryz.prog 56 #[.pointer (some ⟨g, 0, none⟩), .agg (opA e.v)] w fun r w' => r = .returned (.tuple #[]) ∧ ∃ v' ov', Blk w' g 51 #[h0, v', wv, ov'] ∧
      w'.ownsRow w.heap.size 28 2 v' (addV V e.v.dot).length (dotE.flat (addV V e.v.dot)) ∧ OutAt entE w' 42 ov' (O ++ [e]) ∧ (ov'.ownBlock = ov.ownBlock ∨ ∃ b, ov'.ownBlock = some b ∧ w.heap.size ≤ b) ∧ Kept (fun x => x = g ∨ ov.ownBlock = some x ∧ ∃ cs, Blk w x 42 cs) w w' := by
  have B0 := Blk.new w 42 (opA e.v)
  have k0 : Kept (fun _ => False) w (w.alloc (.cells (opA e.v) 42)) := (Kept.refl _ _).alloc _
  have hgw := hq.lt
  have HQ := Lib.hid (k0.blk (fun h => h) hq)
  have HV := Lib.hid (hv.kept k0)
  have HO := Lib.hid (hO.keep k0 (fun _ _ _ h => h))
  have s0 : (w.alloc (.cells (opA e.v) 42)).heap.size = w.heap.size + 1 := by simp
  clear hq hv hO
  go_enter Tryz.func56, Tryz.ntmps56
  go_upto_region 1 with fail
  have K0 := Lib.hid k0
  generalize w.alloc (.cells (opA e.v) 42) = w0 at *
  have C0 := Lib.hid B0
  have x0 : w0.cell? ⟨w.heap.size, 0, none⟩ = some (.int .i64 e.v.dot.site) := B0.cell' (i := 0) rfl
  have x1 : w0.cell? ⟨w.heap.size, 1, none⟩ = some (.int .i64 e.v.dot.seq) := B0.cell' (i := 1) rfl
  have q1 : w0.cell? ⟨g, 1, none⟩ = some v := HQ.out.cell' (i := 1) rfl
  have f1 := HQ.out.frozen 1
  have HADD := Lib.hid (radd_any (HV.out.kept ((Kept.refl (fun _ => False) w0).drew)) hVl e.v.dot)
  have AD := Lib.hid hadd
  clear k0 B0 hadd
  go_wp2_with fail
  go_region_with (go_at_call 22; refine HADD.out.mono ?_; rintro r w1 ⟨v1, rfl, ha1, hk1⟩; have O1 := Lib.hid (ha1.2 AD.out); obtain ⟨va, vc, rfl⟩ := owns_sl O1.out; have q1 := hk1.cell q1; have f1 := (hk1.blk (fun h => h) HQ.out).frozen 1)
  all_goals
    have V1 : Hid (∀ b, (Value.slice va (addV V e.v.dot).length vc).ownBlock = some b → w0.drew.heap.size ≤ b) := Lib.hid (owns_new O1.out)
    have s01 : w0.drew.heap.size = w.heap.size + 1 := s0
    have k1 : Kept (fun _ => False) w0 w1 := (Kept.refl (fun _ => False) w0).drew.trans hk1 (fun _ _ h => h)
    have HQ2 := Lib.hid ((k1.blk (fun h => h) HQ.out).set_ 1 (.slice va (addV V e.v.dot).length vc))
    have k2 : Kept (fun x => x = g) w1 (w1.setCell ⟨g, 1, none⟩ (.slice va (addV V e.v.dot).length vc)) := (Kept.refl (fun x => x = g) w1).setCell (p := ⟨g, 1, none⟩) (fun _ => rfl) _
    have O2 := Lib.hid (owns_keep O1.out k2 (fun b hb e => by have := V1.out b hb; omega))
    have C2 := Lib.hid (k2.blk (fun e => by have e : w.heap.size = g := e; omega) (k1.blk (fun h => h) C0.out))
    have U2 := Lib.hid ((HO.out.keep k1 (fun _ _ _ h => h)).keep k2 (fun b hb ⟨cs, hc⟩ e => (k1.blk (fun h => h) HQ.out).ne_ hc (of_decide_eq_true (by kernel_rfl)) e.symm))
    have K2 := Lib.hid ((K0.out.trans k1 (fun _ _ h => h)).mono (S' := fun x => x = g) (fun _ _ h => h.elim) |>.trans k2 (fun _ _ h => h))
    have z1 := (K0.out.trans k1 (fun _ _ h => h)).size
    have z01 := k1.size
    clear q1 f1 x0 x1 k1 k2 hk1 ha1
    generalize w1.setCell ⟨g, 1, none⟩ (.slice va (addV V e.v.dot).length vc) = w2 at *
    have zw2 := C2.out.lt
    have x0 : w2.cell? ⟨w.heap.size, 0, none⟩ = some (.int .i64 e.v.dot.site) := C2.out.cell' (i := 0) rfl
    have x1 : w2.cell? ⟨w.heap.size, 1, none⟩ = some (.int .i64 e.v.dot.seq) := C2.out.cell' (i := 1) rfl
    have x2 : w2.cell? ⟨w.heap.size, 2, none⟩ = some (.slice e.v.deps.a e.v.deps.n e.v.deps.c) := C2.out.cell' (i := 2) rfl
    have x3 : w2.cell? ⟨w.heap.size, 3, none⟩ = some (.int .i64 e.v.kind) := C2.out.cell' (i := 3) rfl
    have x4 : w2.cell? ⟨w.heap.size, 4, none⟩ = some (.int .i64 e.v.id.t) := C2.out.cell' (i := 4) rfl
    have x5 : w2.cell? ⟨w.heap.size, 5, none⟩ = some (.int .i64 e.v.id.s) := C2.out.cell' (i := 5) rfl
    have x6 : w2.cell? ⟨w.heap.size, 6, none⟩ = some (.int .i64 e.v.ref.t) := C2.out.cell' (i := 6) rfl
    have x7 : w2.cell? ⟨w.heap.size, 7, none⟩ = some (.int .i64 e.v.ref.s) := C2.out.cell' (i := 7) rfl
    have x8 : w2.cell? ⟨w.heap.size, 8, none⟩ = some (.string e.v.text) := C2.out.cell' (i := 8) rfl
    have x9 : w2.cell? ⟨w.heap.size, 9, none⟩ = some (.slice e.v.gone.a e.v.gone.n e.v.gone.c) := C2.out.cell' (i := 9) rfl
    have x10 : w2.cell? ⟨w.heap.size, 10, none⟩ = some (.int .i64 e.v.site) := C2.out.cell' (i := 10) rfl
    have q3 : w2.cell? ⟨g, 3, none⟩ = some ov := HQ2.out.cell' (i := 3) rfl
    have f3 := HQ2.out.frozen 3
    have q3a := ((Kept.refl (fun _ => False) w2).alloc (.cells #[.int .i64 e.v.dot.site, .int .i64 e.v.dot.seq, .slice e.v.deps.a e.v.deps.n e.v.deps.c, .int .i64 e.v.kind, .int .i64 e.v.id.t, .int .i64 e.v.id.s, .int .i64 e.v.ref.t, .int .i64 e.v.ref.s, .string e.v.text, .slice e.v.gone.a e.v.gone.n e.v.gone.c, .int .i64 e.v.site] 42)).cell q3
    have LD := Lib.hid (lit_op w2 e)
    go_wp2_with fail
    go_region_law (refine step_append_out (E := entE) rfl (.tmp 21) (.tmp 23) 47 42 rfl Tryz.underlying47 info_op rfl (by decide) rfl rfl (U2.out.keep ((Kept.refl (fun _ => False) w2).alloc _).drew (fun _ _ _ h => h)) (LD.out.kept (Kept.refl (fun _ => False) _).drew) hOl ?_; intro v3 w3 ho3 hg3; obtain ⟨a3, c3, rfl⟩ := ho3.len; have HQ3 := Lib.hid (hg3.1.blk (fun ⟨e1, cs, e2⟩ => (((Kept.refl (fun _ => False) w2).alloc _).drew.blk (fun h => h) HQ2.out).ne_ e2 (of_decide_eq_true (by kernel_rfl)) rfl) (((Kept.refl (fun _ => False) w2).alloc _).drew.blk (fun h => h) HQ2.out)); have q3 := HQ3.out.cell' (i := 3) rfl; have f3 := HQ3.out.frozen 3)
    all_goals
      rw [show (O ++ [e]).length = O.length + 1 by simp] at ho3 hg3
      have kA : Kept (fun x => x = g) w w2 := K2.out
      have kB := kA.trans (((Kept.refl (fun _ => False) w2).alloc (.cells #[.int .i64 e.v.dot.site, .int .i64 e.v.dot.seq, .slice e.v.deps.a e.v.deps.n e.v.deps.c, .int .i64 e.v.kind, .int .i64 e.v.id.t, .int .i64 e.v.id.s, .int .i64 e.v.ref.t, .int .i64 e.v.ref.s, .string e.v.text, .slice e.v.gone.a e.v.gone.n e.v.gone.c, .int .i64 e.v.site] 42)).drew) (fun _ _ h => h.elim)
      have O3 := owns_keep (owns_keep O2.out (((Kept.refl (fun _ => False) w2).alloc (.cells #[.int .i64 e.v.dot.site, .int .i64 e.v.dot.seq, .slice e.v.deps.a e.v.deps.n e.v.deps.c, .int .i64 e.v.kind, .int .i64 e.v.id.t, .int .i64 e.v.id.s, .int .i64 e.v.ref.t, .int .i64 e.v.ref.s, .string e.v.text, .slice e.v.gone.a e.v.gone.n e.v.gone.c, .int .i64 e.v.site] 42)).drew) (fun _ _ h => h)) hg3.1 (fun b hb ⟨_, cs, hc⟩ => own_blk_ne (owns_keep O2.out (((Kept.refl (fun _ => False) w2).alloc (.cells #[.int .i64 e.v.dot.site, .int .i64 e.v.dot.seq, .slice e.v.deps.a e.v.deps.n e.v.deps.c, .int .i64 e.v.kind, .int .i64 e.v.id.t, .int .i64 e.v.id.s, .int .i64 e.v.ref.t, .int .i64 e.v.ref.s, .string e.v.text, .slice e.v.gone.a e.v.gone.n e.v.gone.c, .int .i64 e.v.site] 42)).drew) (fun _ _ h => h)) hc (of_decide_eq_true (by kernel_rfl)) hb)
      have kC := (kB.mono (S' := fun x => x = g ∨ ov.ownBlock = some x ∧ ∃ cs, Blk w x 42 cs) (fun _ _ h => .inl h)).trans hg3.1 (fun x hx ⟨e1, cs, e2⟩ => by
        by_cases hxg : x = g
        · exact .inl hxg
        · exact .inr ⟨e1, cs, (kB.block x hx hxg).symm.trans e2⟩)
      have kD : Kept (fun x => x = g) w3 (w3.setCell ⟨g, 3, none⟩ (.slice a3 (O.length + 1) c3)) := (Kept.refl (fun x => x = g) w3).setCell (p := ⟨g, 3, none⟩) (fun _ => rfl) _
      have O4 := Lib.hid (owns_keep O3 kD (fun b hb e => own_blk_ne O3 HQ3.out (of_decide_eq_true (by kernel_rfl)) (e ▸ hb)))
      have U4 := Lib.hid (ho3.keep kD (fun b hb ⟨cs, hc⟩ e => HQ3.out.ne_ hc (of_decide_eq_true (by kernel_rfl)) e.symm))
      have Q4 := Lib.hid (HQ3.out.set_ 3 (.slice a3 (O.length + 1) c3))
      have K4 := Lib.hid (kC.trans kD (fun _ _ h => .inl h))
      have G4 := Lib.hid hg3.2
      have zB := kB.size
      go_end0
      refine ⟨rfl, _, _, Q4.out, owns_lower O4.out (by omega), U4.out, G4.out.imp id (fun h => ⟨_, h, zB⟩), K4.out⟩
end Go.Proofs.YtaaeomapbigfgaaGreat
namespace Go.Proofs.YtaaeomapbigfgaaGreat
open Go.RowKit Go.Proofs.YtaaeomapbigfgaaGreat.St
theorem rhasV_grew {w : World} {v : Value} {L : List Dot} (h : SlAt dotE w v L) (hb : L.length ≤ 1000000000) (d : Dot) : Calls Tryz.prog 23 #[v, .agg #[.int .i64 d.site, .int .i64 d.seq]] w fun e w' => e = .returned (.bool (decide (hasV L d))) ∧ Grew w w' := by
  have hg := Lib.hid (fun (w' : World) (hk : Grew w w') => rget_grew (h.kept hk.kept) hb d.site)
  have hB := Blk.new w 28 #[.int .i64 d.site, .int .i64 d.seq]
  have b0 : (w.alloc (.cells #[.int .i64 d.site, .int .i64 d.seq] 28)).cell? ⟨w.heap.size, 0, none⟩ = some (.int .i64 d.site) := hB.cell' (i := 0) rfl
  have b1 : (w.alloc (.cells #[.int .i64 d.site, .int .i64 d.seq] 28)).cell? ⟨w.heap.size, 1, none⟩ = some (.int .i64 d.seq) := hB.cell' (i := 1) rfl
  have KD : Grew w (w.alloc (.cells #[.int .i64 d.site, .int .i64 d.seq] 28)).drew := ((Grew.refl _).alloc _).drewN 1
  unfold hasV
  clear hB h
  go_enter Tryz.func23, Tryz.ntmps23
  by_cases h1 : 1 ≤ d.seq
  · have hd1 : decide (1 ≤ d.seq) = true := decide_eq_true h1
    go_wp2_with fail
    go_region_held3 (fun w' => Grew w w' ∧ w'.cell? ⟨w.heap.size, 0, none⟩ = some (.int .i64 d.site) ∧ w'.cell? ⟨w.heap.size, 1, none⟩ = some (.int .i64 d.seq)) (first | (with_reducible exact ⟨KD, b0, b1⟩) | go_keep)
      (first | (go_simp; go_at_call 21; refine (hg.out _ KD).mono ?_; rintro e w1 ⟨rfl, hk1⟩; have KE := KD.trans hk1; have b0 := hk1.kept.cell b0; have b1 := hk1.kept.cell b1))
    go_wp2_with fail
    go_ret
    exact ⟨by simp [h1], KE⟩
  · have hd1 : decide (1 ≤ d.seq) = false := decide_eq_false h1
    have e2 : decide (1 ≤ d.seq ∧ d.seq ≤ getV L d.site) = false := decide_eq_false fun h => h1 h.1
    go_wp2_with fail
    go_region
    go_wp2_with fail
    go_ret
    exact ⟨congrArg (fun b => Ending.returned (.bool b)) e2.symm, KD⟩
theorem rhasV_any {w : World} {v : Value} {L : List Dot} (h : SlAt dotE w v L) (hb : L.length ≤ 1000000000) (d : Dot) : Calls Tryz.prog 23 #[v, .agg #[.int .i64 d.site, .int .i64 d.seq]] w fun e w' => e = .returned (.bool (decide (hasV L d))) ∧ Kept (fun _ => False) w w' := (rhasV_grew h hb d).mono fun _ _ ⟨he, hg⟩ => ⟨he, hg.kept⟩
set_option maxRecDepth 100000 in
set_option maxHeartbeats 4000000 in
theorem rcovers_grew {w : World} {va vb : Value} {A B : List Dot} (ha : SlAt dotE w va A) (hb : SlAt dotE w vb B) (hla : A.length ≤ 1000000000) (hlb : B.length ≤ 1000000000) :
    Calls Tryz.prog 20 #[va, vb] w fun e w' => e = .returned (.bool (decide (coversV A B))) ∧ Grew w w' := by
  have hoa := rsays_grew ha hla
  have HB := Lib.hid hb
  clear hb
  go_enter Tryz.func20, Tryz.ntmps20
  go_upto_region 2 with (first
      | (refine wpList_store_row rfl 89 _ _ rfl w1.heap.size (cells (says A)) rfl rfl 89 zero17 P1.out (by rw [cells_size]; kernel_rfl) (by rw [cells_size]; rfl) (cells_one _) ?_)
      | (go_at_call 51; refine hoa.mono ?_; rintro e w1 ⟨rfl, hk1⟩; have P1 := Lib.hid (Blk.new w1 89 zero17)))
  have Q1 := Lib.hid (P1.out.row (cells (says A)))
  have s1 := hk1.kept.size
  have k1 : Grew w ((w1.alloc (.cells zero17 89)).setRow w1.heap.size (cells (says A))) := (hk1.alloc _).setRow s1 _
  have K1 := Lib.hid k1
  clear P1 hk1 hoa k1
  generalize (w1.alloc (.cells zero17 89)).setRow w1.heap.size (cells (says A)) = w2 at *
  go_upto_region 3 with (first
      | (refine wpList_store_row rfl 89 _ _ rfl w3.heap.size (cells (says B)) rfl rfl 89 zero17 P3.out (by rw [cells_size]; kernel_rfl) (by rw [cells_size]; rfl) (cells_one _) ?_)
      | (go_at_call 51; refine (rsays_grew (HB.out.kept K1.out.kept) hlb).mono ?_; rintro e w3 ⟨rfl, hk3⟩; have P3 := Lib.hid (Blk.new w3 89 zero17)))
  have s3 := hk3.kept.size
  have l1 := Q1.out.lt
  have Q3 := Lib.hid (P3.out.row (cells (says B)))
  have Q1' := Lib.hid (((hk3.kept.blk (fun h => h) Q1.out).alloc (.cells zero17 89)).row_far (g := w3.heap.size) (by omega) (cells (says B)))
  have K3 := Lib.hid (((K1.out.trans hk3).alloc (.cells zero17 89)).setRow (g := w3.heap.size) (by have := K1.out.kept.size; omega) (cells (says B)))
  clear P3 hk3 Q1 K1 l1 s3
  generalize (w3.alloc (.cells zero17 89)).setRow w3.heap.size (cells (says B)) = w4 at *
  go_wp2_with fail
  go_loopw [7] (fun iv wr => ∃ n q : Nat, iv = .int .i64 n ∧ n ≤ 17 ∧ (∀ i, i < n → says B i ≤ says A i) ∧ wr = w4.drewN q) (fun iv _ => 17 - (intOf iv).toNat)
  case atStart => exact ⟨0, 0, rfl, by decide, fun i h => absurd h (Nat.not_lt_zero _), rfl⟩
  case round =>
    obtain ⟨n, q, rfl, hn, hc, rfl⟩ := hrel
    have hn0 : (0 : Int) ≤ n := by omega
    have HC := Lib.hid hc
    clear hc
    by_cases hlt : n < 17
    case neg =>
      obtain rfl : n = 17 := by omega
      have ANS := Lib.hid (show decide (coversV A B) = true from decide_eq_true HC.out)
      go_wp2_with fail
      go_ret
      exact ⟨by rw [ANS.out]; rfl, K3.out.drewN _⟩
    case pos =>
      have hI : (n : Int) < 17 := by omega
      have c1 : w4.cell? ⟨w1.heap.size, n, none⟩ = some (.int .i64 (says A n)) := Q1'.out.cell' (cells_get _ hlt)
      have c2 : w4.cell? ⟨w3.heap.size, n, none⟩ = some (.int .i64 (says B n)) := Q3.out.cell' (cells_get _ hlt)
      by_cases h : says A n < says B n
      · have ANS := Lib.hid (show decide (coversV A B) = false from decide_eq_false (fun hc => by have := hc n hlt; omega))
        go_wp2
        go_quiet (fail)
        go_wp2
        go_ret
        exact ⟨by rw [ANS.out]; rfl, (K3.out.drewN q).drewN _⟩
      · have HH := Lib.hid (show says B n ≤ says A n by omega)
        go_wp2
        go_quiet (fail)
        go_wp2
        go_roundw
        case rel =>
          refine ⟨n + 1, _, by go_num, by omega, fun i hi => ?_, rfl⟩
          by_cases hin : i = n
          · rw [hin]; exact HH.out
          · exact HC.out i (by omega)
        case measure => simp [intOf]; omega
theorem rcovers_any {w : World} {va vb : Value} {A B : List Dot} (ha : SlAt dotE w va A) (hb : SlAt dotE w vb B) (hla : A.length ≤ 1000000000) (hlb : B.length ≤ 1000000000) :
    Calls Tryz.prog 20 #[va, vb] w fun e w' => e = .returned (.bool (decide (coversV A B))) ∧ Kept (fun _ => False) w w' := (rcovers_grew ha hb hla hlb).mono fun _ _ ⟨he, hg⟩ => ⟨he, hg.kept⟩
/-- the site of the one before -/
def lastV (L : List Dot) : Nat → Int
  | 0 => 0
  | k + 1 => match L[k]? with
    | some d => d.site
    | none => 0
theorem lastV_next {L : List Dot} {n : Nat} {d : Dot} (h : L[n]? = some d) : lastV L (n + 1) = d.site := by
  show (match L[n]? with | some d => d.site | none => 0) = d.site
  rw [h]
set_option maxRecDepth 100000 in
set_option maxHeartbeats 4000000 in
theorem rvcheck_drew {w : World} {v : Value} {L : List Dot} (h : SlAt dotE w v L) (hb : L.length ≤ 1000000000) : Calls Tryz.prog 31 #[v] w fun e w' => e = .returned (.int .i64 (chkV 0 L)) ∧ ∃ q, w' = w.drewN q := by
  obtain ⟨a, c, rfl, _, _⟩ := h.sl
  have HS := Lib.hid h
  clear h
  go_enter Tryz.func31, Tryz.ntmps31
  go_wp2_with fail
  go_loopw [3] (fun iv wr => ∃ n q : Nat, iv = .int .i64 n ∧ n ≤ L.length ∧ chkV 0 L = chkV (lastV L n) (L.drop n) ∧ (1 ≤ n → 1 ≤ lastV L n) ∧ wr = w.drewN q) (fun iv _ => L.length - (intOf iv).toNat)
  case atStart => exact ⟨0, 0, rfl, Nat.zero_le _, rfl, fun h => absurd h (by decide), rfl⟩
  case round =>
    obtain ⟨n, q0, rfl, hn, hch, hl1, rfl⟩ := hrel
    have hn0 : (0 : Int) ≤ n := by omega
    by_cases hlt : n < L.length
    case neg =>
      have hnl : ¬ (n : Int) < L.length := by omega
      rw [List.drop_of_length_le (by omega)] at hch
      have CH := Lib.hid hch
      clear hch hl1
      go_wp2_with fail
      go_ret
      exact ⟨by rw [CH.out]; rfl, _, rfl⟩
    case pos =>
      have hltI : (n : Int) < L.length := by omega
      obtain ⟨⟨s, q⟩, hd⟩ := get_of_lt hlt
      obtain ⟨g, o, c', hv, hg, hc⟩ := SlAt.dot HS.out (by omega)
      cases hv
      obtain ⟨c0, c1⟩ := hc n _ hd
      rw [check_step hd] at hch
      simp only at hch c0 c1
      by_cases h1 : isSite s
      case neg =>
        rw [if_pos h1] at hch
        have CH := Lib.hid hch
        clear hch hc hd hl1
        by_cases h2 : s < 1
        · clear h1
          go_wp2_with fail
          go_ret
          exact ⟨by rw [CH.out]; rfl, _, rfl⟩
        · have h3 : 16 < s := by unfold isSite at h1; omega
          clear h1
          go_wp2_with fail
          go_ret
          exact ⟨by rw [CH.out]; rfl, _, rfl⟩
      case pos =>
      rw [if_neg (fun h => h h1)] at hch
      have s1 : ¬ s < 1 := by unfold isSite at h1; omega
      have s2 : ¬ 16 < s := by unfold isSite at h1; omega
      clear h1
      by_cases h2 : q < 1 ∨ 2147483647 < q
      · rw [if_pos h2] at hch
        have CH := Lib.hid hch
        clear hch hc hd hl1
        by_cases h3 : q < 1
        · clear h2
          go_wp2_with fail
          go_ret
          exact ⟨by rw [CH.out]; rfl, _, rfl⟩
        · have h4 : 2147483647 < q := h2.resolve_left h3
          clear h2
          go_wp2_with fail
          go_ret
          exact ⟨by rw [CH.out]; rfl, _, rfl⟩
      rw [if_neg h2] at hch
      have h3 : ¬ q < 1 := fun h => h2 (.inl h)
      have h4 : ¬ 2147483647 < q := fun h => h2 (.inr h)
      clear h2
      have hnext : lastV L (n + 1) = s := lastV_next hd
      have HN := Lib.hid hnext
      clear hnext
      cases n with
      | zero =>
        have h5 : ¬ s ≤ lastV L 0 := by show ¬ s ≤ 0; omega
        rw [if_neg h5] at hch
        have CH := Lib.hid hch
        clear hch hc hd hl1 h5
        simp only [Nat.zero_mul, Nat.add_zero, Int.natCast_zero] at *
        go_wp2_with fail
        go_quiet (fail)
        go_wp2_with fail
        go_roundw
        case rel => exact ⟨1, _, by go_num, by omega, by rw [HN.out]; exact CH.out, fun _ => by rw [HN.out]; omega, rfl⟩
        case measure => simp [intOf] <;> omega
      | succ m =>
        obtain ⟨⟨s', q'⟩, hd'⟩ := get_of_lt (show m < L.length by omega)
        obtain ⟨d0, _⟩ := hc m _ hd'
        simp only at d0
        have hlast : lastV L (m + 1) = s' := lastV_next hd'
        rw [hlast] at hch
        clear hl1 hlast hc hd hd'
        have hm : IntKind.i64.wrap (m : Int) = m := by rw [IntKind.wrap_i64]; omega
        have hmI : (m : Int) < L.length := by omega
        have hm0 : (0 : Int) ≤ m := by omega
        have hpos : (0 : Int) < (m : Int) + 1 := by omega
        by_cases h5 : s ≤ s'
        · rw [if_pos h5] at hch
          have CH := Lib.hid hch
          clear hch
          go_wp2_with fail
          go_quiet (fail)
          go_wp2_with fail
          go_ret
          exact ⟨by rw [CH.out]; rfl, _, World.drewN_drewN _ _ _⟩
        · rw [if_neg h5] at hch
          have CH := Lib.hid hch
          clear hch
          go_wp2_with fail
          go_quiet (fail)
          go_wp2_with fail
          go_roundw
          case rel => exact ⟨m + 1 + 1, _, by go_num, by omega, by rw [HN.out]; exact CH.out, fun _ => by rw [HN.out]; omega, rfl⟩
          case measure => simp [intOf] <;> omega
theorem rvcheck_any {w : World} {v : Value} {L : List Dot} (h : SlAt dotE w v L) (hb : L.length ≤ 1000000000) : Calls Tryz.prog 31 #[v] w fun e w' => e = .returned (.int .i64 (chkV 0 L)) ∧ Kept (fun _ => False) w w' := (rvcheck_drew h hb).mono fun _ _ ⟨he, q, hq⟩ => ⟨he, hq ▸ (Kept.refl _ _).drewN q⟩
theorem rvcheck_grew {w : World} {v : Value} {L : List Dot} (h : SlAt dotE w v L) (hb : L.length ≤ 1000000000) : Calls Tryz.prog 31 #[v] w fun e w' => e = .returned (.int .i64 (chkV 0 L)) ∧ Grew w w' := (rvcheck_drew h hb).mono fun _ _ ⟨he, q, hq⟩ => ⟨he, hq ▸ ⟨q, #[], rfl⟩⟩
end Go.Proofs.YtaaeomapbigfgaaGreat
namespace Go.Proofs.YtaaeomapbigfgaaGreat
open Go.RowKit Go.Proofs.YtaaeomapbigfgaaGreat.St
open Go.Sort (grow)
set_option maxRecDepth 100000 in
set_option maxHeartbeats 4000000 in
theorem rcan_grew {w : World} {g : Nat} {h0 v wv ov : Value} {V D : List Dot} {x : OpV} (hq : Blk w g 51 #[h0, v, wv, ov]) (hv : SlAt dotE w v V) (hD : SlAt dotE w x.deps.v D) (hVl : V.length ≤ 1000000000) (hDl : D.length ≤ 1000000000) :
    Calls Tryz.prog 55 #[.pointer (some ⟨g, 0, none⟩), .agg (opA x)] w fun e w' => e = .returned (.bool (decide (Ent.can V x.dot D))) ∧ Grew w w' := by
  have hB := Blk.new w 42 (opA x)
  have k0 : Grew w (w.alloc (.cells (opA x) 42)) := (Grew.refl _).alloc _
  have hgt := hq.lt
  obtain ⟨W, hW, hz⟩ : ∃ W, w.alloc (.cells (opA x) 42) = W ∧ W.heap.size = w.heap.size + 1 := ⟨_, rfl, by simp⟩
  rw [hW] at hB k0
  have b0 := cell_grown (w := W) (by show w.heap.size < _; omega) (show W.cell? ⟨w.heap.size, 0, none⟩ = some (.int .i64 x.dot.site) from hB.cell' (i := 0) rfl)
  have b1 := cell_grown (w := W) (by show w.heap.size < _; omega) (show W.cell? ⟨w.heap.size, 1, none⟩ = some (.int .i64 x.dot.seq) from hB.cell' (i := 1) rfl)
  have b2 := cell_grown (w := W) (by show w.heap.size < _; omega) (show W.cell? ⟨w.heap.size, 2, none⟩ = some x.deps.v from hB.cell' (i := 2) rfl)
  have q1 := cell_grown (w := W) (by show g < _; omega) (show W.cell? ⟨g, 1, none⟩ = some v from (k0.kept.blk (fun h => h) hq).cell' (i := 1) rfl)
  have HG := Lib.hid (fun (w' : World) (hk : Grew W w') => rget_grew (hv.kept (k0.trans hk).kept) hVl x.dot.site)
  have HC := Lib.hid (fun (w' : World) (hk : Grew W w') => rcovers_grew (hv.kept (k0.trans hk).kept) (hD.kept (k0.trans hk).kept) hVl hDl)
  have gbd : 0 ≤ getV V x.dot.site ∧ getV V x.dot.site ≤ 2147483647 := by
    unfold getV
    by_cases h : isSite x.dot.site
    · rw [if_pos h]; exact says_bd V _
    · rw [if_neg h]; exact ⟨by decide, by decide⟩
  have hw : IntKind.i64.wrap (getV V x.dot.site + 1) = getV V x.dot.site + 1 := IntWalk.i64_in _ (by omega)
  have K0 := Lib.hid k0
  have hmix : Tryz.prog.follows .mixedOrders = true := by kernel_rfl
  have HW := Lib.hid hW
  by_cases hs : x.dot.seq = getV V x.dot.site + 1
  · have hsb : (x.dot.seq == getV V x.dot.site + 1) = true := beq_iff_eq.2 hs
    have ANS : Hid (decide (coversV V D) = decide (Ent.can V x.dot D)) := Lib.hid (decide_eq_decide.2 ⟨fun h => ⟨hs, h⟩, fun h => h.2⟩)
    generalize decide (coversV V D) = cb at *
    generalize getV V x.dot.site = gv at *
    clear hq hv hD hB k0 gbd hs hz hgt hW
    go_enter Tryz.func55, Tryz.ntmps55
    go_wp2_with fail
    rw [HW.out]
    go_quiet_grown (first
      | (go_at_call 20; exact grown_call HC.out _ _)
      | (go_at_call 21; exact grown_call HG.out _ _))
    go_wp2_with fail
    go_ret
    exact ⟨by rw [← ANS.out]; rfl, K0.out.trans (Grew.grown _ _)⟩
  · have hsb : (x.dot.seq == getV V x.dot.site + 1) = false := beq_eq_false_iff_ne.2 hs
    have ANS : Hid (false = decide (Ent.can V x.dot D)) := Lib.hid (decide_eq_false fun h => hs h.1).symm
    generalize getV V x.dot.site = gv at *
    clear hq hv hD hB k0 gbd hs hz hgt hW
    go_enter Tryz.func55, Tryz.ntmps55
    go_wp2_with fail
    rw [HW.out]
    go_quiet_grown (first
      | (go_at_call 21; exact grown_call HG.out _ _))
    go_wp2_with fail
    go_ret
    exact ⟨by rw [← ANS.out]; rfl, K0.out.trans (Grew.grown _ _)⟩
end Go.Proofs.YtaaeomapbigfgaaGreat
namespace Go.Proofs.YtaaeomapbigfgaaGreat
open Go.RowKit
section
variable {P : Program} {α : Type} {E : Enc α} {w w' : World}
theorem run_storeCells_at (g : Nat) (t : TypeId) (o : Nat) : ∀ (vs : List Value) (i : Nat) (cur : Array Value) (w : World), w.heap[g]? = some (.cells cur t (0, 0)) → o + i + vs.length ≤ cur.size → (∀ v ∈ vs, v.oneCell' = true) →
    ∃ cur' : Array Value, (storeCells ⟨g, o, none⟩ vs i).run P w = .ok () (w.setRow g cur') ∧ cur'.size = cur.size ∧ (∀ j, j < vs.length → cur'[o + i + j]? = vs[j]?) ∧ (∀ m, (m < o + i ∨ o + i + vs.length ≤ m) → cur'[m]? = cur[m]?)
  | [], i, cur, w, hg, hl, _ => by
    refine ⟨cur, ?_, rfl, fun j hj => by simp at hj, fun _ _ => rfl⟩
    have hv : w.heap[g]? = some (.cells cur t (0, 0)) := hg
    simp only [storeCells]
    show Result.ok () w = _
    congr 1
    unfold World.setRow
    cases w with
    | mk heap tape drawn os output =>
      congr 1
      apply Array.ext
      · simp
      · intro k h1 h2
        simp only [Array.getElem_modify]
        split
        · rename_i hk
          subst hk
          simp only [Array.getElem?_eq_getElem h1, Option.some.injEq] at hv
          rw [hv]
        · rfl
  | v :: rest, i, cur, w, hg, hl, h1 => by
    have hi : o + i < cur.size := by simp at hl; omega
    have hcell : w.cell? ⟨g, o + i, none⟩ = some cur[o + i] := by simp [World.cell?, hg, hi]
    have hfro : w.frozen? ⟨g, o + i, none⟩ = false := by simp [World.frozen?, hg]
    have hst : (store ((⟨g, o, none⟩ : Addr).add i) v).run P w = .ok () (w.setRow g (cur.setIfInBounds (o + i) v)) := by
      rw [Addr.add_lit, run_store P w _ v _ (h1 v (by simp)), hcell]
      simp [hfro, setCell_eq_setRow w g (o + i) cur t (0, 0) v hg]
    obtain ⟨cur', h2, h3, h4, h5⟩ := run_storeCells_at g t o rest (i + 1) (cur.setIfInBounds (o + i) v) (w.setRow g (cur.setIfInBounds (o + i) v)) (setRow_heap w g cur _ t _ hg) (by simp at hl ⊢; omega) (fun x hx => h1 x (by simp [hx]))
    refine ⟨cur', ?_, by rw [h3]; simp, fun j hj => ?_, fun m hm => ?_⟩
    · simp only [storeCells, Sem.run_bind, hst, Result.andThen_ok, h2, setRow_setRow]
    · cases j with
      | zero =>
        rw [Nat.add_zero, h5 (o + i) (.inl (by omega)), Array.getElem?_setIfInBounds_self_of_lt hi]
        rfl
      | succ j =>
        rw [show o + i + (j + 1) = o + (i + 1) + j by omega, h4 j (by simpa using hj)]
        rfl
    · rw [h5 m (by simp at hm; omega), Array.getElem?_setIfInBounds_ne (by simp at hm; omega)]
theorem run_storeVar_elem {t ty : TypeId} {g cap i : Nat} {D : List α} {z : α} (hO : OwnAt E w t g cap D) (hi : i < D.length) (hinfo : (P.info? ty).map (·.size) = some E.k) :
    ∃ w', (storeVar ty ⟨g, i * E.k, none⟩ (.agg (E.enc z).toArray)).run P w = .ok () w' ∧ OwnAt E w' t g cap (D.set i z) ∧ Kept (fun b => b = g) w w' := by
  obtain ⟨cs, h1, h2, h3, h4, h5⟩ := hO
  have hm := Nat.mul_le_mul_right E.k (show i + 1 ≤ cap by omega)
  rw [Nat.add_mul, Nat.one_mul] at hm
  obtain ⟨cur', r1, r2, r3, r4⟩ := run_storeCells_at (P := P) g t (i * E.k) (E.enc z) 0 cs w h1 (by rw [E.len]; omega) (E.one z)
  rw [Nat.add_zero] at r3 r4
  refine ⟨w.setRow g cur', ?_, ⟨cur', Blk.row h1 cur', by omega, by simpa using h3, h4, fun n y hy j u hu => ?_⟩, Kept.setRow (Kept.refl (fun b => b = g) w) (fun _ => rfl) cur'⟩
  · cases hq : P.info? ty with
    | none => simp [hq] at hinfo
    | some q =>
      have hs : (E.enc z).length = q.size := by simp [hq] at hinfo; rw [E.len]; omega
      simp [storeVar, sizeOf, typeInfo, hq, Value.cells, hs, r1]
  · have hj : j < E.k := by rw [← E.len y]; exact (List.getElem?_eq_some_iff.1 hu).1
    by_cases hn : i = n
    · subst hn
      simp [hi] at hy
      subst hy
      rw [r3 j (by rw [E.len]; exact hj)]
      exact hu
    · rw [List.getElem?_set_ne hn] at hy
      have ho : n * E.k + j < i * E.k ∨ i * E.k + (E.enc z).length ≤ n * E.k + j := by
        rw [E.len]
        rcases Nat.lt_or_gt_of_ne hn with h | h
        · right
          have := Nat.mul_le_mul_right E.k (show i + 1 ≤ n by omega)
          rw [Nat.add_mul, Nat.one_mul] at this
          omega
        · left
          have := Nat.mul_le_mul_right E.k (show n + 1 ≤ i by omega)
          rw [Nat.add_mul, Nat.one_mul] at this
          omega
      rw [r4 _ ho]
      exact h5 n y hy j u hu
/-- a struct's value goes into an element -/
theorem wpList_store_elem {ops : Array Oper} {rest : List Oper} {o : Oper} {a : Act} {Q : Exit → Act → World → Prop} (hgd : o.guard = none) (ty : TypeId) (x y : Operand) (ho : o.op = .store ty x y) {t : TypeId} {g cap i : Nat} {D : List α} (z : α)
    (hx : a.eval x = .pointer (some ⟨g, i * E.k, none⟩)) (hy : a.eval y = .agg (E.enc z).toArray) (hO : OwnAt E w t g cap D) (hi : i < D.length) (hinfo : (P.info? ty).map (·.size) = some E.k)
    (h : ∀ w', OwnAt E w' t g cap (D.set i z) → Kept (fun b => b = g) w w' → wpList P ops Q rest (a.put o.dst undef) w') : wpList P ops Q (o :: rest) a w :=
  wpList_plain hgd fun _ hK => by
    obtain ⟨w', r1, r2, r3⟩ := run_storeVar_elem (P := P) (ty := ty) (z := z) hO hi hinfo
    unfold Oper.wp execOp
    simp only [ho, hx, hy, Instr.storeAt, Instr.sureAddr, Sem.run_bind, Sem.run_pure, Result.andThen_ok, r1]
    exact hK _ _ (h w' r2 r3)
theorem run_loadVar_elem {ty : TypeId} {g off : Nat} {z : α} {d : TypeDesc} (hc : ∀ j u, (E.enc z)[j]? = some u → w.cell? ⟨g, off + j, none⟩ = some u) (hu : P.underlying ty = some d) (hd : (match d with | .struct _ | .array _ _ => true | _ => false) = true)
    (hinfo : (P.info? ty).map (·.size) = some E.k) : (loadVar ty ⟨g, off, none⟩).run P w = .ok (.agg (E.enc z).toArray) w := by
  have hl := run_loadCells_list (P := P) w ⟨g, off, none⟩ (E.enc z) (fun j v hv => by rw [Addr.add_lit]; exact hc j v hv)
  rw [E.len] at hl
  cases hq : P.info? ty with
  | none => simp [hq] at hinfo
  | some i =>
    have hs : i.size = E.k := by simpa [hq] using hinfo
    have hagg : (isAgg ty).run P w = .ok true w := by
      unfold isAgg
      rw [Sem.run_bind, run_underlying hu w]
      cases d <;> simp_all
    simp [loadVar, Sem.run_bind, hagg, sizeOf, typeInfo, hq, hs, hl]
/-- an element is loaded whole -/
theorem wpList_load_elem {ops : Array Oper} {rest : List Oper} {o : Oper} {a : Act} {Q : Exit → Act → World → Prop} (hgd : o.guard = none) (ty : TypeId) (x : Operand) (ho : o.op = .load ty x) {t : TypeId} {g cap i : Nat} {D : List α} {z : α} {d : TypeDesc}
    (hx : a.eval x = .pointer (some ⟨g, i * E.k, none⟩)) (hO : OwnAt E w t g cap D) (hz : D[i]? = some z) (hu : P.underlying ty = some d) (hd : (match d with | .struct _ | .array _ _ => true | _ => false) = true) (hinfo : (P.info? ty).map (·.size) = some E.k)
    (h : wpList P ops Q rest (a.put o.dst (.agg (E.enc z).toArray)) w) : wpList P ops Q (o :: rest) a w :=
  wpList_plain hgd fun _ hK => by
    unfold Oper.wp execOp
    simp only [ho, hx, Instr.loadAt, Instr.sureAddr, Sem.run_bind, Sem.run_pure, Result.andThen_ok, run_loadVar_elem (P := P) (E := E) (z := z) (g := g) (off := i * E.k) (fun j u hu => hO.cell hz hu) hu hd hinfo]
    exact hK _ _ h
end
end Go.Proofs.YtaaeomapbigfgaaGreat
