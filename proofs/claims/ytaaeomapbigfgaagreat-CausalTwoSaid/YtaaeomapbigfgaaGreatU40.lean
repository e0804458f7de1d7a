/- hearsaylaw13.CausalTwo returns true at every number and any two scripts of steps, and what there was reads as before. hearsaylaw13.CausalNothing returns true at every script of steps, and what there was reads as before. CausalPlays, CausalTwo and CausalNothing together. -/
import Derived.Test.YtaaeomapbigfgaaGreatU39
import Derived.Test.YtaaeomapbigfgaaGreatU33
import Derived.Test.YtaaeomapbigfgaaGreatRows
import Derived.WalkKit
import Derived.ProofKit
import Derived.OpenShut
import Derived.ShutString
import Derived.ChangeOld
import Derived.Below
import Derived.Test.YtaaeomapbigfgaaGreatU38
import Derived.Deep.DeepCutAuto
namespace Go.Proofs.YtaaeomapbigfgaaGreat
open Go.RowKit Go.Proofs.YtaaeomapbigfgaaGreat.St
namespace causalTwo
set_option maxRecDepth 100000 in
set_option maxHeartbeats 4000000 in
/-- a script that is more than is looked at -/
theorem over_one {w : World} {hold : Int} {v1 v2 : Value} {L1 : List StV} (hL : SlAt stE w v1 L1) (hM : muchP L1) : Calls Tryz.prog 4 #[.int .i64 hold, v1, v2] w (Post w) := by
  have HMU := Lib.hid (much_any hL)
  rw [decide_eq_true hM] at HMU
  obtain ⟨la, lc, rfl, _, _⟩ := hL.sl
  clear hL hM
  go_enter Tryz.func4, Tryz.ntmps4
  go_wp2_with (first
    | (go_at_call 7; refine HMU.out.mono ?_; rintro r w0 ⟨rfl, hk0⟩)
    | (go_at_call 8; refine (known_any _).mono ?_; rintro r w1 ⟨rfl, hk1⟩))
  go_ret
  exact ⟨rfl, hk0.trans hk1 (fun _ _ h => h)⟩
set_option maxRecDepth 100000 in
set_option maxHeartbeats 4000000 in
theorem over_two {w : World} {hold : Int} {v1 v2 : Value} {L1 L2 : List StV} (hL1 : SlAt stE w v1 L1) (hM1 : ¬ muchP L1) (hL : SlAt stE w v2 L2) (hM : muchP L2) : Calls Tryz.prog 4 #[.int .i64 hold, v1, v2] w (Post w) := by
  have HMU1 := Lib.hid (much_any hL1)
  rw [decide_eq_false hM1] at HMU1
  have HMU2 := Lib.hid (fun (w' : World) (hk : Kept (fun _ => False) w w') => much_any (hL.kept hk))
  rw [decide_eq_true hM] at HMU2
  obtain ⟨a1, c1, rfl, _, _⟩ := hL1.sl
  obtain ⟨a2, c2, rfl, _, _⟩ := hL.sl
  clear hL hM hL1 hM1
  go_enter Tryz.func4, Tryz.ntmps4
  go_wp2_with (first
    | (go_at_call 7; refine (HMU2.out _ KM.out).mono ?_; rintro r w0 ⟨rfl, hk0⟩)
    | (go_at_call 7; refine HMU1.out.mono ?_; rintro r wm ⟨rfl, hkm⟩; have KM := Lib.hid hkm; clear hkm)
    | (go_at_call 8; refine (known_any _).mono ?_; rintro r w1 ⟨rfl, hk1⟩))
  go_ret
  exact ⟨rfl, (KM.out.trans hk0 (fun _ _ h => h)).trans hk1 (fun _ _ h => h)⟩
theorem walk (a0 : Int) (v1 : Value) (z1 : List StV) (v2 : Value) (z2 : List StV) (_w0 : (Lit.int .i64 a0).wf = true) {w1 : World} (h1 : SlAt stE w1 v1 z1 ∧ ∀ s ∈ z1, OpIn w1 s.e ∧ I64 s.tk) (h2 : SlAt stE w1 v2 z2 ∧ ∀ s ∈ z2, OpIn w1 s.e ∧ I64 s.tk) (w : World) (hw : w = w1 := by first | assumption | rfl) :
    Calls Tryz.prog 4 #[.int .i64 a0, v1, v2] w fun e w' => e = .returned (.bool true) ∧ Below w.heap.size w w' := by
  subst hw
  have hp : Calls Tryz.prog 4 #[.int .i64 a0, v1, v2] w (Post w) := by
    by_cases hm1 : muchP z1
    · exact over_one h1.1 hm1
    by_cases hm2 : muchP z2
    · exact over_two h1.1 hm1 h2.1 hm2
    exact small h1.1 h2.1 (fun s hs => ⟨(h1.2 s hs).1, fun hb => hm1 (.inr ⟨s, hs, hb⟩)⟩) (fun s hs => ⟨(h2.2 s hs).1, fun hb => hm2 (.inr ⟨s, hs, hb⟩)⟩) (Nat.le_of_not_lt fun h => hm1 (.inl h)) (Nat.le_of_not_lt fun h => hm2 (.inl h))
  exact hp.mono fun e w' ⟨he, hk⟩ => ⟨he, hk.below (Nat.le_refl _) (fun _ _ h => h)⟩
end causalTwo

namespace causalTwo
open Go.ChangeShapes Go.WideShapes Go.ChangeAt Go.RowKit
open Go.ChangeMaps (open_string shut_string)
theorem own : ownKnob Tryz.prog.godebug = none := by kernel_rfl
theorem laidOut : laidOutB Tryz.prog = true := by kernel_rfl
set_option maxRecDepth 100000 in
theorem lifted (os : Os) (started : os.Started) (H : Type) (enc : TypeId × Value → H) :
    ReturnsInHanded {} Tryz.checked os 4 .any (Rows.causalTwoSpec.pre6 enc Tryz.prog Tryz.f4 Rows.causalTwoRow.domain false) (Rows.causalTwoSpec.post enc Tryz.prog Tryz.f4 false true false false) := by
  refine returnsInHanded_of_change (C := Tryz.checked) own started (by kernel_rfl) Tryz.func4
    (ChangeSpec.witness6 (enc := enc) (C := Tryz.checked) false ⟨#[], #[.int .i64 0, .slice none 0 0, .slice none 0 0], []⟩ 8 (by kernel_rfl) (by kernel_rfl) (by kernel_rfl) (by kernel_rfl)) ?_
  intro W base args ds gs before hval0 hW hcnd _
  have hval : ∀ (j : Nat) t v, Tryz.f4.params[j]? = some t → args[j]? = some v → Value.okWide Tryz.prog W .any base t v := hval0
  have hW' := hW
  obtain ⟨p, q, hA0, hV, rfl, hfz, hnd⟩ := hW
  have hA : DataW.TrodAll enc Tryz.prog W 0 (fun _ => true) true Tryz.f4.params.toList args.toList ds p := hA0
  rw [Tryz.params4] at hA hval
  obtain ⟨v0, vs0, d0, ds0, p0, q0, hargs, rfl, rfl, h0, r0⟩ := trodAll_cons hA
  obtain ⟨v1, vs1, d1, ds1, p1, q1, rfl, rfl, rfl, h1, r1⟩ := trodAll_cons r0
  obtain ⟨v2, vs2, d2, ds2, p2, q2, rfl, rfl, rfl, h2, r2⟩ := trodAll_cons r1
  obtain ⟨rfl, rfl, rfl⟩ := trodAll_nil r2
  obtain rfl : args = #[v0, v1, v2] := by cases args; simp_all
  obtain ⟨rfl, rfl⟩ := trodVars_none hV
  obtain ⟨a0, rfl, rfl, rfl, w0⟩ := open_int Tryz.underlying3 (hval 0 3 v0 rfl rfl) h0
  have k1 := h1
  have lt1 : ∀ x ∈ p1, x.block < W.heap.size := by obtain ⟨m, hm⟩ := k1; exact DataW.trod_lt m _ _ _ hm
  obtain ⟨z1, w1⟩ := open_steps (hval 1 24 v1 rfl rfl) h1
  have k2 := h2
  have lt2 : ∀ x ∈ p2, x.block < W.heap.size := by obtain ⟨m, hm⟩ := k2; exact DataW.trod_lt m _ _ _ hm
  obtain ⟨z2, w2⟩ := open_steps (hval 2 24 v2 rfl rfl) h2
  clear hA0 hval0
  refine (walk a0 v1 z1 v2 z2 w0 w1 w2 W rfl).mono fun e W' ⟨he, bel⟩ => ?_
  subst he
  exact ⟨_, rfl, _, _, _, [], _, [], hW', trodAll_mk1 (shut_bool Tryz.underlying4 _), (trodAll_cons_mk (shut_int Tryz.underlying3 w0) (trodAll_cons_mk (Below.trod laidOut (by kernel_rfl) (of_decide_eq_true (by kernel_rfl)) k1 bel lt1) (trodAll_cons_mk (Below.trod laidOut (by kernel_rfl) (of_decide_eq_true (by kernel_rfl)) k2 bel lt2) trodAll_mk0))), rfl, bel.frame _, fun h => by cases h⟩

theorem over : Rows.causalTwoRow.holds Tryz.pinned (OpenSpec.ofChange Rows.causalTwoSpec) :=
  OpenClaim.holds_of_wide 4 Tryz.f4 rfl rfl rfl rfl rfl rfl rfl ⟨rfl, rfl, rfl, rfl, rfl⟩ rfl rfl rfl rfl rfl (by kernel_rfl) Tryz.func4 (by kernel_rfl)
    (of_decide_eq_true (by kernel_rfl)) (by unfold Func.isWrapper; first | (rw [if_pos (by decide +kernel)]; kernel_rfl) | (rw [if_neg (by decide +kernel)]; exact ⟨rfl, rfl⟩))
    (fun os started H enc _ => lifted os started H enc)
theorem proved : Rows.CausalTwoSaid := over
end causalTwo


end Go.Proofs.YtaaeomapbigfgaaGreat
namespace Go.Proofs.YtaaeomapbigfgaaGreat
open Go.RowKit Go.Proofs.YtaaeomapbigfgaaGreat.St
set_option maxRecDepth 100000 in
set_option maxHeartbeats 2000000 in
theorem offer_none (x : OpV) (w : World) : Calls Tryz.prog 13 #[.pointer none, .agg (opA x)] w fun r w' => r = .returned (.tuple #[.int .i64 0, .int .i64 1]) ∧ Kept (fun _ => False) w w' := by
  have k0 : Kept (fun _ => False) w (w.alloc (.cells (opA x) 42)) := (Kept.refl _ _).alloc _
  have K0 := Lib.hid k0
  clear k0
  go_enter Tryz.func13, Tryz.ntmps13
  go_wp2_with fail
  refine wp_scope_any (fun _ _ _ => False) (fun _ _ _ => 0) ?_ ?_
  · intro pass
    go_wp2_with fail
    simp only [Exit.jumps]
    go_ret2
    exact ⟨rfl, K0.out⟩
  · rintro l a' w' ⟨⟩
set_option maxRecDepth 100000 in
set_option maxHeartbeats 2000000 in
theorem take_none (w : World) : Calls Tryz.prog 14 #[.pointer none] w fun r w' => r = .returned (.tuple #[.agg zeroOp, .bool false]) ∧ Kept (fun _ => False) w w' := by
  have B0 := Lib.hid (Blk.new w 42 zeroOp)
  have K0 := Lib.hid ((Kept.refl (fun _ => False) w).alloc (.cells zeroOp 42))
  go_enter Tryz.func14, Tryz.ntmps14
  go_upto_region 1 with fail
  generalize hw0 : w.alloc (.cells zeroOp 42) = w0 at *
  clear hw0
  go_wp2_with (first
    | (refine wpList_store_row rfl 42 _ _ rfl w.heap.size zeroOp rfl rfl 42 zeroOp B0.out size_op rfl (by simp [zeroOp, Value.oneCell']) ?_))
  exact bodyPost_ret (Blk.result2 rfl _ (B0.out.row _) rfl Tryz.underlying42 rfl size_op) rfl ⟨rfl, K0.out.setRow (fun h => by omega) _⟩
set_option maxRecDepth 100000 in
theorem waits_none (w : World) : Calls Tryz.prog 16 #[.pointer none] w fun r w' => r = .returned (.slice none 0 0) ∧ w = w' := by
  go_enter Tryz.func16, Tryz.ntmps16
  go_wp2_with fail
  go_ret
  exact ⟨rfl, rfl⟩
set_option maxRecDepth 100000 in
theorem free_none (w : World) : Calls Tryz.prog 17 #[.pointer none] w fun r w' => r = .returned (.int .i64 0) ∧ w = w' := by
  go_enter Tryz.func17, Tryz.ntmps17
  go_wp2_with fail
  go_ret
  exact ⟨rfl, rfl⟩
set_option maxRecDepth 100000 in
theorem vector_none (w : World) : Calls Tryz.prog 18 #[.pointer none] w fun r w' => r = .returned (.slice none 0 0) ∧ w = w' := by
  go_enter Tryz.func18, Tryz.ntmps18
  go_wp2_with fail
  go_ret
  exact ⟨rfl, rfl⟩
/-- two zero Queues -/
theorem Duo.zero {w0 w : World} {g r : Nat} (hg : Blk w g 49 #[.int .i64 0, .slice none 0 0, .slice none 0 0, .slice none 0 0]) (hr : Blk w r 51 #[.int .i64 0, .slice none 0 0, .slice none 0 0, .slice none 0 0]) (h1 : w0.heap.size ≤ g) (h2 : w0.heap.size ≤ r) (hk : Kept (fun b => w0.heap.size ≤ b) w0 w) :
    Duo w0 w g r 0 ⟨[], [], []⟩ ⟨[], [], []⟩ (fun b => b = g ∨ b = r) := by
  have hne : g ≠ r := hg.ne_ hr (of_decide_eq_true (by kernel_rfl))
  refine ⟨⟨[], [], []⟩, ⟨[], [], []⟩, fun b => b = g, fun b => b = r, _, _, _, _, _, _, ⟨⟨hg, World.ownsRow_nil _ _ _ _, Nat.zero_le _, World.ownsRow_nil _ _ _ _, Nat.zero_le _, OutAt.nil _ _, Nat.zero_le _, fun b h => (by cases h), fun b h => (by cases h), fun b h => (by cases h), fun b h => (by cases h), fun e he => (by simp at he)⟩, rfl, fun b h => (by cases h), fun e he => (by simp at he), ⟨List.Pairwise.nil, fun e he => (by simp at he)⟩, fun b hb => by have hb : b = g := hb; rw [hb]; exact hg.lt⟩,
    ⟨⟨hr, World.ownsRow_nil _ _ _ _, Nat.zero_le _, World.ownsRow_nil _ _ _ _, Nat.zero_le _, OutAt.nil _ _, Nat.zero_le _, fun b h => (by cases h), fun b h => (by cases h), fun b h => (by cases h), fun b h => (by cases h), fun e he => (by simp at he)⟩, rfl, fun b h => (by cases h), fun b hb => by have hb : b = r := hb; rw [hb]; exact ⟨h2, hr.lt⟩, hk⟩, rfl, rfl, fun b hb hm => by have hb : b = r := hb; have hm : b = g := hm; exact hne (hm.symm.trans hb), fun b hb => .inl hb, fun b hb => .inr hb, fun b hb => ?_⟩
  rcases hb with rfl | rfl
  · exact ⟨h1, hg.lt⟩
  · exact ⟨h2, hr.lt⟩
namespace causalNothing
def Post (w : World) (r : Ending) (w' : World) : Prop := r = .returned (.bool true) ∧ Kept (fun _ => False) w w'
set_option maxRecDepth 100000 in
set_option maxHeartbeats 16000000 in
theorem small {w : World} {lv : Value} {L : List StV} (hL : SlAt stE w lv L) (hS : ∀ s ∈ L, OpIn w s.e ∧ ¬ bigP s.e.v) (hLl : L.length ≤ 300) :
    Calls Tryz.prog 5 #[lv] w (Post w) := by
  have HMU := Lib.hid (much_any hL)
  have hno : decide (muchP L) = false := decide_eq_false (fun h => by
    rcases h with h | ⟨s, hs, hb⟩
    · omega
    · exact (hS s hs).2 hb)
  rw [hno] at HMU
  obtain ⟨la, lc, rfl, _, _⟩ := hL.sl
  have HL := Lib.hid hL
  have HS := Lib.hid hS
  clear hno hL hS
  go_enter Tryz.func5, Tryz.ntmps5
  go_upto_region 3 with (go_at_call 7; refine HMU.out.mono ?_; rintro r w0 ⟨rfl, hk0⟩)
  have B1 := (Blk.new w0 49 #[.int .i64 0, .slice none 0 0, .slice none 0 0, .slice none 0 0]).alloc (.cells #[.int .i64 0, .slice none 0 0, .slice none 0 0, .slice none 0 0] 51)
  have B2 := Blk.new (w0.alloc (.cells #[.int .i64 0, .slice none 0 0, .slice none 0 0, .slice none 0 0] 49)) 51 #[.int .i64 0, .slice none 0 0, .slice none 0 0, .slice none 0 0]
  have k2 : Kept (fun _ => False) w ((w0.alloc (.cells #[.int .i64 0, .slice none 0 0, .slice none 0 0, .slice none 0 0] 49)).alloc (.cells #[.int .i64 0, .slice none 0 0, .slice none 0 0, .slice none 0 0] 51)) := (hk0.alloc _).alloc _
  rw [World.size_alloc] at B2
  have DU := Lib.hid (Duo.zero B1 B2 hk0.size (Nat.le_succ_of_le hk0.size) (k2.mono (fun _ _ h => h.elim)))
  have K2 := Lib.hid k2
  have HF := Lib.hid (show ∀ b, (b = w0.heap.size ∨ b = w0.heap.size + 1) → w.heap.size ≤ b from fun b hb => by have := hk0.size; omega)
  clear B1 B2 k2 HMU hk0
  go_upto_region 6 with fail
  generalize (w0.alloc (.cells #[.int .i64 0, .slice none 0 0, .slice none 0 0, .slice none 0 0] 49)).alloc (.cells #[.int .i64 0, .slice none 0 0, .slice none 0 0, .slice none 0 0] 51) = w1 at *
  go_wp2_with fail
  go_loopw [6] (fun iv wr => ∃ (m : Nat) (C : CQ) (F : Nat → Prop), iv = .int .i64 m ∧ m ≤ L.length ∧ Duo w wr w0.heap.size (w0.heap.size + 1) 0 C C F ∧ COk 0 C ∧ C.W.length + C.O.length ≤ m ∧ (∀ b, F b → w.heap.size ≤ b) ∧ Kept (fun _ => False) w wr) (fun iv _ => L.length - (intOf iv).toNat)
  case atStart => exact ⟨0, _, _, rfl, Nat.zero_le _, DU.out, COk.first (V := []) (Int.le_refl _) rfl, Nat.le_refl _, HF.out, K2.out⟩
  case round =>
    clear DU HF K2
    obtain ⟨m, C, F, rfl, hm, hdu, hok, hcl, hF, hk⟩ := hrel
    have hm0 : (0 : Int) ≤ m := by omega
    by_cases hlt2 : m < L.length
    case neg =>
      have hml : ¬ (m : Int) < L.length := by omega
      have KR := Lib.hid hk
      clear hdu hok hF hk
      go_wp2_with (go_at_call 8; refine (known_any _).mono ?_; rintro r w7 ⟨rfl, hk7⟩)
      go_ret
      exact ⟨rfl, KR.out.trans hk7 (fun _ _ h => h)⟩
    case pos =>
      have hmI : (m : Int) < L.length := by omega
      obtain ⟨x, hx⟩ := get_of_lt hlt2
      have hxm := List.mem_of_getElem? hx
      obtain ⟨g, o, c', e1, hcs⟩ := SlAt.stepc (HL.out.kept hk) (by omega)
      injection e1 with e2 _ e3
      subst e2 e3
      have CS := Lib.hid (hcs m x hx)
      have CE : Hid (∀ j u, (entE.enc x.e)[j]? = some u → wr.cell? ⟨g, o + m * 13 + j, none⟩ = some u) := Lib.hid (fun j u hu => hcs m x hx j u (by
        have hj := (List.getElem?_eq_some_iff.1 hu).1
        show (x.e.v.cells ++ [.bool x.no, .int .i64 x.tk])[j]? = some u
        exact (List.getElem?_append_left (l₁ := entE.enc x.e) hj).trans hu))
      have KR := Lib.hid hk
      have HF := Lib.hid hF
      have DU := Lib.hid hdu
      have OK := Lib.hid hok
      have FRE := Lib.hid hdu.fresh
      have HX := Lib.hid (HS.out x hxm)
      clear hcs hdu hok hF hk hx hxm
      go_upto_region 10 with (first
        | (refine wpList_load_at (E := entE) (z := x.e) rfl 42 _ rfl rfl CE.out Tryz.underlying42 rfl size_op ?_)
        | (go_at_call 13; refine (offer_none x.e.v _).mono ?_; rintro r w2 ⟨rfl, hk2⟩))
      go_upto_region 11 with (first
        | (go_at_call 14; refine (take_none _).mono ?_; rintro r w3 ⟨rfl, hk3⟩; have A3 := Lib.hid (Blk.new w3 42 zeroOp))
        | (refine wpList_store_row rfl 42 _ _ rfl w3.heap.size zeroOp rfl rfl 42 zeroOp A3.out size_op rfl (by simp [zeroOp, Value.oneCell']) ?_))
      have kA : Kept (fun _ => False) w3 ((w3.alloc (.cells zeroOp 42)).setRow w3.heap.size zeroOp) := ((Kept.refl _ _).alloc _).setRow (fun h => by omega) _
      have kW := (hk2.trans hk3 (fun _ _ h => h)).trans kA (fun _ _ h => h)
      have BO := Lib.hid (A3.out.row zeroOp)
      have hzr := hk2.size
      have hz3 := hk3.size
      have FBO : Hid (∀ b, F b → b ≠ w3.heap.size) := Lib.hid (fun b hb => by have := (FRE.out b hb).2; omega)
      have DU4 := Lib.hid (DU.out.kept kW)
      have K4 := Lib.hid (KR.out.trans kW (fun _ _ h => h))
      have CS4 : Hid (∀ j u, (stE.enc x)[j]? = some u → ((w3.alloc (.cells zeroOp 42)).setRow w3.heap.size zeroOp).cell? ⟨g, o + m * 13 + j, none⟩ = some u) := Lib.hid (fun j u hu => kW.cell (CS.out j u hu))
      clear kA kW A3 hk2 hk3 DU KR CE CS FRE
      generalize w3.heap.size = bo at *
      generalize (w3.alloc (.cells zeroOp 42)).setRow bo zeroOp = w4 at *
      have HD := Lib.hid (does_any DU4.out OK.out (Int.le_refl 0) (by decide) HX.out.1 HX.out.2 (by omega))
      go_wp2_with (first
        | (refine wpList_load_at (E := stE) (z := x) rfl 44 _ rfl rfl CS4.out Tryz.underlying44 rfl size_step ?_)
        | (go_at_call 12; refine HD.out.mono ?_; rintro r w7 ⟨rfl, C', F', hd7, ok7, k7, f7, l7⟩; have BO7 := Lib.hid (k7.blk (fun h => FBO.out _ h rfl) BO.out); have y0 : w7.cell? ⟨bo, 0, none⟩ = some (.int .i64 0) := BO7.out.cell' (i := 0) rfl; have y1 : w7.cell? ⟨bo, 1, none⟩ = some (.int .i64 0) := BO7.out.cell' (i := 1) rfl; have y2 : w7.cell? ⟨bo, 2, none⟩ = some (.slice none 0 0) := BO7.out.cell' (i := 2) rfl; have y3 : w7.cell? ⟨bo, 3, none⟩ = some (.int .i64 0) := BO7.out.cell' (i := 3) rfl; have y4 : w7.cell? ⟨bo, 4, none⟩ = some (.int .i64 0) := BO7.out.cell' (i := 4) rfl; have y5 : w7.cell? ⟨bo, 5, none⟩ = some (.int .i64 0) := BO7.out.cell' (i := 5) rfl; have y6 : w7.cell? ⟨bo, 6, none⟩ = some (.int .i64 0) := BO7.out.cell' (i := 6) rfl; have y7 : w7.cell? ⟨bo, 7, none⟩ = some (.int .i64 0) := BO7.out.cell' (i := 7) rfl; have y8 : w7.cell? ⟨bo, 8, none⟩ = some (.string ByteArray.empty) := BO7.out.cell' (i := 8) rfl; have y9 : w7.cell? ⟨bo, 9, none⟩ = some (.slice none 0 0) := BO7.out.cell' (i := 9) rfl; have y10 : w7.cell? ⟨bo, 10, none⟩ = some (.int .i64 0) := BO7.out.cell' (i := 10) rfl; have D7 := Lib.hid hd7; have KK7 := Lib.hid (K4.out.over k7 HF.out); have Z4 := Lib.hid K4.out.size; have FF7 := Lib.hid f7; have OK7 := Lib.hid ok7; clear hd7 k7 f7 ok7)
        | (go_at_call 15; refine (same_zero _).mono ?_; rintro r w8 ⟨rfl, hk8⟩; have D8 := Lib.hid (D7.out.kept hk8); have K8 := Lib.hid (KK7.out.trans hk8 (fun _ _ h => h)); clear hk8)
        | (go_at_call 16; refine (waits_none _).mono ?_; rintro r w9 ⟨rfl, rfl⟩)
        | (go_at_call 17; refine (free_none _).mono ?_; rintro r w9 ⟨rfl, rfl⟩)
        | (go_at_call 18; refine (vector_none _).mono ?_; rintro r w9 ⟨rfl, rfl⟩))
      go_roundw
      case rel => exact ⟨m + 1, C', F', by go_num, by omega, D8.out, OK7.out, by omega, fun b hb => (FF7.out b hb).elim (HF.out b) (fun h => Nat.le_trans Z4.out h), K8.out⟩
      case measure => simp [intOf] <;> omega
set_option maxRecDepth 100000 in
set_option maxHeartbeats 4000000 in
/-- a script that is more than is looked at -/
theorem over_much {w : World} {lv : Value} {L : List StV} (hL : SlAt stE w lv L) (hM : muchP L) : Calls Tryz.prog 5 #[lv] w (Post w) := by
  have HMU := Lib.hid (much_any hL)
  rw [decide_eq_true hM] at HMU
  obtain ⟨la, lc, rfl, _, _⟩ := hL.sl
  clear hL hM
  go_enter Tryz.func5, Tryz.ntmps5
  go_wp2_with (first
    | (go_at_call 7; refine HMU.out.mono ?_; rintro r w0 ⟨rfl, hk0⟩)
    | (go_at_call 8; refine (known_any _).mono ?_; rintro r w1 ⟨rfl, hk1⟩))
  go_ret
  exact ⟨rfl, hk0.trans hk1 (fun _ _ h => h)⟩
theorem walk (v0 : Value) (z0 : List StV) {w1 : World} (h1 : SlAt stE w1 v0 z0 ∧ ∀ s ∈ z0, OpIn w1 s.e ∧ I64 s.tk) (w : World) (hw : w = w1 := by first | assumption | rfl) :
    Calls Tryz.prog 5 #[v0] w fun e w' => e = .returned (.bool true) ∧ Below w.heap.size w w' := by
  subst hw
  have hp : Calls Tryz.prog 5 #[v0] w (Post w) := by
    by_cases hm : muchP z0
    · exact over_much h1.1 hm
    exact small h1.1 (fun s hs => ⟨(h1.2 s hs).1, fun hb => hm (.inr ⟨s, hs, hb⟩)⟩) (Nat.le_of_not_lt fun h => hm (.inl h))
  exact hp.mono fun e w' ⟨he, hk⟩ => ⟨he, hk.below (Nat.le_refl _) (fun _ _ h => h)⟩
end causalNothing

namespace causalNothing
open Go.ChangeShapes Go.WideShapes Go.ChangeAt Go.RowKit
open Go.ChangeMaps (open_string shut_string)
theorem own : ownKnob Tryz.prog.godebug = none := by kernel_rfl
theorem laidOut : laidOutB Tryz.prog = true := by kernel_rfl
set_option maxRecDepth 100000 in
theorem lifted (os : Os) (started : os.Started) (H : Type) (enc : TypeId × Value → H) :
    ReturnsInHanded {} Tryz.checked os 5 .any (Rows.causalNothingSpec.pre6 enc Tryz.prog Tryz.f5 Rows.causalNothingRow.domain false) (Rows.causalNothingSpec.post enc Tryz.prog Tryz.f5 false true false false) := by
  refine returnsInHanded_of_change (C := Tryz.checked) own started (by kernel_rfl) Tryz.func5
    (ChangeSpec.witness6 (enc := enc) (C := Tryz.checked) false ⟨#[], #[.slice none 0 0], []⟩ 8 (by kernel_rfl) (by kernel_rfl) (by kernel_rfl) (by kernel_rfl)) ?_
  intro W base args ds gs before hval0 hW hcnd _
  have hval : ∀ (j : Nat) t v, Tryz.f5.params[j]? = some t → args[j]? = some v → Value.okWide Tryz.prog W .any base t v := hval0
  have hW' := hW
  obtain ⟨p, q, hA0, hV, rfl, hfz, hnd⟩ := hW
  have hA : DataW.TrodAll enc Tryz.prog W 0 (fun _ => true) true Tryz.f5.params.toList args.toList ds p := hA0
  rw [Tryz.params5] at hA hval
  obtain ⟨v0, vs0, d0, ds0, p0, q0, hargs, rfl, rfl, h0, r0⟩ := trodAll_cons hA
  obtain ⟨rfl, rfl, rfl⟩ := trodAll_nil r0
  obtain rfl : args = #[v0] := by cases args; simp_all
  obtain ⟨rfl, rfl⟩ := trodVars_none hV
  have k0 := h0
  have lt0 : ∀ x ∈ p0, x.block < W.heap.size := by obtain ⟨m, hm⟩ := k0; exact DataW.trod_lt m _ _ _ hm
  obtain ⟨z0, w0⟩ := open_steps (hval 0 24 v0 rfl rfl) h0
  clear hA0 hval0
  refine (walk v0 z0 w0 W rfl).mono fun e W' ⟨he, bel⟩ => ?_
  subst he
  exact ⟨_, rfl, _, _, _, [], _, [], hW', trodAll_mk1 (shut_bool Tryz.underlying4 _), (trodAll_cons_mk (Below.trod laidOut (by kernel_rfl) (of_decide_eq_true (by kernel_rfl)) k0 bel lt0) trodAll_mk0), rfl, bel.frame _, fun h => by cases h⟩

theorem over : Rows.causalNothingRow.holds Tryz.pinned (OpenSpec.ofChange Rows.causalNothingSpec) :=
  OpenClaim.holds_of_wide 5 Tryz.f5 rfl rfl rfl rfl rfl rfl rfl ⟨rfl, rfl, rfl, rfl, rfl⟩ rfl rfl rfl rfl rfl (by kernel_rfl) Tryz.func5 (by kernel_rfl)
    (of_decide_eq_true (by kernel_rfl)) (by unfold Func.isWrapper; first | (rw [if_pos (by decide +kernel)]; kernel_rfl) | (rw [if_neg (by decide +kernel)]; exact ⟨rfl, rfl⟩))
    (fun os started H enc _ => lifted os started H enc)
theorem proved : Rows.CausalNothingSaid := over
end causalNothing


end Go.Proofs.YtaaeomapbigfgaaGreat
namespace Go.Proofs.YtaaeomapbigfgaaGreat
end Go.Proofs.YtaaeomapbigfgaaGreat
