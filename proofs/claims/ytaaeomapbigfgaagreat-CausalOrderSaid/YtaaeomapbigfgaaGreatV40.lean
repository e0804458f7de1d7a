/- hearsaylaw13.CausalOrder returns true at every number, every vector and every script of steps, and what there was reads as before. -/
import Derived.Test.YtaaeomapbigfgaaGreatV39
import Derived.Test.YtaaeomapbigfgaaGreatV35
import Derived.Test.YtaaeomapbigfgaaGreatRows
import Derived.WalkKit
import Derived.ProofKit
import Derived.OpenShut
import Derived.ShutString
import Derived.ChangeOld
import Derived.Below
namespace Go.Proofs.YtaaeomapbigfgaaGreat
open Go.RowKit Go.Proofs.YtaaeomapbigfgaaGreat.St
section
open Go.ChangeShapes Go.WideShapes Go.Deep
variable {H : Type} {enc : TypeId × Value → H} {w : World} {base b0 : Nat} {spare : Nat → Bool} {held : Bool}
set_option maxRecDepth 100000 in
theorem open_vec {r : Reach} {v : Value} {d : DataW H} {ps : List MemPlace} (hv : Value.okWide Tryz.prog w r b0 23 v) (h : DataW.Trod enc Tryz.prog w base spare held 23 v d ps) : ∃ L, SlAt dotE w v L :=
  (open_rows dotE (Q := fun x => I64 x.site ∧ I64 x.seq) Tryz.underlying23 cells_dot (fun n cs d h => elem_dot2 n cs d h) hv h).imp fun _ h => h.1
end
namespace causalOrder
set_option maxRecDepth 100000 in
set_option maxHeartbeats 4000000 in
/-- a vector that is more than is looked at -/
theorem over_wide {w : World} {hold : Int} {vv lv : Value} {V : List Dot} (hV : SlAt dotE w vv V) (hl : 3000 < V.length) : Calls Tryz.prog 6 #[.int .i64 hold, vv, lv] w (Post w) := by
  obtain ⟨va, vc, rfl, _, _⟩ := hV.sl
  have hI : (3000 : Int) < V.length := by omega
  clear hV
  go_enter Tryz.func6, Tryz.ntmps6
  go_wp2_with (go_at_call 8; refine (known_any _).mono ?_; rintro r w1 ⟨rfl, hk1⟩)
  go_ret
  exact ⟨rfl, hk1⟩
set_option maxRecDepth 100000 in
set_option maxHeartbeats 4000000 in
/-- a script that is more than is looked at -/
theorem over_much {w : World} {hold : Int} {vv lv : Value} {V : List Dot} {L : List StV} (hV : SlAt dotE w vv V) (hl : V.length ≤ 3000) (hL : SlAt stE w lv L) (hM : muchP L) : Calls Tryz.prog 6 #[.int .i64 hold, vv, lv] w (Post w) := by
  have HMU := Lib.hid (much_any hL)
  rw [decide_eq_true hM] at HMU
  obtain ⟨la, lc, rfl, _, _⟩ := hL.sl
  obtain ⟨va, vc, rfl, _, _⟩ := hV.sl
  have hvI : ¬ (3000 : Int) < V.length := by omega
  clear hL hM hV
  go_enter Tryz.func6, Tryz.ntmps6
  go_wp2_with (first
    | (go_at_call 7; refine HMU.out.mono ?_; rintro r w0 ⟨rfl, hk0⟩)
    | (go_at_call 8; refine (known_any _).mono ?_; rintro r w1 ⟨rfl, hk1⟩))
  go_ret
  exact ⟨rfl, hk0.trans hk1 (fun _ _ h => h)⟩
set_option maxRecDepth 100000 in
set_option maxHeartbeats 4000000 in
/-- a number or a vector for which there is no Queue -/
theorem no_queue {w : World} {hold : Int} {vv lv : Value} {V : List Dot} {L : List StV} (hV : SlAt dotE w vv V) (hl : V.length ≤ 3000) (hL : SlAt stE w lv L) (hM : ¬ muchP L) (hh : newC hold V ≠ 0) : Calls Tryz.prog 6 #[.int .i64 hold, vv, lv] w (Post w) := by
  have HMU := Lib.hid (much_any hL)
  rw [decide_eq_false hM] at HMU
  obtain ⟨la, lc, rfl, _, _⟩ := hL.sl
  have HN := Lib.hid (fun (w' : World) (hk : Kept (fun _ => False) w w') => (new_any (w := w') (hold := hold) (hV.kept hk) (by omega)).mono (R' := fun r w'' => r = .returned (.tuple #[.pointer none, .int .i64 (newC hold V)]) ∧ Kept (fun _ => False) w' w'') (fun r w'' h => by
    rcases h with ⟨hk, ⟨_, h1⟩ | ⟨h0, _⟩⟩
    · exact ⟨h1, hk⟩
    · exact absurd h0 hh))
  obtain ⟨va, vc, rfl, _, _⟩ := hV.sl
  have hvI : ¬ (3000 : Int) < V.length := by omega
  generalize newC hold V = c at *
  have hcb : (c != 0) = true := by simpa using hh
  clear hL hM hV hh
  go_enter Tryz.func6, Tryz.ntmps6
  go_upto_region 3 with (go_at_call 7; refine HMU.out.mono ?_; rintro r w0 ⟨rfl, hk0⟩)
  go_upto_region 4 with (go_at_call 9; refine (HN.out w0 hk0).mono ?_; rintro r w1 ⟨rfl, hk1⟩)
  go_wp2_with (go_at_call 8; refine (known_any _).mono ?_; rintro r w3 ⟨rfl, hk3⟩)
  go_ret
  exact ⟨rfl, (hk0.trans hk1 (fun _ _ h => h)).trans hk3 (fun _ _ h => h)⟩
theorem walk (a0 : Int) (v1 : Value) (z1 : List Dot) (v2 : Value) (z2 : List StV) (_w0 : (Lit.int .i64 a0).wf = true) {w1 : World} (h1 : SlAt dotE w1 v1 z1) (h2 : SlAt stE w1 v2 z2 ∧ ∀ s ∈ z2, OpIn w1 s.e ∧ I64 s.tk) (w : World) (hw : w = w1 := by first | assumption | rfl) :
    Calls Tryz.prog 6 #[.int .i64 a0, v1, v2] w fun e w' => e = .returned (.bool true) ∧ Below w.heap.size w w' := by
  subst hw
  have hp : Calls Tryz.prog 6 #[.int .i64 a0, v1, v2] w (Post w) := by
    by_cases hl : 3000 < z1.length
    · exact over_wide h1 hl
    by_cases hm : muchP z2
    · exact over_much h1 (by omega) h2.1 hm
    by_cases hh : newC a0 z1 = 0
    · exact small h1 h2.1 (fun s hs => ⟨(h2.2 s hs).1, fun hb => hm (.inr ⟨s, hs, hb⟩)⟩) (Nat.le_of_not_lt fun h => hm (.inl h)) hh
    · exact no_queue h1 (by omega) h2.1 hm hh
  exact hp.mono fun e w' ⟨he, hk⟩ => ⟨he, hk.below (Nat.le_refl _) (fun _ _ h => h)⟩
end causalOrder

namespace causalOrder
open Go.ChangeShapes Go.WideShapes Go.ChangeAt Go.RowKit
open Go.ChangeMaps (open_string shut_string)
theorem own : ownKnob Tryz.prog.godebug = none := by kernel_rfl
theorem laidOut : laidOutB Tryz.prog = true := by kernel_rfl
set_option maxRecDepth 100000 in
theorem lifted (os : Os) (started : os.Started) (H : Type) (enc : TypeId × Value → H) :
    ReturnsInHanded {} Tryz.checked os 6 .any (Rows.causalOrderSpec.pre6 enc Tryz.prog Tryz.f6 Rows.causalOrderRow.domain false) (Rows.causalOrderSpec.post enc Tryz.prog Tryz.f6 false true false false) := by
  refine returnsInHanded_of_change (C := Tryz.checked) own started (by kernel_rfl) Tryz.func6
    (ChangeSpec.witness6 (enc := enc) (C := Tryz.checked) false ⟨#[], #[.int .i64 0, .slice none 0 0, .slice none 0 0], []⟩ 8 (by kernel_rfl) (by kernel_rfl) (by kernel_rfl) (by kernel_rfl)) ?_
  intro W base args ds gs before hval0 hW hcnd _
  have hval : ∀ (j : Nat) t v, Tryz.f6.params[j]? = some t → args[j]? = some v → Value.okWide Tryz.prog W .any base t v := hval0
  have hW' := hW
  obtain ⟨p, q, hA0, hV, rfl, hfz, hnd⟩ := hW
  have hA : DataW.TrodAll enc Tryz.prog W 0 (fun _ => true) true Tryz.f6.params.toList args.toList ds p := hA0
  rw [Tryz.params6] at hA hval
  obtain ⟨v0, vs0, d0, ds0, p0, q0, hargs, rfl, rfl, h0, r0⟩ := trodAll_cons hA
  obtain ⟨v1, vs1, d1, ds1, p1, q1, rfl, rfl, rfl, h1, r1⟩ := trodAll_cons r0
  obtain ⟨v2, vs2, d2, ds2, p2, q2, rfl, rfl, rfl, h2, r2⟩ := trodAll_cons r1
  obtain ⟨rfl, rfl, rfl⟩ := trodAll_nil r2
  obtain rfl : args = #[v0, v1, v2] := by cases args; simp_all
  obtain ⟨rfl, rfl⟩ := trodVars_none hV
  obtain ⟨a0, rfl, rfl, rfl, w0⟩ := open_int Tryz.underlying3 (hval 0 3 v0 rfl rfl) h0
  have k1 := h1
  have lt1 : ∀ x ∈ p1, x.block < W.heap.size := by obtain ⟨m, hm⟩ := k1; exact DataW.trod_lt m _ _ _ hm
  obtain ⟨z1, w1⟩ := open_vec (hval 1 23 v1 rfl rfl) h1
  have k2 := h2
  have lt2 : ∀ x ∈ p2, x.block < W.heap.size := by obtain ⟨m, hm⟩ := k2; exact DataW.trod_lt m _ _ _ hm
  obtain ⟨z2, w2⟩ := open_steps (hval 2 24 v2 rfl rfl) h2
  clear hA0 hval0
  refine (walk a0 v1 z1 v2 z2 w0 w1 w2 W rfl).mono fun e W' ⟨he, bel⟩ => ?_
  subst he
  exact ⟨_, rfl, _, _, _, [], _, [], hW', trodAll_mk1 (shut_bool Tryz.underlying4 _), (trodAll_cons_mk (shut_int Tryz.underlying3 w0) (trodAll_cons_mk (Below.trod laidOut (by kernel_rfl) (of_decide_eq_true (by kernel_rfl)) k1 bel lt1) (trodAll_cons_mk (Below.trod laidOut (by kernel_rfl) (of_decide_eq_true (by kernel_rfl)) k2 bel lt2) trodAll_mk0))), rfl, bel.frame _, fun h => by cases h⟩

theorem over : Rows.causalOrderRow.holds Tryz.pinned (OpenSpec.ofChange Rows.causalOrderSpec) :=
  OpenClaim.holds_of_wide 6 Tryz.f6 rfl rfl rfl rfl rfl rfl rfl ⟨rfl, rfl, rfl, rfl, rfl⟩ rfl rfl rfl rfl rfl (by kernel_rfl) Tryz.func6 (by kernel_rfl)
    (of_decide_eq_true (by kernel_rfl)) (by unfold Func.isWrapper; first | (rw [if_pos (by decide +kernel)]; kernel_rfl) | (rw [if_neg (by decide +kernel)]; exact ⟨rfl, rfl⟩))
    (fun os started H enc _ => lifted os started H enc)
theorem proved : Rows.CausalOrderSaid := over
end causalOrder


end Go.Proofs.YtaaeomapbigfgaaGreat
