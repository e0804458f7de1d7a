/- hearsaylaw15.AlarmPlays returns true at every two ints and every script, and what there was reads as before. No condition. -/
import Derived.Test.YtmfjeeogeilgfaaAlSteps
import Derived.Test.YtmfjeeogeilgfaaRows
import Derived.WalkKit
import Derived.ProofKit
import Derived.OpenShut
import Derived.ShutString
import Derived.ChangeOld
import Derived.Below
namespace Go.Proofs.Ytmfjeeogeilgfaa
open Go.RowKit Go.Proofs.Ytmfjeeogeilgfaa.Al
namespace alarmPlays
theorem walk_long {w : World} (l m : Int) (v : Value) (L : List S3) (hL : StepsAt w v L) (h : 400 < L.length) : Calls Try.prog 4 #[.int .i64 l, .int .i64 m, v] w fun e w' => e = .returned (.bool true) ∧ Below w.heap.size w w' := by
  obtain ⟨a, c, rfl⟩ := hL.sl
  go_enter Try.func4, Try.ntmps4
  go_wp2_with fail
  refine (known_any _).mono ?_
  rintro e w4 ⟨rfl, hk4⟩
  go_wp2_with fail
  go_ret
  exact ⟨rfl, hk4.below (Nat.le_refl _) (fun _ _ h => h)⟩
theorem walk_bad {w : World} (l m : Int) (v : Value) (L : List S3) (hL : StepsAt w v L) (h4 : L.length ≤ 400) (h : l < 1 ∨ m < l ∨ 4096 < m) : Calls Try.prog 4 #[.int .i64 l, .int .i64 m, v] w fun e w' => e = .returned (.bool true) ∧ Below w.heap.size w w' := by
  obtain ⟨a, c, rfl⟩ := hL.sl
  go_enter Try.func4, Try.ntmps4
  go_wp2_with fail
  refine (new_bad h _).mono ?_
  rintro e w1 ⟨rfl, rfl⟩
  go_wp2_with fail
  refine (rnew_bad h _).mono ?_
  rintro e w2 ⟨rfl, rfl⟩
  go_wp2_with fail
  refine (known_any _).mono ?_
  rintro e w4 ⟨rfl, hk4⟩
  go_wp2_with fail
  go_ret
  exact ⟨rfl, hk4.below (Nat.le_refl _) (fun _ _ h => h)⟩
theorem walk_ok {w : World} (l m : Int) (v : Value) (L : List S3) (hL : StepsAt w v L) (h4 : L.length ≤ 400) (h1 : 1 ≤ l) (h2 : l ≤ m) (h3 : m ≤ 4096) : Calls Try.prog 4 #[.int .i64 l, .int .i64 m, v] w fun e w' => e = .returned (.bool true) ∧ Below w.heap.size w w' := by
  obtain ⟨a, c, rfl⟩ := hL.sl
  go_enter Try.func4, Try.ntmps4
  go_wp2_with fail
  refine (new_ok h1 h2 h3 _).mono ?_
  rintro e w1 ⟨rfl, hA, hk1⟩
  go_wp2_with fail
  refine (rnew_ok h1 h2 h3 _).mono ?_
  rintro e w2 ⟨rfl, hB, hk2⟩
  have hP := Lib.hid (Pair.new hA rfl hk1 hB hk2)
  clear hA hB
  go_wp2_with fail
  go_loopw [11] (fun i wr => ∃ n : Nat, i = .int .i64 n ∧ n ≤ L.length ∧ PairIn w w.heap.size w1.heap.size l m n wr) (fun i _ => L.length - (intOf i).toNat)
  case atStart => exact ⟨0, rfl, Nat.zero_le _, hP.out⟩
  case round =>
    obtain ⟨n, rfl, hn, hp⟩ := hrel
    by_cases hlt : n < L.length
    case neg =>
      obtain ⟨ts, F, G, hp, htn, hF, hk⟩ := hp
      have hge : L.length ≤ n := by omega
      go_wp2_with fail
      refine (known_any _).mono ?_
      rintro e w4 ⟨rfl, hk4⟩
      go_wp2_with fail
      go_ret
      exact ⟨rfl, (hk.trans hk4 (fun _ _ h => h)).below (Nat.le_refl _) (fun _ _ h => h)⟩
    case pos =>
      obtain ⟨ts, F, G, hp, htn, hF, hk⟩ := hp
      obtain ⟨s, hs⟩ := get_of_lt hlt
      rcases hL.keep hk (fun _ _ h => h) with ⟨_, rfl⟩ | ⟨x, c', hv, hm, hc⟩
      · simp at hlt
      cases hv
      obtain ⟨c0, c1, c2⟩ := hc n s hs
      have hn0 : (0 : Int) ≤ n := by omega
      have hnl : (n : Int) < L.length := by omega
      clear hc hs
      go_wp2_with fail
      refine (does_any hp s.kind s.key s.now (by omega)).mono ?_
      rintro e w5 ⟨rfl, hg⟩
      have hg := Lib.hid hg
      go_wp2_with fail
      go_roundw
      case rel => exact ⟨n + 1, by go_num, by omega, PairIn.next htn hF hk hg.out⟩
      case measure => simp [intOf]; omega
theorem walk (l m : Int) (v : Value) (L : List S3) (_ : (Lit.int .i64 l).wf = true) (_ : (Lit.int .i64 m).wf = true) {w0 : World} (hL : StepsAt w0 v L) (w : World) (e : w = w0) : Calls Try.prog 4 #[.int .i64 l, .int .i64 m, v] w fun e w' => e = .returned (.bool true) ∧ Below w.heap.size w w' := by
  subst e
  by_cases h4 : L.length ≤ 400
  · by_cases h : 1 ≤ l ∧ l ≤ m ∧ m ≤ 4096
    · exact walk_ok l m v L hL h4 h.1 h.2.1 h.2.2
    · exact walk_bad l m v L hL h4 (by omega)
  · exact walk_long l m v L hL (by omega)
end alarmPlays

namespace alarmPlays
open Go.ChangeShapes Go.WideShapes Go.ChangeAt Go.RowKit
open Go.ChangeMaps (open_string shut_string)
theorem own : ownKnob Try.prog.godebug = none := by kernel_rfl
theorem laidOut : laidOutB Try.prog = true := by kernel_rfl
set_option maxRecDepth 100000 in
theorem lifted (os : Os) (started : os.Started) (H : Type) (enc : TypeId × Value → H) :
    ReturnsInHanded {} Try.checked os 4 .any (Rows.alarmPlaysSpec.pre6 enc Try.prog Try.f4 Rows.alarmPlaysRow.domain false) (Rows.alarmPlaysSpec.post enc Try.prog Try.f4 false true false false) := by
  refine returnsInHanded_of_change (C := Try.checked) own started (by kernel_rfl) Try.func4
    (ChangeSpec.witness6 (enc := enc) (C := Try.checked) false ⟨#[], #[.int .i64 0, .int .i64 0, .slice none 0 0], []⟩ 8 (by kernel_rfl) (by kernel_rfl) (by kernel_rfl) (by kernel_rfl)) ?_
  intro W base args ds gs before hval0 hW hcnd _
  have hval : ∀ (j : Nat) t v, Try.f4.params[j]? = some t → args[j]? = some v → Value.okWide Try.prog W .any base t v := hval0
  have hW' := hW
  obtain ⟨p, q, hA0, hV, rfl, hfz, hnd⟩ := hW
  have hA : DataW.TrodAll enc Try.prog W 0 (fun _ => true) true Try.f4.params.toList args.toList ds p := hA0
  rw [Try.params4] at hA hval
  obtain ⟨v0, vs0, d0, ds0, p0, q0, hargs, rfl, rfl, h0, r0⟩ := trodAll_cons hA
  obtain ⟨v1, vs1, d1, ds1, p1, q1, rfl, rfl, rfl, h1, r1⟩ := trodAll_cons r0
  obtain ⟨v2, vs2, d2, ds2, p2, q2, rfl, rfl, rfl, h2, r2⟩ := trodAll_cons r1
  obtain ⟨rfl, rfl, rfl⟩ := trodAll_nil r2
  obtain rfl : args = #[v0, v1, v2] := by cases args; simp_all
  obtain ⟨rfl, rfl⟩ := trodVars_none hV
  obtain ⟨a0, rfl, rfl, rfl, w0⟩ := open_int Try.underlying3 (hval 0 3 v0 rfl rfl) h0
  obtain ⟨a1, rfl, rfl, rfl, w1⟩ := open_int Try.underlying3 (hval 1 3 v1 rfl rfl) h1
  have k2 := h2
  have lt2 : ∀ x ∈ p2, x.block < W.heap.size := by obtain ⟨m, hm⟩ := k2; exact DataW.trod_lt m _ _ _ hm
  obtain ⟨z2, w2⟩ := open_steps (hval 2 32 v2 rfl rfl) h2
  clear hA0 hval0
  refine (walk a0 a1 v2 z2 w0 w1 w2 W rfl).mono fun e W' ⟨he, bel⟩ => ?_
  subst he
  exact ⟨_, rfl, _, _, _, [], _, [], hW', trodAll_mk1 (shut_bool Try.underlying4 _), (trodAll_cons_mk (shut_int Try.underlying3 w0) (trodAll_cons_mk (shut_int Try.underlying3 w1) (trodAll_cons_mk (Below.trod laidOut (by kernel_rfl) (of_decide_eq_true (by kernel_rfl)) k2 bel lt2) trodAll_mk0))), rfl, bel.frame _, fun h => by cases h⟩

theorem over : Rows.alarmPlaysRow.holds Try.pinned (OpenSpec.ofChange Rows.alarmPlaysSpec) :=
  OpenClaim.holds_of_wide 4 Try.f4 rfl rfl rfl rfl rfl rfl rfl ⟨rfl, rfl, rfl, rfl, rfl⟩ rfl rfl rfl rfl rfl (by kernel_rfl) Try.func4 (by kernel_rfl)
    (of_decide_eq_true (by kernel_rfl)) (by unfold Func.isWrapper; first | (rw [if_pos (by decide +kernel)]; kernel_rfl) | (rw [if_neg (by decide +kernel)]; exact ⟨rfl, rfl⟩))
    (fun os started H enc _ => lifted os started H enc)
theorem proved : Rows.AlarmPlaysSaid := over
end alarmPlays

end Go.Proofs.Ytmfjeeogeilgfaa
