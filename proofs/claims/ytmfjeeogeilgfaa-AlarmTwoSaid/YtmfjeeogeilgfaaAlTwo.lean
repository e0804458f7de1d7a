/- hearsaylaw15.AlarmTwo returns true at every two ints and every two scripts, and what there was reads as before. No condition. -/
import Derived.Test.YtmfjeeogeilgfaaAlTwin
import Derived.Test.YtmfjeeogeilgfaaRows
import Derived.WalkKit
import Derived.ProofKit
import Derived.OpenShut
import Derived.ShutString
import Derived.ChangeOld
import Derived.Below
namespace Go.Proofs.Ytmfjeeogeilgfaa
open Go.RowKit Go.Proofs.Ytmfjeeogeilgfaa.Al
namespace alarmTwo
theorem walk_long {w : World} (l m : Int) (v v2 : Value) (L L2 : List S3) (hL : StepsAt w v L) (hL2 : StepsAt w v2 L2) (h : 400 < L.length) : Calls Try.prog 5 #[.int .i64 l, .int .i64 m, v, v2] w fun e w' => e = .returned (.bool true) ∧ Below w.heap.size w w' := by
  obtain ⟨a, c, rfl⟩ := hL.sl
  obtain ⟨a2, c2, rfl⟩ := hL2.sl
  go_enter Try.func5, Try.ntmps5
  go_wp2_with fail
  refine (known_any _).mono ?_
  rintro e w9 ⟨rfl, hk9⟩
  go_wp2_with fail
  go_ret
  exact ⟨rfl, hk9.below (Nat.le_refl _) (fun _ _ h => h)⟩
theorem walk_long2 {w : World} (l m : Int) (v v2 : Value) (L L2 : List S3) (hL : StepsAt w v L) (hL2 : StepsAt w v2 L2) (h : L.length ≤ 400) (h' : 400 < L2.length) : Calls Try.prog 5 #[.int .i64 l, .int .i64 m, v, v2] w fun e w' => e = .returned (.bool true) ∧ Below w.heap.size w w' := by
  obtain ⟨a, c, rfl⟩ := hL.sl
  obtain ⟨a2, c2, rfl⟩ := hL2.sl
  go_enter Try.func5, Try.ntmps5
  go_wp2_with fail
  refine (known_any _).mono ?_
  rintro e w9 ⟨rfl, hk9⟩
  go_wp2_with fail
  go_ret
  exact ⟨rfl, hk9.below (Nat.le_refl _) (fun _ _ h => h)⟩
set_option maxHeartbeats 1000000 in
theorem walk_bad {w : World} (l m : Int) (v v2 : Value) (L L2 : List S3) (hL : StepsAt w v L) (hL2 : StepsAt w v2 L2) (h4 : L.length ≤ 400) (h5 : L2.length ≤ 400) (h : l < 1 ∨ m < l ∨ 4096 < m) : Calls Try.prog 5 #[.int .i64 l, .int .i64 m, v, v2] w fun e w' => e = .returned (.bool true) ∧ Below w.heap.size w w' := by
  obtain ⟨a, c, rfl⟩ := hL.sl
  obtain ⟨a2, c2, rfl⟩ := hL2.sl
  go_enter Try.func5, Try.ntmps5
  go_wp2_with fail
  refine (new_bad h _).mono ?_
  rintro e w1 ⟨rfl, rfl⟩
  go_wp2_with fail
  refine (new_ok (l := 1) (m := 5) (by decide) (by decide) (by decide) _).mono ?_
  rintro e w1 ⟨rfl, hA, hk1⟩
  go_wp2_with fail
  refine (rnew_bad h _).mono ?_
  rintro e w2 ⟨rfl, rfl⟩
  go_wp2_with fail
  refine (rnew_ok (l := 1) (m := 5) (by decide) (by decide) (by decide) _).mono ?_
  rintro e w2 ⟨rfl, hB, hk2⟩
  have hP := Lib.hid (Pair.new hA rfl hk1 hB hk2)
  clear hA hB
  go_wp2_with fail
  go_loopw [17] (fun i wr => ∃ n : Nat, i = .int .i64 n ∧ n ≤ 400 ∧ PairIn w w.heap.size w1.heap.size 1 5 n wr) (fun i _ => 400 - (intOf i).toNat)
  case atStart => exact ⟨0, rfl, Nat.zero_le _, hP.out⟩
  case round =>
    obtain ⟨n, rfl, hn, hp⟩ := hrel
    have hk := hp.kept
    have hn0 : (0 : Int) ≤ n := by omega
    by_cases hlt2 : n < L2.length
    · obtain ⟨s2, hs2⟩ := get_of_lt hlt2
      rcases hL2.keep hk (fun _ _ h => h) with ⟨_, rfl⟩ | ⟨x2, c'2, hv2, hm2, hc2⟩
      · simp at hlt2
      cases hv2
      obtain ⟨c20, c21, c22⟩ := hc2 n s2 hs2
      have hnl2 : (n : Int) < L2.length := by omega
      clear hc2 hs2
      by_cases hlt1 : n < L.length
      · have hnl1 : (n : Int) < L.length := by omega
        go_wp2_with fail
        refine (does_in hp s2.kind s2.key s2.now (by omega)).mono ?_
        rintro e w5 ⟨rfl, hg⟩
        go_wp2_with fail
        go_roundw
        case rel => exact ⟨n + 1, by go_num, by omega, hg⟩
        case measure => simp [intOf]; omega
      · have hge1 : L.length ≤ n := by omega
        go_wp2_with fail
        refine (does_in hp s2.kind s2.key s2.now (by omega)).mono ?_
        rintro e w5 ⟨rfl, hg⟩
        go_wp2_with fail
        go_roundw
        case rel => exact ⟨n + 1, by go_num, by omega, hg⟩
        case measure => simp [intOf]; omega
    · have hge2 : L2.length ≤ n := by omega
      by_cases hlt1 : n < L.length
      · have hnl1 : (n : Int) < L.length := by omega
        go_wp2_with fail
        go_roundw
        case rel => exact ⟨n + 1, by go_num, by omega, hp.le (by omega)⟩
        case measure => simp [intOf]; omega
      · have hge1 : L.length ≤ n := by omega
        go_wp2_with fail
        refine (known_any _).mono ?_
        rintro e w9 ⟨rfl, hk9⟩
        go_wp2_with fail
        go_ret
        exact ⟨rfl, (hk.trans hk9 (fun _ _ h => h)).below (Nat.le_refl _) (fun _ _ h => h)⟩
set_option maxHeartbeats 1000000 in
theorem walk_ok {w : World} (l m : Int) (v v2 : Value) (L L2 : List S3) (hL : StepsAt w v L) (hL2 : StepsAt w v2 L2) (h4 : L.length ≤ 400) (h5 : L2.length ≤ 400) (h1 : 1 ≤ l) (h2 : l ≤ m) (h3 : m ≤ 4096) : Calls Try.prog 5 #[.int .i64 l, .int .i64 m, v, v2] w fun e w' => e = .returned (.bool true) ∧ Below w.heap.size w w' := by
  obtain ⟨a, c, rfl⟩ := hL.sl
  obtain ⟨a2, c2, rfl⟩ := hL2.sl
  go_enter Try.func5, Try.ntmps5
  go_wp2_with fail
  refine (new_ok h1 h2 h3 _).mono ?_
  rintro e w1 ⟨rfl, hA, hk1⟩
  go_wp2_with fail
  refine (new_ok (l := 1) (m := 5) (by decide) (by decide) (by decide) _).mono ?_
  rintro e w2 ⟨rfl, hA2, hk2⟩
  go_wp2_with fail
  refine (rnew_ok h1 h2 h3 _).mono ?_
  rintro e w3 ⟨rfl, hB, hk3⟩
  go_wp2_with fail
  refine (rnew_ok (l := 1) (m := 5) (by decide) (by decide) (by decide) _).mono ?_
  rintro e w4 ⟨rfl, hB2, hk4⟩
  have hP := Lib.hid (Two.new hA hk1 hA2 hk2 hB hk3 hB2 hk4)
  clear hA hB hA2 hB2
  go_wp2_with fail
  go_loopw [17] (fun i wr => ∃ n : Nat, i = .int .i64 n ∧ n ≤ 400 ∧ Two w w.heap.size w2.heap.size l m n w1.heap.size w3.heap.size 1 5 n wr) (fun i _ => 400 - (intOf i).toNat)
  case atStart => exact ⟨0, rfl, Nat.zero_le _, hP.out⟩
  case round =>
    obtain ⟨n, rfl, hn, hp⟩ := hrel
    have hk := hp.kept
    have hn0 : (0 : Int) ≤ n := by omega
    by_cases hlt1 : n < L.length
    · obtain ⟨s1, hs1⟩ := get_of_lt hlt1
      rcases hL.keep hk (fun _ _ h => h) with ⟨_, rfl⟩ | ⟨x1, c'1, hv1, hm1, hc1⟩
      · simp at hlt1
      cases hv1
      obtain ⟨c10, c11, c12⟩ := hc1 n s1 hs1
      have hnl1 : (n : Int) < L.length := by omega
      clear hc1 hs1
      by_cases hlt2 : n < L2.length
      · have hnl2 : (n : Int) < L2.length := by omega
        go_wp2_with fail
        refine (does_two hp s1.kind s1.key s1.now (by omega)).mono ?_
        rintro e w5 ⟨rfl, hg⟩
        obtain ⟨s2, hs2⟩ := get_of_lt hlt2
        rcases hL2.keep hg.kept (fun _ _ h => h) with ⟨_, rfl⟩ | ⟨x2, c'2, hv2, hm2, hc2⟩
        · simp at hlt2
        cases hv2
        obtain ⟨c20, c21, c22⟩ := hc2 n s2 hs2
        clear hc2 hs2
        go_wp2_with fail
        refine (does_two2 hg s2.kind s2.key s2.now (by omega)).mono ?_
        rintro e w6 ⟨rfl, hg6⟩
        go_wp2_with fail
        go_roundw
        case rel => exact ⟨n + 1, by go_num, by omega, hg6⟩
        case measure => simp [intOf]; omega
      · have hge2 : L2.length ≤ n := by omega
        go_wp2_with fail
        refine (does_two hp s1.kind s1.key s1.now (by omega)).mono ?_
        rintro e w5 ⟨rfl, hg⟩
        go_wp2_with fail
        go_roundw
        case rel => exact ⟨n + 1, by go_num, by omega, hg.le (by omega) (by omega)⟩
        case measure => simp [intOf]; omega
    · have hge1 : L.length ≤ n := by omega
      by_cases hlt2 : n < L2.length
      · obtain ⟨s2, hs2⟩ := get_of_lt hlt2
        rcases hL2.keep hk (fun _ _ h => h) with ⟨_, rfl⟩ | ⟨x2, c'2, hv2, hm2, hc2⟩
        · simp at hlt2
        cases hv2
        obtain ⟨c20, c21, c22⟩ := hc2 n s2 hs2
        have hnl2 : (n : Int) < L2.length := by omega
        clear hc2 hs2
        go_wp2_with fail
        refine (does_two2 hp s2.kind s2.key s2.now (by omega)).mono ?_
        rintro e w5 ⟨rfl, hg⟩
        go_wp2_with fail
        go_roundw
        case rel => exact ⟨n + 1, by go_num, by omega, hg.le (by omega) (by omega)⟩
        case measure => simp [intOf]; omega
      · have hge2 : L2.length ≤ n := by omega
        go_wp2_with fail
        refine (known_any _).mono ?_
        rintro e w9 ⟨rfl, hk9⟩
        go_wp2_with fail
        go_ret
        exact ⟨rfl, (hk.trans hk9 (fun _ _ h => h)).below (Nat.le_refl _) (fun _ _ h => h)⟩
theorem walk (l m : Int) (v : Value) (L : List S3) (v2 : Value) (L2 : List S3) (_ : (Lit.int .i64 l).wf = true) (_ : (Lit.int .i64 m).wf = true) {w0 : World} (hL : StepsAt w0 v L) (hL2 : StepsAt w0 v2 L2) (w : World) (e : w = w0) : Calls Try.prog 5 #[.int .i64 l, .int .i64 m, v, v2] w fun e w' => e = .returned (.bool true) ∧ Below w.heap.size w w' := by
  subst e
  by_cases h4 : L.length ≤ 400
  · by_cases h5 : L2.length ≤ 400
    · by_cases h : 1 ≤ l ∧ l ≤ m ∧ m ≤ 4096
      · exact walk_ok l m v v2 L L2 hL hL2 h4 h5 h.1 h.2.1 h.2.2
      · exact walk_bad l m v v2 L L2 hL hL2 h4 h5 (by omega)
    · exact walk_long2 l m v v2 L L2 hL hL2 h4 (by omega)
  · exact walk_long l m v v2 L L2 hL hL2 (by omega)
end alarmTwo

namespace alarmTwo
open Go.ChangeShapes Go.WideShapes Go.ChangeAt Go.RowKit
open Go.ChangeMaps (open_string shut_string)
theorem own : ownKnob Try.prog.godebug = none := by kernel_rfl
theorem laidOut : laidOutB Try.prog = true := by kernel_rfl
set_option maxRecDepth 100000 in
theorem lifted (os : Os) (started : os.Started) (H : Type) (enc : TypeId × Value → H) :
    ReturnsInHanded {} Try.checked os 5 .any (Rows.alarmTwoSpec.pre6 enc Try.prog Try.f5 Rows.alarmTwoRow.domain false) (Rows.alarmTwoSpec.post enc Try.prog Try.f5 false true false false) := by
  refine returnsInHanded_of_change (C := Try.checked) own started (by kernel_rfl) Try.func5
    (ChangeSpec.witness6 (enc := enc) (C := Try.checked) false ⟨#[], #[.int .i64 0, .int .i64 0, .slice none 0 0, .slice none 0 0], []⟩ 8 (by kernel_rfl) (by kernel_rfl) (by kernel_rfl) (by kernel_rfl)) ?_
  intro W base args ds gs before hval0 hW hcnd _
  have hval : ∀ (j : Nat) t v, Try.f5.params[j]? = some t → args[j]? = some v → Value.okWide Try.prog W .any base t v := hval0
  have hW' := hW
  obtain ⟨p, q, hA0, hV, rfl, hfz, hnd⟩ := hW
  have hA : DataW.TrodAll enc Try.prog W 0 (fun _ => true) true Try.f5.params.toList args.toList ds p := hA0
  rw [Try.params5] at hA hval
  obtain ⟨v0, vs0, d0, ds0, p0, q0, hargs, rfl, rfl, h0, r0⟩ := trodAll_cons hA
  obtain ⟨v1, vs1, d1, ds1, p1, q1, rfl, rfl, rfl, h1, r1⟩ := trodAll_cons r0
  obtain ⟨v2, vs2, d2, ds2, p2, q2, rfl, rfl, rfl, h2, r2⟩ := trodAll_cons r1
  obtain ⟨v3, vs3, d3, ds3, p3, q3, rfl, rfl, rfl, h3, r3⟩ := trodAll_cons r2
  obtain ⟨rfl, rfl, rfl⟩ := trodAll_nil r3
  obtain rfl : args = #[v0, v1, v2, v3] := by cases args; simp_all
  obtain ⟨rfl, rfl⟩ := trodVars_none hV
  obtain ⟨a0, rfl, rfl, rfl, w0⟩ := open_int Try.underlying3 (hval 0 3 v0 rfl rfl) h0
  obtain ⟨a1, rfl, rfl, rfl, w1⟩ := open_int Try.underlying3 (hval 1 3 v1 rfl rfl) h1
  have k2 := h2
  have lt2 : ∀ x ∈ p2, x.block < W.heap.size := by obtain ⟨m, hm⟩ := k2; exact DataW.trod_lt m _ _ _ hm
  obtain ⟨z2, w2⟩ := open_steps (hval 2 32 v2 rfl rfl) h2
  have k3 := h3
  have lt3 : ∀ x ∈ p3, x.block < W.heap.size := by obtain ⟨m, hm⟩ := k3; exact DataW.trod_lt m _ _ _ hm
  obtain ⟨z3, w3⟩ := open_steps (hval 3 32 v3 rfl rfl) h3
  clear hA0 hval0
  refine (walk a0 a1 v2 z2 v3 z3 w0 w1 w2 w3 W rfl).mono fun e W' ⟨he, bel⟩ => ?_
  subst he
  exact ⟨_, rfl, _, _, _, [], _, [], hW', trodAll_mk1 (shut_bool Try.underlying4 _), (trodAll_cons_mk (shut_int Try.underlying3 w0) (trodAll_cons_mk (shut_int Try.underlying3 w1) (trodAll_cons_mk (Below.trod laidOut (by kernel_rfl) (of_decide_eq_true (by kernel_rfl)) k2 bel lt2) (trodAll_cons_mk (Below.trod laidOut (by kernel_rfl) (of_decide_eq_true (by kernel_rfl)) k3 bel lt3) trodAll_mk0)))), rfl, bel.frame _, fun h => by cases h⟩

theorem over : Rows.alarmTwoRow.holds Try.pinned (OpenSpec.ofChange Rows.alarmTwoSpec) :=
  OpenClaim.holds_of_wide 5 Try.f5 rfl rfl rfl rfl rfl rfl rfl ⟨rfl, rfl, rfl, rfl, rfl⟩ rfl rfl rfl rfl rfl (by kernel_rfl) Try.func5 (by kernel_rfl)
    (of_decide_eq_true (by kernel_rfl)) (by unfold Func.isWrapper; first | (rw [if_pos (by decide +kernel)]; kernel_rfl) | (rw [if_neg (by decide +kernel)]; exact ⟨rfl, rfl⟩))
    (fun os started H enc _ => lifted os started H enc)
theorem proved : Rows.AlarmTwoSaid := over
end alarmTwo

end Go.Proofs.Ytmfjeeogeilgfaa
