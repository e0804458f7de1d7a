/- hearsaylaw15.AlarmNews returns true at every two ints, and what there was reads as before. No condition. -/
import Derived.Test.YtmfjeeogeilgfaaAlKnown
import Derived.Test.YtmfjeeogeilgfaaRows
import Derived.WalkKit
import Derived.ProofKit
import Derived.OpenShut
import Derived.ShutString
import Derived.ChangeOld
import Derived.Below
namespace Go.Proofs.Ytmfjeeogeilgfaa
open Go.RowKit Go.Proofs.Ytmfjeeogeilgfaa.Al
namespace alarmNews
theorem walk_ok (l m : Int) (h1 : 1 ≤ l) (h2 : l ≤ m) (h3 : m ≤ 4096) (w : World) : Calls Try.prog 3 #[.int .i64 l, .int .i64 m] w fun e w' => e = .returned (.bool true) ∧ Below w.heap.size w w' := by
  go_enter Try.func3, Try.ntmps3
  go_wp2_with fail
  refine (new_ok h1 h2 h3 _).mono ?_
  rintro e w1 ⟨rfl, hA, hk1⟩
  have hA : AlarmIs w1 w.heap.size l m [] (fun b => b = w.heap.size) := ⟨[], hA, List.Perm.refl _⟩
  go_wp2_with fail
  refine (rnew_ok h1 h2 h3 _).mono ?_
  rintro e w2 ⟨rfl, hB, hk2⟩
  have hg := (hA.keep hk2 (fun _ _ h => h)).good
  have hB : RefIs w2 w1.heap.size l m [] _ := ⟨_, [], hB, List.Perm.refl _, rfl, hg⟩
  go_wp2_with fail
  refine (alike_any (hA.keep hk2 (fun _ _ h => h)) hB 0 (by decide)).mono ?_
  rintro e w3 ⟨rfl, q3, rfl⟩
  go_wp2_with fail
  refine (known_any _).mono ?_
  rintro e w4 ⟨rfl, hk4⟩
  go_wp2_with fail
  go_ret
  exact ⟨rfl, (((hk1.trans hk2 (fun _ _ h => h)).drewN q3).trans hk4 (fun _ _ h => h)).below (Nat.le_refl _) (fun _ _ h => h)⟩
theorem walk_bad (l m : Int) (h : l < 1 ∨ m < l ∨ 4096 < m) (w : World) : Calls Try.prog 3 #[.int .i64 l, .int .i64 m] w fun e w' => e = .returned (.bool true) ∧ Below w.heap.size w w' := by
  go_enter Try.func3, Try.ntmps3
  go_wp2_with fail
  refine (new_bad h _).mono ?_
  rintro e w1 ⟨rfl, rfl⟩
  go_wp2_with fail
  refine (rnew_bad h _).mono ?_
  rintro e w2 ⟨rfl, rfl⟩
  go_wp2_with fail
  refine (known_any _).mono ?_
  rintro e w4 ⟨rfl, hk4⟩
  go_wp2_with fail
  go_ret
  exact ⟨rfl, hk4.below (Nat.le_refl _) (fun _ _ h => h)⟩
theorem walk (l m : Int) (_ : (Lit.int .i64 l).wf = true) (_ : (Lit.int .i64 m).wf = true) (w : World) : Calls Try.prog 3 #[.int .i64 l, .int .i64 m] w fun e w' => e = .returned (.bool true) ∧ Below w.heap.size w w' := by
  by_cases h : 1 ≤ l ∧ l ≤ m ∧ m ≤ 4096
  · exact walk_ok l m h.1 h.2.1 h.2.2 w
  · exact walk_bad l m (by omega) w
end alarmNews

namespace alarmNews
open Go.ChangeShapes Go.WideShapes Go.ChangeAt Go.RowKit
open Go.ChangeMaps (open_string shut_string)
theorem own : ownKnob Try.prog.godebug = none := by kernel_rfl
theorem laidOut : laidOutB Try.prog = true := by kernel_rfl
set_option maxRecDepth 100000 in
theorem lifted (os : Os) (started : os.Started) (H : Type) (enc : TypeId × Value → H) :
    ReturnsInHanded {} Try.checked os 3 .any (Rows.alarmNewsSpec.pre6 enc Try.prog Try.f3 Rows.alarmNewsRow.domain false) (Rows.alarmNewsSpec.post enc Try.prog Try.f3 false true false false) := by
  refine returnsInHanded_of_change (C := Try.checked) own started (by kernel_rfl) Try.func3
    (ChangeSpec.witness6 (enc := enc) (C := Try.checked) false ⟨#[], #[.int .i64 0, .int .i64 0], []⟩ 8 (by kernel_rfl) (by kernel_rfl) (by kernel_rfl) (by kernel_rfl)) ?_
  intro W base args ds gs before hval0 hW hcnd _
  have hval : ∀ (j : Nat) t v, Try.f3.params[j]? = some t → args[j]? = some v → Value.okWide Try.prog W .any base t v := hval0
  have hW' := hW
  obtain ⟨p, q, hA0, hV, rfl, hfz, hnd⟩ := hW
  have hA : DataW.TrodAll enc Try.prog W 0 (fun _ => true) true Try.f3.params.toList args.toList ds p := hA0
  rw [Try.params3] at hA hval
  obtain ⟨v0, vs0, d0, ds0, p0, q0, hargs, rfl, rfl, h0, r0⟩ := trodAll_cons hA
  obtain ⟨v1, vs1, d1, ds1, p1, q1, rfl, rfl, rfl, h1, r1⟩ := trodAll_cons r0
  obtain ⟨rfl, rfl, rfl⟩ := trodAll_nil r1
  obtain rfl : args = #[v0, v1] := by cases args; simp_all
  obtain ⟨rfl, rfl⟩ := trodVars_none hV
  obtain ⟨a0, rfl, rfl, rfl, w0⟩ := open_int Try.underlying3 (hval 0 3 v0 rfl rfl) h0
  obtain ⟨a1, rfl, rfl, rfl, w1⟩ := open_int Try.underlying3 (hval 1 3 v1 rfl rfl) h1
  clear hA0 hval0
  refine (walk a0 a1 w0 w1 W).mono fun e W' ⟨he, bel⟩ => ?_
  subst he
  exact ⟨_, rfl, _, _, _, [], _, [], hW', trodAll_mk1 (shut_bool Try.underlying4 _), (trodAll_cons_mk (shut_int Try.underlying3 w0) (trodAll_cons_mk (shut_int Try.underlying3 w1) trodAll_mk0)), rfl, bel.frame _, fun h => by cases h⟩

theorem over : Rows.alarmNewsRow.holds Try.pinned (OpenSpec.ofChange Rows.alarmNewsSpec) :=
  OpenClaim.holds_of_wide 3 Try.f3 rfl rfl rfl rfl rfl rfl rfl ⟨rfl, rfl, rfl, rfl, rfl⟩ rfl rfl rfl rfl rfl (by kernel_rfl) Try.func3 (by kernel_rfl)
    (of_decide_eq_true (by kernel_rfl)) (by unfold Func.isWrapper; first | (rw [if_pos (by decide +kernel)]; kernel_rfl) | (rw [if_neg (by decide +kernel)]; exact ⟨rfl, rfl⟩))
    (fun os started H enc _ => lifted os started H enc)
theorem proved : Rows.AlarmNewsSaid := over
end alarmNews

end Go.Proofs.Ytmfjeeogeilgfaa
