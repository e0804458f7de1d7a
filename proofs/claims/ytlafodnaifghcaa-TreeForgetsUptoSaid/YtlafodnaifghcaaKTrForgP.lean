/- hearsaylaw11.TreeForgets returns true at every pieces, runs, runs and pieces, and what there was reads as before. Condition: the arguments' bulk is at most the bound of the Rows text (the Upto form). -/
import Derived.Test.YtlafodnaifghcaaKTrForg
import Derived.Test.YtlafodnaifghcaaK38
import Derived.WalkKit
import Derived.ProofKit
import Derived.OpenShut
import Derived.ChangeOld
import Derived.Below
namespace Go.Proofs.Ytlafodnaifghcaa
open Go.RowKit Go.Proofs.Ytlafodnaifghcaa.St Go.Proofs.Ytlafodnaifghcaa.Tr
namespace treeForgets
theorem walk (v0 : Value) (z0 : List Pc) (v1 : Value) (z1 : List Run) (v2 : Value) (z2 : List Run) (v3 : Value) (z3 : List Pc) {w0 w1 w2 w3 : World} (h0 : SlAt pcE w0 v0 z0 ∧ ∀ s ∈ z0, s.In) (h1 : SlAt runE w1 v1 z1 ∧ (∀ s ∈ z1, s.In) ∧ ∀ b, v1.ownBlock = some b → b < w1.heap.size) (h2 : SlAt runE w2 v2 z2 ∧ (∀ s ∈ z2, s.In) ∧ ∀ b, v2.ownBlock = some b → b < w2.heap.size) (h3 : SlAt pcE w3 v3 z3 ∧ ∀ s ∈ z3, s.In) (hb : z0.length + z3.length ≤ 1048576) (w : World) (hw : w = w0) (hw1 : w = w1 := by first | assumption | rfl) (hw2 : w = w2 := by first | assumption | rfl) (hw3 : w = w3 := by first | assumption | rfl) :
    Calls Try.prog 7 #[v0, v1, v2, v3] w fun e w' => e = .returned (.bool true) ∧ Below w.heap.size w w' := by
  subst hw
  subst hw1
  subst hw2
  subst hw3
  exact (forg_any h0.1 h0.2 h1.1 h1.2.1 h1.2.2 h2.1 h2.2.1 h2.2.2 h3.1 h3.2 (by omega)).mono fun e w' ⟨he, hk⟩ => ⟨he, hk.below (Nat.le_refl _) (fun _ _ h => h)⟩
end treeForgets

namespace treeForgets
open Go.ChangeShapes Go.WideShapes Go.ChangeAt Go.RowKit
open Go.ChangeMaps (open_string shut_string)
theorem own : ownKnob Try.prog.godebug = none := by kernel_rfl
theorem laidOut : laidOutB Try.prog = true := by kernel_rfl
set_option maxRecDepth 100000 in
theorem lifted (os : Os) (started : os.Started) (H : Type) (enc : TypeId × Value → H) (F : Stop.Interp) :
    ReturnsInHanded {} Try.checked os 7 .any ((Rows.OpenSpec.upto Rows.treeForgetsSpec).pre6 enc Try.prog Try.f7 Rows.treeForgetsUptoRow.domain false) (((Rows.OpenSpec.upto Rows.treeForgetsSpec).at F).post enc Try.prog Try.f7 false true false false) := by
  refine returnsInHanded_of_cond (C := Try.checked) (s := Rows.OpenSpec.upto Rows.treeForgetsSpec) (k := Rows.uptoSmall) rfl own started (by kernel_rfl) Try.func7
    (OpenSpec.witness (enc := enc) (C := Try.checked) (s := Rows.OpenSpec.upto Rows.treeForgetsSpec) (k := Rows.uptoSmall) rfl false ⟨#[], #[.slice none 0 0, .slice none 0 0, .slice none 0 0, .slice none 0 0], []⟩ 8 (by kernel_rfl) (by kernel_rfl) (by kernel_rfl)
      (x := ([.nil, .nil, .nil, .nil], [], [])) (by kernel_rfl) rfl (by kernel_rfl)) ?_
  intro W base args ds gs before hval0 hW _ hk _
  have hval : ∀ (j : Nat) t v, Try.f7.params[j]? = some t → args[j]? = some v → Value.okWide Try.prog W .any base t v := hval0
  have hW' := hW
  obtain ⟨p, q, hA0, hV, rfl, hfz, hnd⟩ := hW
  have hA : DataW.TrodAll enc Try.prog W 0 (fun _ => true) true Try.f7.params.toList args.toList ds p := hA0
  rw [Try.params7] at hA hval
  obtain ⟨v0, vs0, d0, ds0, p0, q0, hargs, rfl, rfl, h0, r0⟩ := trodAll_cons hA
  obtain ⟨v1, vs1, d1, ds1, p1, q1, rfl, rfl, rfl, h1, r1⟩ := trodAll_cons r0
  obtain ⟨v2, vs2, d2, ds2, p2, q2, rfl, rfl, rfl, h2, r2⟩ := trodAll_cons r1
  obtain ⟨v3, vs3, d3, ds3, p3, q3, rfl, rfl, rfl, h3, r3⟩ := trodAll_cons r2
  obtain ⟨rfl, rfl, rfl⟩ := trodAll_nil r3
  obtain rfl : args = #[v0, v1, v2, v3] := by cases args; simp_all
  obtain ⟨rfl, rfl⟩ := trodVars_none hV
  have k0 := h0
  have lt0 : ∀ x ∈ p0, x.block < W.heap.size := by obtain ⟨m, hm⟩ := k0; exact DataW.trod_lt m _ _ _ hm
  obtain ⟨z0, w0⟩ := open_pieces (hval 0 45 v0 rfl rfl) h0
  have k1 := h1
  have lt1 : ∀ x ∈ p1, x.block < W.heap.size := by obtain ⟨m, hm⟩ := k1; exact DataW.trod_lt m _ _ _ hm
  obtain ⟨z1, w1⟩ := open_runs (hval 1 28 v1 rfl rfl) h1
  have k2 := h2
  have lt2 : ∀ x ∈ p2, x.block < W.heap.size := by obtain ⟨m, hm⟩ := k2; exact DataW.trod_lt m _ _ _ hm
  obtain ⟨z2, w2⟩ := open_runs (hval 2 28 v2 rfl rfl) h2
  have k3 := h3
  have lt3 : ∀ x ∈ p3, x.block < W.heap.size := by obtain ⟨m, hm⟩ := k3; exact DataW.trod_lt m _ _ _ hm
  obtain ⟨z3, w3⟩ := open_pieces (hval 3 45 v3 rfl rfl) h3
  have hB : z0.length + z3.length ≤ 1048576 := by
    have h9 := hk
    simp only [Rows.uptoSmall, decide_eq_true_iff, List.append_nil] at h9
    have b0 := bulk_len Try.underlying45 k0 w0.1
    have b3 := bulk_len Try.underlying45 k3 w3.1
    simp only [Rows.uptoBulkAll] at h9
    omega
  clear hA0 hval0
  refine (walk v0 z0 v1 z1 v2 z2 v3 z3 w0 w1 w2 w3 hB W rfl).mono fun e W' ⟨he, bel⟩ => ?_
  subst he
  exact ⟨_, rfl, _, _, _, [], _, [], hW', trodAll_mk1 (shut_bool Try.underlying4 _), (trodAll_cons_mk (Below.trod laidOut (by kernel_rfl) (of_decide_eq_true (by kernel_rfl)) k0 bel lt0) (trodAll_cons_mk (Below.trod laidOut (by kernel_rfl) (of_decide_eq_true (by kernel_rfl)) k1 bel lt1) (trodAll_cons_mk (Below.trod laidOut (by kernel_rfl) (of_decide_eq_true (by kernel_rfl)) k2 bel lt2) (trodAll_cons_mk (Below.trod laidOut (by kernel_rfl) (of_decide_eq_true (by kernel_rfl)) k3 bel lt3) trodAll_mk0)))), rfl, bel.frame _, fun h => by cases h⟩

theorem over : Rows.treeForgetsUptoRow.holds Try.pinned (Rows.OpenSpec.upto Rows.treeForgetsSpec) :=
  OpenClaim.holds_of_cond 7 Try.f7 rfl rfl rfl rfl rfl rfl rfl ⟨rfl, rfl, rfl, rfl, rfl⟩ rfl rfl rfl rfl rfl (by kernel_rfl) Try.func7 (by kernel_rfl)
    (of_decide_eq_true (by kernel_rfl)) (by unfold Func.isWrapper; first | (rw [if_pos (by decide +kernel)]; kernel_rfl) | (rw [if_neg (by decide +kernel)]; exact ⟨rfl, rfl⟩))
    (fun os started H enc _ F => lifted os started H enc F)
theorem proved : Rows.TreeForgetsUptoSaid := over
end treeForgets


end Go.Proofs.Ytlafodnaifghcaa
