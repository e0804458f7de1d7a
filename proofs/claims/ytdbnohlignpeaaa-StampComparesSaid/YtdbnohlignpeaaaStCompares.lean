/- hearsaylaw6.StampCompares returns true at every two identifiers and every int, and what there was reads as before. No condition. -/
import Derived.Test.YtdbnohlignpeaaaStOpen
import Derived.Test.YtdbnohlignpeaaaRows
import Derived.WalkKit
import Derived.ProofKit
import Derived.OpenShut
import Derived.ShutString
import Derived.ChangeOld
import Derived.Below
namespace Go.Proofs.Ytdbnohlignpeaaa
open Go.RowKit Go.Proofs.Ytdbnohlignpeaaa.St
namespace stampCompares
theorem cmp_open (a b c d k : Int) (h : ID.cmp ⟨a, b⟩ ⟨c, d⟩ = k) (w : World) : Calls Try.prog 13 #[.agg #[.int .i64 a, .int .i64 b], .agg #[.int .i64 c, .int .i64 d]] w fun e w' => e = .returned (.int .i64 k) ∧ Grew w w' := by
  subst h
  exact compare_any ⟨a, b⟩ ⟨c, d⟩ w
theorem rcmp_open (a b c d k : Int) (h : ID.cmp ⟨a, b⟩ ⟨c, d⟩ = k) (w : World) : Calls Try.prog 14 #[.agg #[.int .i64 a, .int .i64 b], .agg #[.int .i64 c, .int .i64 d]] w fun e w' => e = .returned (.int .i64 k) ∧ Grew w w' := by
  subst h
  exact rcompare_any ⟨a, b⟩ ⟨c, d⟩ w
theorem aft_open (a b n : Int) (h : I64 n) (w : World) : Calls Try.prog 15 #[.agg #[.int .i64 a, .int .i64 b], .int .i64 n] w fun e w' => e = .returned (.agg #[.int .i64 (ID.after ⟨a, b⟩ n).t, .int .i64 (ID.after ⟨a, b⟩ n).s]) ∧ Grew w w' := after_core a b n h.1 h.2 w
theorem raft_open (a b n : Int) (h : I64 n) (w : World) : Calls Try.prog 16 #[.agg #[.int .i64 a, .int .i64 b], .int .i64 n] w fun e w' => e = .returned (.agg #[.int .i64 (ID.after ⟨a, b⟩ n).t, .int .i64 (ID.after ⟨a, b⟩ n).s]) ∧ Grew w w' := rafter_core a b n h.1 h.2 w
set_option maxRecDepth 100000 in
set_option maxHeartbeats 4000000 in
theorem walk_core2 (a b c d n k k' : Int) (hn : I64 n) (hs : RowKit.Hid (ID.cmp ⟨c, d⟩ ⟨a, b⟩ = k')) (hz : RowKit.Hid (ID.cmp ⟨a, b⟩ ⟨a, b⟩ = 0)) (hcc : RowKit.Hid (ID.cmp ⟨a, b⟩ ⟨c, d⟩ = k)) (hk : IntKind.i64.wrap (-k) = k') (w : World) : Calls Try.prog 3 #[.agg #[.int .i64 a, .int .i64 b], .agg #[.int .i64 c, .int .i64 d], .int .i64 n] w fun e w' => e = .returned (.bool true) ∧ Kept (fun _ => False) w w' := by
  have NN := Lib.hid hn
  have hb1 := Blk.alloc (Blk.new w 23 #[.int .i64 a, .int .i64 b]) (.cells #[.int .i64 c, .int .i64 d] 23)
  have hb2 := Blk.new (w.alloc (.cells #[.int .i64 a, .int .i64 b] 23)) 23 #[.int .i64 c, .int .i64 d]
  rw [World.size_alloc] at hb2
  have hkk : Kept (fun _ => False) w ((w.alloc (.cells #[.int .i64 a, .int .i64 b] 23)).alloc (.cells #[.int .i64 c, .int .i64 d] 23)).drew := (((Kept.refl _ _).alloc _).alloc _).drew
  have c0 : _ = some (Value.int .i64 a) := hb1.cell' (i := 0) rfl
  have c1 : _ = some (Value.int .i64 b) := hb1.cell' (i := 1) rfl
  have c2 : _ = some (Value.int .i64 c) := hb2.cell' (i := 0) rfl
  have c3 : _ = some (Value.int .i64 d) := hb2.cell' (i := 1) rfl
  clear hb1 hb2 hn
  all_goals (
    go_enter Try.func3, Try.ntmps3
    go_wp2_with fail
    generalize ((w.alloc (.cells #[.int .i64 a, .int .i64 b] 23)).alloc (.cells #[.int .i64 c, .int .i64 d] 23)) = W at *
    go_region_held3 (fun w' => w'.cell? ⟨w.heap.size, 0, none⟩ = some (.int .i64 a) ∧ w'.cell? ⟨w.heap.size, 1, none⟩ = some (.int .i64 b) ∧ w'.cell? ⟨w.heap.size + 1, 0, none⟩ = some (.int .i64 c) ∧ w'.cell? ⟨w.heap.size + 1, 1, none⟩ = some (.int .i64 d)) (first | exact ⟨c0, c1, c2, c3⟩)
      (first
        | (go_simp; go_at_call 13; refine (cmp_open _ _ _ _ _ (by first | exact hcc.out | exact hs.out | exact hz.out) _).mono ?_; rintro e w2 ⟨rfl, hg2⟩; have c0 := old_cell hg2.kept c0; have c1 := old_cell hg2.kept c1; have c2 := old_cell hg2.kept c2; have c3 := old_cell hg2.kept c3; have hkk := hkk.trans hg2.kept (fun _ _ h => h); clear hg2)
        | (go_simp; go_at_call 14; refine (rcmp_open _ _ _ _ _ (by first | exact hcc.out | exact hs.out | exact hz.out) _).mono ?_; rintro e w2 ⟨rfl, hg2⟩; have c0 := old_cell hg2.kept c0; have c1 := old_cell hg2.kept c1; have c2 := old_cell hg2.kept c2; have c3 := old_cell hg2.kept c3; have hkk := hkk.trans hg2.kept (fun _ _ h => h); clear hg2)
        | (go_simp; go_at_call 15; refine (aft_open _ _ _ NN.out _).mono ?_; rintro e w2 ⟨rfl, hg2⟩; have c0 := old_cell hg2.kept c0; have c1 := old_cell hg2.kept c1; have c2 := old_cell hg2.kept c2; have c3 := old_cell hg2.kept c3; have hkk := hkk.trans hg2.kept (fun _ _ h => h); clear hg2)
        | (go_simp; go_at_call 16; refine (raft_open _ _ _ NN.out _).mono ?_; rintro e w2 ⟨rfl, hg2⟩; have c0 := old_cell hg2.kept c0; have c1 := old_cell hg2.kept c1; have c2 := old_cell hg2.kept c2; have c3 := old_cell hg2.kept c3; have hkk := hkk.trans hg2.kept (fun _ _ h => h); clear hg2)
        | (go_simp; go_at_call 17; refine (known_any _).mono ?_; rintro e w2 ⟨rfl, hg2⟩; have c0 := old_cell hg2 c0; have c1 := old_cell hg2 c1; have c2 := old_cell hg2 c2; have c3 := old_cell hg2 c3; have hkk := hkk.trans hg2 (fun _ _ h => h); clear hg2))
    go_wp2_with fail
    go_ret
    exact ⟨rfl, hkk⟩
  )
theorem walk_core (a b c d n : Int) (hn : I64 n) (w : World) : Calls Try.prog 3 #[.agg #[.int .i64 a, .int .i64 b], .agg #[.int .i64 c, .int .i64 d], .int .i64 n] w fun e w' => e = .returned (.bool true) ∧ Kept (fun _ => False) w w' := by
  have hs := cmp_swap ⟨a, b⟩ ⟨c, d⟩
  have hz := cmp_zero.2 (rfl : (⟨a, b⟩ : ID) = ⟨a, b⟩)
  have hbd := cmp_bd ⟨a, b⟩ ⟨c, d⟩
  refine walk_core2 a b c d n (ID.cmp ⟨a, b⟩ ⟨c, d⟩) (ID.cmp ⟨c, d⟩ ⟨a, b⟩) hn (Lib.hid rfl) (Lib.hid hz) (Lib.hid rfl) ?_ w
  rw [hs, IntKind.wrap_i64]; omega
theorem walk (v0 : Value) (x0 : ID) (v1 : Value) (x1 : ID) (n : Int) {w0 w1 : World} (h0 : IdVal w0 v0 x0) (h1 : IdVal w1 v1 x1) (hn : (Lit.int .i64 n).wf = true) (w : World) (_ : w = w0) : Calls Try.prog 3 #[v0, v1, .int .i64 n] w fun e w' => e = .returned (.bool true) ∧ Below w.heap.size w w' := by
  obtain ⟨rfl, _⟩ := h0
  obtain ⟨rfl, _⟩ := h1
  exact (walk_core x0.t x0.s x1.t x1.s n (i64_of hn) w).mono fun e w' ⟨he, hk⟩ => ⟨he, hk.below (Nat.le_refl _) (fun _ _ h => h)⟩
end stampCompares

namespace stampCompares
open Go.ChangeShapes Go.WideShapes Go.ChangeAt Go.RowKit
open Go.ChangeMaps (open_string shut_string)
theorem own : ownKnob Try.prog.godebug = none := by kernel_rfl
theorem laidOut : laidOutB Try.prog = true := by kernel_rfl
set_option maxRecDepth 100000 in
theorem lifted (os : Os) (started : os.Started) (H : Type) (enc : TypeId × Value → H) :
    ReturnsInHanded {} Try.checked os 3 .any (Rows.stampComparesSpec.pre6 enc Try.prog Try.f3 Rows.stampComparesRow.domain false) (Rows.stampComparesSpec.post enc Try.prog Try.f3 false true false false) := by
  refine returnsInHanded_of_change (C := Try.checked) own started (by kernel_rfl) Try.func3
    (ChangeSpec.witness6 (enc := enc) (C := Try.checked) false ⟨#[], #[.agg #[.int .i64 0, .int .i64 0], .agg #[.int .i64 0, .int .i64 0], .int .i64 0], []⟩ 8 (by kernel_rfl) (by kernel_rfl) (by kernel_rfl) (by kernel_rfl)) ?_
  intro W base args ds gs before hval0 hW hcnd _
  have hval : ∀ (j : Nat) t v, Try.f3.params[j]? = some t → args[j]? = some v → Value.okWide Try.prog W .any base t v := hval0
  have hW' := hW
  obtain ⟨p, q, hA0, hV, rfl, hfz, hnd⟩ := hW
  have hA : DataW.TrodAll enc Try.prog W 0 (fun _ => true) true Try.f3.params.toList args.toList ds p := hA0
  rw [Try.params3] at hA hval
  obtain ⟨v0, vs0, d0, ds0, p0, q0, hargs, rfl, rfl, h0, r0⟩ := trodAll_cons hA
  obtain ⟨v1, vs1, d1, ds1, p1, q1, rfl, rfl, rfl, h1, r1⟩ := trodAll_cons r0
  obtain ⟨v2, vs2, d2, ds2, p2, q2, rfl, rfl, rfl, h2, r2⟩ := trodAll_cons r1
  obtain ⟨rfl, rfl, rfl⟩ := trodAll_nil r2
  obtain rfl : args = #[v0, v1, v2] := by cases args; simp_all
  obtain ⟨rfl, rfl⟩ := trodVars_none hV
  have k0 := h0
  have lt0 : ∀ x ∈ p0, x.block < W.heap.size := by obtain ⟨m, hm⟩ := k0; exact DataW.trod_lt m _ _ _ hm
  obtain ⟨z0, w0⟩ := open_id (hval 0 23 v0 rfl rfl) h0
  have k1 := h1
  have lt1 : ∀ x ∈ p1, x.block < W.heap.size := by obtain ⟨m, hm⟩ := k1; exact DataW.trod_lt m _ _ _ hm
  obtain ⟨z1, w1⟩ := open_id (hval 1 23 v1 rfl rfl) h1
  obtain ⟨a2, rfl, rfl, rfl, w2⟩ := open_int Try.underlying3 (hval 2 3 v2 rfl rfl) h2
  clear hA0 hval0
  refine (walk v0 z0 v1 z1 a2 w0 w1 w2 W rfl).mono fun e W' ⟨he, bel⟩ => ?_
  subst he
  exact ⟨_, rfl, _, _, _, [], _, [], hW', trodAll_mk1 (shut_bool Try.underlying4 _), (trodAll_cons_mk (Below.trod laidOut (by kernel_rfl) (of_decide_eq_true (by kernel_rfl)) k0 bel lt0) (trodAll_cons_mk (Below.trod laidOut (by kernel_rfl) (of_decide_eq_true (by kernel_rfl)) k1 bel lt1) (trodAll_cons_mk (shut_int Try.underlying3 w2) trodAll_mk0))), rfl, bel.frame _, fun h => by cases h⟩

theorem over : Rows.stampComparesRow.holds Try.pinned (OpenSpec.ofChange Rows.stampComparesSpec) :=
  OpenClaim.holds_of_wide 3 Try.f3 rfl rfl rfl rfl rfl rfl rfl ⟨rfl, rfl, rfl, rfl, rfl⟩ rfl rfl rfl rfl rfl (by kernel_rfl) Try.func3 (by kernel_rfl)
    (of_decide_eq_true (by kernel_rfl)) (by unfold Func.isWrapper; first | (rw [if_pos (by decide +kernel)]; kernel_rfl) | (rw [if_neg (by decide +kernel)]; exact ⟨rfl, rfl⟩))
    (fun os started H enc _ => lifted os started H enc)
theorem proved : Rows.StampComparesSaid := over
end stampCompares

end Go.Proofs.Ytdbnohlignpeaaa
