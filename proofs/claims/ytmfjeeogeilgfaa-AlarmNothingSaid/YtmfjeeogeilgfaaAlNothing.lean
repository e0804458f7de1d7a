/- hearsaylaw15.AlarmNothing returns true at every script, and what there was reads as before. No condition. -/
import Derived.Test.YtmfjeeogeilgfaaAlTwin
import Derived.Test.YtmfjeeogeilgfaaRows
import Derived.WalkKit
import Derived.ProofKit
import Derived.OpenShut
import Derived.ShutString
import Derived.ChangeOld
import Derived.Below
namespace Go.Proofs.Ytmfjeeogeilgfaa
open Go.RowKit Go.Proofs.Ytmfjeeogeilgfaa.Al
namespace alarmNothing
theorem zero_pair (w : World) : PairIn w w.heap.size (w.heap.size + 1) 0 0 0 ((w.alloc (.cells #[.int .i64 0, .int .i64 0, .map none, .slice none 0 0] 42)).alloc (.cells #[.int .i64 0, .int .i64 0, .slice none 0 0] 45)) := by
  have hA : AlarmAt (w.alloc (.cells #[.int .i64 0, .int .i64 0, .map none, .slice none 0 0] 42)) w.heap.size 0 0 [] (fun b => b = w.heap.size) :=
    ⟨⟨_, _, _, .inl ⟨rfl, Blk.new _ _ _, rfl⟩, .inl ⟨rfl, rfl, rfl⟩, by simp⟩, by simp, by simp, ⟨by omega, by omega, by omega⟩, fun _ => rfl⟩
  have hB := Blk.new (w.alloc (.cells #[.int .i64 0, .int .i64 0, .map none, .slice none 0 0] 42)) 45 #[.int .i64 0, .int .i64 0, .slice none 0 0]
  have h := Pair.new hA rfl ((Kept.refl _ _).alloc _) ⟨hB, ⟨_, _, rfl⟩, World.ownsRow_nil _ _ _ _⟩ ((Kept.refl _ _).alloc _)
  have e : (w.alloc (.cells #[.int .i64 0, .int .i64 0, .map none, .slice none 0 0] 42)).heap.size = w.heap.size + 1 := by simp
  rwa [e] at h
theorem walk_long {w : World} (v : Value) (L : List S3) (hL : StepsAt w v L) (h : 400 < L.length) : Calls Try.prog 6 #[v] w fun e w' => e = .returned (.bool true) ∧ Below w.heap.size w w' := by
  obtain ⟨a, c, rfl⟩ := hL.sl
  go_enter Try.func6, Try.ntmps6
  go_wp2_with fail
  refine (known_any _).mono ?_
  rintro e w9 ⟨rfl, hk9⟩
  go_wp2_with fail
  go_ret
  exact ⟨rfl, hk9.below (Nat.le_refl _) (fun _ _ h => h)⟩
set_option maxRecDepth 100000 in
set_option maxHeartbeats 2000000 in
theorem walk_ok {w : World} (v : Value) (L : List S3) (hL : StepsAt w v L) (h4 : L.length ≤ 400) : Calls Try.prog 6 #[v] w fun e w' => e = .returned (.bool true) ∧ Below w.heap.size w w' := by
  obtain ⟨a, c, rfl⟩ := hL.sl
  go_enter Try.func6, Try.ntmps6
  go_wp2_with fail
  have hP : PairIn w w.heap.size (w.heap.size + 1) 0 0 0 ((w.alloc (.cells #[.int .i64 0, .int .i64 0, .map none, .slice none 0 0] 42)).alloc (.cells #[.int .i64 0, .int .i64 0, .slice none 0 0] 45)) := zero_pair w
  go_loopw [6] (fun i wr => ∃ n : Nat, i = .int .i64 n ∧ n ≤ L.length ∧ PairIn w w.heap.size (w.heap.size + 1) 0 0 n wr) (fun i _ => L.length - (intOf i).toNat)
  case atStart => exact ⟨0, rfl, Nat.zero_le _, hP⟩
  case round =>
    obtain ⟨n, rfl, hn, hp⟩ := hrel
    have hk := hp.kept
    have hn0 : (0 : Int) ≤ n := by omega
    by_cases hlt : n < L.length
    · obtain ⟨s, hs⟩ := get_of_lt hlt
      rcases hL.keep hk (fun _ _ h => h) with ⟨_, rfl⟩ | ⟨x, c', hv, hm, hc⟩
      · simp at hlt
      cases hv
      obtain ⟨c0, c1, c2⟩ := hc n s hs
      have hnl : (n : Int) < L.length := by omega
      clear hc hs
      obtain ⟨ts, F, G, hp, htn, hF, _⟩ := hp
      have hk1 : Kept (fun _ => False) wr (wr.alloc (.cells #[.int .i64 s.kind, .int .i64 s.key, .int .i64 s.now] 35)) := (Kept.refl _ _).alloc _
      have nFG : ¬ (F wr.heap.size ∨ G wr.heap.size) := fun e => e.elim (fun e => Nat.lt_irrefl _ (hp.a.lt _ e)) (fun e => Nat.lt_irrefl _ (hp.b.lt _ e))
      have hp1 := hp.keep hk1 (fun _ _ h => h)
      have hb := Blk.new wr 35 #[.int .i64 s.kind, .int .i64 s.key, .int .i64 s.now]
      go_wp2_with fail
      refine (off_nil _ _).mono ?_
      rintro e w1 ⟨rfl, rfl⟩
      go_wp2_with fail
      refine (gap_nil _ _).mono ?_
      rintro e w1 ⟨rfl, rfl⟩
      go_wp2_with fail
      refine (next_nil _).mono ?_
      rintro e w1 ⟨rfl, rfl⟩
      go_wp2_with fail
      refine (does_any hp1 s.kind s.key s.now (by omega)).mono ?_
      rintro e w5 ⟨rfl, hg⟩
      obtain ⟨_, _, _, _, _, _, hgk⟩ := id hg
      have hb5 := hgk.blk nFG hb
      have p1 : w5.cell? ⟨wr.heap.size, 1, none⟩ = some (.int .i64 s.key) := hb5.cell' rfl
      have p2 : w5.cell? ⟨wr.heap.size, 2, none⟩ = some (.int .i64 s.now) := hb5.cell' rfl
      have hg := Lib.hid hg
      clear hb5 hgk hb
      go_wp2_with fail
      refine (set_nil _ _ _).mono ?_
      rintro e w1 ⟨rfl, rfl⟩
      go_wp2_with fail
      refine (reset_nil _ _ _).mono ?_
      rintro e w1 ⟨rfl, rfl⟩
      go_wp2_with fail
      refine (due_nil _ _).mono ?_
      rintro e w1 ⟨rfl, rfl⟩
      go_wp2_with fail
      refine (alen_nil _).mono ?_
      rintro e w1 ⟨rfl, rfl⟩
      go_wp2_with fail
      go_roundw
      case rel => exact ⟨n + 1, by go_num, by omega, PairIn.next htn hF (hk.trans hk1 (fun _ _ h => h)) hg.out⟩
      case measure => simp [intOf]; omega
    · have hge : L.length ≤ n := by omega
      go_wp2_with fail
      refine (known_any _).mono ?_
      rintro e w9 ⟨rfl, hk9⟩
      go_wp2_with fail
      go_ret
      exact ⟨rfl, (hk.trans hk9 (fun _ _ h => h)).below (Nat.le_refl _) (fun _ _ h => h)⟩
theorem walk (v : Value) (L : List S3) {w0 : World} (hL : StepsAt w0 v L) (w : World) (e : w = w0) : Calls Try.prog 6 #[v] w fun e w' => e = .returned (.bool true) ∧ Below w.heap.size w w' := by
  subst e
  by_cases h4 : L.length ≤ 400
  · exact walk_ok v L hL h4
  · exact walk_long v L hL (by omega)
end alarmNothing

namespace alarmNothing
open Go.ChangeShapes Go.WideShapes Go.ChangeAt Go.RowKit
open Go.ChangeMaps (open_string shut_string)
theorem own : ownKnob Try.prog.godebug = none := by kernel_rfl
theorem laidOut : laidOutB Try.prog = true := by kernel_rfl
set_option maxRecDepth 100000 in
theorem lifted (os : Os) (started : os.Started) (H : Type) (enc : TypeId × Value → H) :
    ReturnsInHanded {} Try.checked os 6 .any (Rows.alarmNothingSpec.pre6 enc Try.prog Try.f6 Rows.alarmNothingRow.domain false) (Rows.alarmNothingSpec.post enc Try.prog Try.f6 false true false false) := by
  refine returnsInHanded_of_change (C := Try.checked) own started (by kernel_rfl) Try.func6
    (ChangeSpec.witness6 (enc := enc) (C := Try.checked) false ⟨#[], #[.slice none 0 0], []⟩ 8 (by kernel_rfl) (by kernel_rfl) (by kernel_rfl) (by kernel_rfl)) ?_
  intro W base args ds gs before hval0 hW hcnd _
  have hval : ∀ (j : Nat) t v, Try.f6.params[j]? = some t → args[j]? = some v → Value.okWide Try.prog W .any base t v := hval0
  have hW' := hW
  obtain ⟨p, q, hA0, hV, rfl, hfz, hnd⟩ := hW
  have hA : DataW.TrodAll enc Try.prog W 0 (fun _ => true) true Try.f6.params.toList args.toList ds p := hA0
  rw [Try.params6] at hA hval
  obtain ⟨v0, vs0, d0, ds0, p0, q0, hargs, rfl, rfl, h0, r0⟩ := trodAll_cons hA
  obtain ⟨rfl, rfl, rfl⟩ := trodAll_nil r0
  obtain rfl : args = #[v0] := by cases args; simp_all
  obtain ⟨rfl, rfl⟩ := trodVars_none hV
  have k0 := h0
  have lt0 : ∀ x ∈ p0, x.block < W.heap.size := by obtain ⟨m, hm⟩ := k0; exact DataW.trod_lt m _ _ _ hm
  obtain ⟨z0, w0⟩ := open_steps (hval 0 32 v0 rfl rfl) h0
  clear hA0 hval0
  refine (walk v0 z0 w0 W rfl).mono fun e W' ⟨he, bel⟩ => ?_
  subst he
  exact ⟨_, rfl, _, _, _, [], _, [], hW', trodAll_mk1 (shut_bool Try.underlying4 _), (trodAll_cons_mk (Below.trod laidOut (by kernel_rfl) (of_decide_eq_true (by kernel_rfl)) k0 bel lt0) trodAll_mk0), rfl, bel.frame _, fun h => by cases h⟩

theorem over : Rows.alarmNothingRow.holds Try.pinned (OpenSpec.ofChange Rows.alarmNothingSpec) :=
  OpenClaim.holds_of_wide 6 Try.f6 rfl rfl rfl rfl rfl rfl rfl ⟨rfl, rfl, rfl, rfl, rfl⟩ rfl rfl rfl rfl rfl (by kernel_rfl) Try.func6 (by kernel_rfl)
    (of_decide_eq_true (by kernel_rfl)) (by unfold Func.isWrapper; first | (rw [if_pos (by decide +kernel)]; kernel_rfl) | (rw [if_neg (by decide +kernel)]; exact ⟨rfl, rfl⟩))
    (fun os started H enc _ => lifted os started H enc)
theorem proved : Rows.AlarmNothingSaid := over
end alarmNothing

end Go.Proofs.Ytmfjeeogeilgfaa
