/- hearsaylaw15.AlarmBacks returns true at every six ints, and what there was reads as before. No condition. -/
import Derived.Test.YtmfjeeogeilgfaaAlBack
import Derived.Test.YtmfjeeogeilgfaaRows
import Derived.WalkKit
import Derived.ProofKit
import Derived.OpenShut
import Derived.ShutString
import Derived.ChangeOld
import Derived.Below
namespace Go.Proofs.Ytmfjeeogeilgfaa
open Go.RowKit Go.Proofs.Ytmfjeeogeilgfaa.Al
namespace alarmBacks
set_option maxRecDepth 100000 in
set_option maxHeartbeats 4000000 in
theorem walk_bad (w : World) (l m frm key other ticks : Int) (h : l < 1 ∨ m < l ∨ 4096 < m) : Calls Try.prog 7 #[.int .i64 l, .int .i64 m, .int .i64 frm, .int .i64 key, .int .i64 other, .int .i64 ticks] w fun e w' => e = .returned (.bool true) ∧ Below w.heap.size w w' := by
  go_enter Try.func7, Try.ntmps7
  go_wp2_with fail
  refine (new_bad h _).mono ?_
  rintro e w1 ⟨rfl, rfl⟩
  go_wp2_with fail
  refine (known_any _).mono ?_
  rintro e w9 ⟨rfl, hk9⟩
  go_wp2_with fail
  go_ret
  exact ⟨rfl, hk9.below (Nat.le_refl _) (fun _ _ h => h)⟩
set_option maxRecDepth 100000 in
set_option maxHeartbeats 4000000 in
theorem walk_out (w : World) (l m frm key other ticks : Int) (h1 : 1 ≤ l) (h2 : l ≤ m) (h3 : m ≤ 4096) (h : frm < 0 ∨ (0 ≤ frm ∧ (1000000 < frm ∨ (frm ≤ 1000000 ∧ (ticks < 0 ∨ (0 ≤ ticks ∧ (3000 < ticks ∨ (ticks ≤ 3000 ∧ (key == other) = true)))))))) : Calls Try.prog 7 #[.int .i64 l, .int .i64 m, .int .i64 frm, .int .i64 key, .int .i64 other, .int .i64 ticks] w fun e w' => e = .returned (.bool true) ∧ Below w.heap.size w w' := by
  rcases h with h | ⟨g1, h | ⟨g2, h | ⟨g3, h | ⟨g4, h⟩⟩⟩⟩
  all_goals
    go_enter Try.func7, Try.ntmps7
    go_wp2_with fail
    refine (new_ok h1 h2 h3 _).mono ?_
    rintro e w1 ⟨rfl, hA, hk1⟩
    go_wp2_with fail
    refine (known_any _).mono ?_
    rintro e w9 ⟨rfl, hk9⟩
    go_wp2_with fail
    go_ret
    exact ⟨rfl, (hk1.trans hk9 (fun _ _ h => h)).below (Nat.le_refl _) (fun _ _ h => h)⟩
set_option maxRecDepth 100000 in
set_option maxHeartbeats 4000000 in
theorem walk_ok (w : World) (l m frm key other ticks : Int) (h1 : 1 ≤ l) (h2 : l ≤ m) (h3 : m ≤ 4096) (f0 : 0 ≤ frm) (f1 : frm ≤ 1000000) (t0 : 0 ≤ ticks) (t1 : ticks ≤ 3000) (hne : (key == other) = false) : Calls Try.prog 7 #[.int .i64 l, .int .i64 m, .int .i64 frm, .int .i64 key, .int .i64 other, .int .i64 ticks] w fun e w' => e = .returned (.bool true) ∧ Below w.heap.size w w' := by
  have e1 : setE l [] key frm = 0 ∧ setT l [] key frm = [⟨key, l, frm + l⟩] := by
    have : ¬ (l = 0 ∨ tickB frm = false) := by simp [tickB]; omega
    simp [setE, setT, this, hasK]
  have e2 : setE l [⟨key, l, frm + l⟩] other (frm + ticks / 2) = 0 ∧ setT l [⟨key, l, frm + l⟩] other (frm + ticks / 2) = [⟨other, l, frm + ticks / 2 + l⟩, ⟨key, l, frm + l⟩] := by
    have : ¬ (l = 0 ∨ tickB (frm + ticks / 2) = false) := by simp [tickB]; omega
    simp [setE, setT, this, hasK, hne]
  have hoe : (other == key) = false := by rw [← hne]; exact Bool.beq_comm
  have hoe1 : ¬ other = key := by simpa using hoe
  have hoe2 : (other != key) = true := by simp [bne, hoe]
  go_enter Try.func7, Try.ntmps7
  go_wp2_with fail
  refine (new_ok h1 h2 h3 _).mono ?_
  rintro e w1 ⟨rfl, hA, hk1⟩
  have hA : AlarmIs w1 w.heap.size l m [] (fun b => b = w.heap.size) := ⟨[], hA, List.Perm.refl _⟩
  go_wp2_with fail
  refine (aset1 hA key frm 0 (by decide) e1).mono ?_
  rintro e w2 ⟨rfl, F2, hA2, hF2, hk2⟩
  go_wp2_with fail
  refine (aset1 hA2 other (frm + ticks / 2) 0 (by simp) e2).mono ?_
  rintro e w3 ⟨rfl, F3, hA3, hF3, hk3⟩
  have s1 := hk1.size
  have s2 := hk2.size
  have s3 := hk3.size
  have g1 : ∀ b, b < w.heap.size → b = w.heap.size → False := fun b h e => by omega
  have g2 : ∀ b, b < w.heap.size → F2 b → False := fun b h e => g1 b h (hF2 b (by omega) e)
  have g3 : ∀ b, b < w.heap.size → F3 b → False := fun b h e => g2 b h (hF3 b (by omega) e)
  have S0 := Lib.hid (show BackRel w w.heap.size l m key other frm ticks (.int .i64 l) (.int .i64 (frm + l)) (.int .i64 frm) w3 from
    ⟨l, frm + l, l, frm + ticks / 2 + l, frm, F3, rfl, rfl, rfl, hA3.perm (List.Perm.swap _ _ _), by omega, by omega, by omega, by omega, fun b hb h => g3 b hb h, ((hk1.trans hk2 g1).trans hk3 g2)⟩)
  clear g1 g2 g3 hA hA2 hA3 e1 e2 hF2 hF3
  go_wp2_with fail
  go_loopw [15, 16, 17] (fun gv dv nv wr => BackRel w w.heap.size l m key other frm ticks gv dv nv wr) (fun _ _ nv _ => (frm + ticks + 1 - intOf nv).toNat)
  case atStart => exact S0.out
  case round =>
    obtain ⟨gap, due, g2, d2, now, F, rfl, rfl, rfl, hA, n1, n2, n3, n4, hold, hk⟩ := hrel
    have O := Lib.hid hold
    have GG := Lib.hid hA.good
    have gk := hA.good.ok ⟨key, gap, due⟩ (by simp)
    unfold TOk at gk
    obtain ⟨k1, k2, k3, k4⟩ := gk
    simp only at k1 k2 k3 k4
    clear hold
    by_cases hnow : now ≤ frm + ticks
    case pos =>
      have hdec : decide (now ≤ frm + ticks) = true := by simpa using hnow
      have ht : tickB now = true := by simp [tickB]; omega
      go_wp2_with fail
      refine (adue hA now (by simp)).mono ?_
      rintro e w4 ⟨v, ks, us, rfl, hd, ha, F1, hA1, hF1, hk4⟩
      obtain ⟨K', hK, ⟨g', d', hd', hp⟩, hK2, hmem, hcase⟩ := back_due hne GG.out ht hd n3
      have hA1 := hA1.perm hp
      have M := Lib.hid hmem
      have hI := ha.ints
      have hlen := hI.len
      obtain ⟨va, vc, rfl⟩ := hI.1
      clear hp hmem ha hd
      go_wp2_with fail
      go_loopw [19, 20] (fun hv iv wq => ∃ i q : Nat, hv = .bool ((ks.take i).contains key) ∧ iv = .int .i64 i ∧ i ≤ ks.length ∧ wq = w4.drewN q) (fun _ iv _ => ks.length - (intOf iv).toNat)
      case atStart => exact ⟨0, 0, by simp, rfl, Nat.zero_le _, rfl⟩
      case round =>
        obtain ⟨i, q, rfl, rfl, hi, rfl⟩ := hrel
        by_cases hil : i < ks.length
        case pos =>
          obtain ⟨k, hki⟩ := get_of_lt hil
          have hkm := M.out k (List.mem_of_getElem? hki)
          obtain ⟨g, c', e1, hc⟩ := hI.cell (by omega)
          cases e1
          have ck := hc i k hki
          have hst := Lib.hid (take_contains (key := key) hki)
          have hi0 : (0 : Int) ≤ i := by omega
          have hinl : (i : Int) < ks.length := by omega
          clear hc hki
          have hst2 := hst.out
          clear hst
          generalize hb : (ks.take i).contains key = b at hst2 ⊢
          have hst := Lib.hid hst2
          clear hst2 hb
          rcases hkm with hk1 | hk1
          · have kb : (k == key) = true := by simp [hk1]
            have hst2 := hst.out
            rw [kb] at hst2
            have hst := Lib.hid hst2
            clear hst2 kb
            subst hk1
            cases b
            all_goals
              go_wp2_with fail
              go_roundw
              case rel => exact ⟨i + 1, _, by rw [hst.out]; rfl, by go_num, by omega, rfl⟩
              case measure => simp [intOf]; omega
          · have kb : (k == key) = false := by rw [hk1]; exact hoe
            have hst2 := hst.out
            rw [kb] at hst2
            have hst := Lib.hid hst2
            clear hst2 kb
            subst hk1
            cases b
            all_goals
              go_wp2_with fail
              go_roundw
              case rel => exact ⟨i + 1, _, by rw [hst.out]; rfl, by go_num, by omega, rfl⟩
              case measure => simp [intOf]; omega
        case neg =>
          have hge : ks.length ≤ i := by omega
          rw [List.take_of_length_le hge]
          have hne' : key ≠ other := by simpa using hne
          have old4 : ∀ b, b < w.heap.size → ¬ F1 b := fun b hb h => by have := hk.size; exact O.out b hb (hF1 b (by omega) h)
          have OO := Lib.hid old4
          clear old4
          rcases hcase with ⟨hnd, hcon, rfl⟩ | ⟨hnd, hcon, rfl⟩
          · subst hnd
            rw [hcon]
            clear hcon
            have gl1 : l ≤ 2 * gap := by omega
            have gl2 : 0 < 2 * gap := by omega
            by_cases hm2 : m < 2 * gap
            · have hA1' := hA1
              rw [show min (2 * gap) m = m by omega] at hA1'
              go_wp2_with fail
              refine (agap (hA1'.drewN q) key).mono ?_
              rintro e w5 ⟨g, d, q5, hg, rfl, rfl⟩
              have hg0 : GapIs [⟨key, m, now + m⟩, ⟨other, g', d'⟩] key (m) (now + m) := .inr ⟨⟨key, m, now + m⟩, by simp, rfl, rfl, rfl⟩
              obtain ⟨rfl, rfl⟩ := hg0.unique (by simp [hne']) hg
              clear hg hg0
              go_wp2_with fail
              go_roundw
              case rel => exact ⟨m, now + m, g', d', now + 1, F1, rfl, rfl, rfl, hA1'.drewN _, by omega, by omega, by omega, by omega, OO.out, (hk.trans hk4 (fun b hb h => O.out b hb h)).drewN _⟩
              case measure => simp [intOf]; omega
            · have hA1' := hA1
              rw [show min (2 * gap) m = 2 * gap by omega] at hA1'
              go_wp2_with fail
              refine (agap (hA1'.drewN q) key).mono ?_
              rintro e w5 ⟨g, d, q5, hg, rfl, rfl⟩
              have hg0 : GapIs [⟨key, 2 * gap, now + 2 * gap⟩, ⟨other, g', d'⟩] key (2 * gap) (now + 2 * gap) := .inr ⟨⟨key, 2 * gap, now + 2 * gap⟩, by simp, rfl, rfl, rfl⟩
              obtain ⟨rfl, rfl⟩ := hg0.unique (by simp [hne']) hg
              clear hg hg0
              go_wp2_with fail
              go_roundw
              case rel => exact ⟨2 * gap, now + 2 * gap, g', d', now + 1, F1, rfl, rfl, rfl, hA1'.drewN _, by omega, by omega, by omega, by omega, OO.out, (hk.trans hk4 (fun b hb h => O.out b hb h)).drewN _⟩
              case measure => simp [intOf]; omega
          · have hnd' : (now == due) = false := by simp; omega
            rw [hcon]
            clear hcon
            go_wp2_with fail
            refine (agap (hA1.drewN q) key).mono ?_
            rintro e w5 ⟨g, d, q5, hg, rfl, rfl⟩
            have hg0 : GapIs [⟨key, gap, due⟩, ⟨other, g', d'⟩] key gap due := .inr ⟨⟨key, gap, due⟩, by simp, rfl, rfl, rfl⟩
            obtain ⟨rfl, rfl⟩ := hg0.unique (by simp [hne']) hg
            clear hg hg0
            go_wp2_with fail
            go_roundw
            case rel => exact ⟨gap, due, g', d', now + 1, F1, rfl, rfl, rfl, hA1.drewN _, by omega, by omega, by omega, by omega, OO.out, (hk.trans hk4 (fun b hb h => O.out b hb h)).drewN _⟩
            case measure => simp [intOf]; omega
    case neg =>
      have hdec : decide (now ≤ frm + ticks) = false := by simpa using hnow
      go_wp2_with fail
      refine (aoff hA other (by simp)).mono ?_
      rintro e w5 ⟨rfl, F5, hA5, hF5, hk5⟩
      have hfl : ([⟨key, gap, due⟩, ⟨other, g2, d2⟩] : List T).filter (fun t => t.key != other) = [⟨key, gap, due⟩] := by simp [hne, bne]
      rw [hfl] at hA5
      go_wp2_with fail
      refine (agap hA5 key).mono ?_
      rintro e w6 ⟨g, d, q6, hg, rfl, rfl⟩
      have hg0 : GapIs [⟨key, gap, due⟩] key gap due := .inr ⟨⟨key, gap, due⟩, by simp, rfl, rfl, rfl⟩
      obtain ⟨rfl, rfl⟩ := hg0.unique (by simp) hg
      go_wp2_with fail
      refine (alen (hA5.drewN q6)).mono ?_
      rintro e w7 ⟨rfl, rfl⟩
      go_wp2_with fail
      refine (known_any _).mono ?_
      rintro e w9 ⟨rfl, hk9⟩
      go_wp2_with fail
      go_ret
      exact ⟨rfl, (((hk.trans hk5 (fun b hb h => O.out b hb h)).drewN q6).trans hk9 (fun _ _ h => h)).below (Nat.le_refl _) (fun _ _ h => h)⟩
theorem walk (l m frm key other ticks : Int) (_ : (Lit.int .i64 l).wf = true) (_ : (Lit.int .i64 m).wf = true) (_ : (Lit.int .i64 frm).wf = true) (_ : (Lit.int .i64 key).wf = true) (_ : (Lit.int .i64 other).wf = true) (_ : (Lit.int .i64 ticks).wf = true) (w : World) : Calls Try.prog 7 #[.int .i64 l, .int .i64 m, .int .i64 frm, .int .i64 key, .int .i64 other, .int .i64 ticks] w fun e w' => e = .returned (.bool true) ∧ Below w.heap.size w w' := by
  by_cases h : 1 ≤ l ∧ l ≤ m ∧ m ≤ 4096
  · by_cases h' : 0 ≤ frm ∧ frm ≤ 1000000 ∧ 0 ≤ ticks ∧ ticks ≤ 3000 ∧ (key == other) = false
    · exact walk_ok w l m frm key other ticks h.1 h.2.1 h.2.2 h'.1 h'.2.1 h'.2.2.1 h'.2.2.2.1 h'.2.2.2.2
    · refine walk_out w l m frm key other ticks h.1 h.2.1 h.2.2 ?_
      cases e : (key == other)
      · rw [e] at h'
        simp only [and_true] at h'
        simp only [Bool.false_eq_true, and_false, or_false]
        omega
      · simp only [and_true]
        omega
  · exact walk_bad w l m frm key other ticks (by omega)
end alarmBacks

namespace alarmBacks
open Go.ChangeShapes Go.WideShapes Go.ChangeAt Go.RowKit
open Go.ChangeMaps (open_string shut_string)
theorem own : ownKnob Try.prog.godebug = none := by kernel_rfl
theorem laidOut : laidOutB Try.prog = true := by kernel_rfl
set_option maxRecDepth 100000 in
theorem lifted (os : Os) (started : os.Started) (H : Type) (enc : TypeId × Value → H) :
    ReturnsInHanded {} Try.checked os 7 .any (Rows.alarmBacksSpec.pre6 enc Try.prog Try.f7 Rows.alarmBacksRow.domain false) (Rows.alarmBacksSpec.post enc Try.prog Try.f7 false true false false) := by
  refine returnsInHanded_of_change (C := Try.checked) own started (by kernel_rfl) Try.func7
    (ChangeSpec.witness6 (enc := enc) (C := Try.checked) false ⟨#[], #[.int .i64 0, .int .i64 0, .int .i64 0, .int .i64 0, .int .i64 0, .int .i64 0], []⟩ 8 (by kernel_rfl) (by kernel_rfl) (by kernel_rfl) (by kernel_rfl)) ?_
  intro W base args ds gs before hval0 hW hcnd _
  have hval : ∀ (j : Nat) t v, Try.f7.params[j]? = some t → args[j]? = some v → Value.okWide Try.prog W .any base t v := hval0
  have hW' := hW
  obtain ⟨p, q, hA0, hV, rfl, hfz, hnd⟩ := hW
  have hA : DataW.TrodAll enc Try.prog W 0 (fun _ => true) true Try.f7.params.toList args.toList ds p := hA0
  rw [Try.params7] at hA hval
  obtain ⟨v0, vs0, d0, ds0, p0, q0, hargs, rfl, rfl, h0, r0⟩ := trodAll_cons hA
  obtain ⟨v1, vs1, d1, ds1, p1, q1, rfl, rfl, rfl, h1, r1⟩ := trodAll_cons r0
  obtain ⟨v2, vs2, d2, ds2, p2, q2, rfl, rfl, rfl, h2, r2⟩ := trodAll_cons r1
  obtain ⟨v3, vs3, d3, ds3, p3, q3, rfl, rfl, rfl, h3, r3⟩ := trodAll_cons r2
  obtain ⟨v4, vs4, d4, ds4, p4, q4, rfl, rfl, rfl, h4, r4⟩ := trodAll_cons r3
  obtain ⟨v5, vs5, d5, ds5, p5, q5, rfl, rfl, rfl, h5, r5⟩ := trodAll_cons r4
  obtain ⟨rfl, rfl, rfl⟩ := trodAll_nil r5
  obtain rfl : args = #[v0, v1, v2, v3, v4, v5] := by cases args; simp_all
  obtain ⟨rfl, rfl⟩ := trodVars_none hV
  obtain ⟨a0, rfl, rfl, rfl, w0⟩ := open_int Try.underlying3 (hval 0 3 v0 rfl rfl) h0
  obtain ⟨a1, rfl, rfl, rfl, w1⟩ := open_int Try.underlying3 (hval 1 3 v1 rfl rfl) h1
  obtain ⟨a2, rfl, rfl, rfl, w2⟩ := open_int Try.underlying3 (hval 2 3 v2 rfl rfl) h2
  obtain ⟨a3, rfl, rfl, rfl, w3⟩ := open_int Try.underlying3 (hval 3 3 v3 rfl rfl) h3
  obtain ⟨a4, rfl, rfl, rfl, w4⟩ := open_int Try.underlying3 (hval 4 3 v4 rfl rfl) h4
  obtain ⟨a5, rfl, rfl, rfl, w5⟩ := open_int Try.underlying3 (hval 5 3 v5 rfl rfl) h5
  clear hA0 hval0
  refine (walk a0 a1 a2 a3 a4 a5 w0 w1 w2 w3 w4 w5 W).mono fun e W' ⟨he, bel⟩ => ?_
  subst he
  exact ⟨_, rfl, _, _, _, [], _, [], hW', trodAll_mk1 (shut_bool Try.underlying4 _), (trodAll_cons_mk (shut_int Try.underlying3 w0) (trodAll_cons_mk (shut_int Try.underlying3 w1) (trodAll_cons_mk (shut_int Try.underlying3 w2) (trodAll_cons_mk (shut_int Try.underlying3 w3) (trodAll_cons_mk (shut_int Try.underlying3 w4) (trodAll_cons_mk (shut_int Try.underlying3 w5) trodAll_mk0)))))), rfl, bel.frame _, fun h => by cases h⟩

theorem over : Rows.alarmBacksRow.holds Try.pinned (OpenSpec.ofChange Rows.alarmBacksSpec) :=
  OpenClaim.holds_of_wide 7 Try.f7 rfl rfl rfl rfl rfl rfl rfl ⟨rfl, rfl, rfl, rfl, rfl⟩ rfl rfl rfl rfl rfl (by kernel_rfl) Try.func7 (by kernel_rfl)
    (of_decide_eq_true (by kernel_rfl)) (by unfold Func.isWrapper; first | (rw [if_pos (by decide +kernel)]; kernel_rfl) | (rw [if_neg (by decide +kernel)]; exact ⟨rfl, rfl⟩))
    (fun os started H enc _ => lifted os started H enc)
theorem proved : Rows.AlarmBacksSaid := over
end alarmBacks

end Go.Proofs.Ytmfjeeogeilgfaa
