/- hearsayref11.offends: why an element is none, behind those ahead of it. -/
import Derived.Test.YtlafodnaifghcaaGreatH31
namespace Go.Proofs.YtlafodnaifghcaaGreat.Tr
open Go.RowKit Go.Sort Go.Proofs.YtlafodnaifghcaaGreat.St Go.Proofs.YtlafodnaifghcaaGreat Go.Proofs.YtlafodnaifghcaaGreat.Gl
attribute [local go_sem] Oper.semAt_some
theorem ris_any (r : Int) (w : World) : Calls Tryz.prog 107 #[.int .i32 r] w fun e w' => e = .returned (.bool (decide (isRuneP r))) ∧ w' = w := by
  by_cases h : isRuneP r
  · rw [decide_eq_true h]; exact ris_rune h w
  · rw [decide_eq_false h]
    unfold isRuneP at h
    by_cases h0 : 0 ≤ r
    · by_cases h1 : r ≤ 1114111
      · have h2 : ¬ r < 55296 := by omega
        have h3 : ¬ 57343 < r := by omega
        go_enter Tryz.func107, Tryz.ntmps107
        go_wp2
        go_ret
        exact ⟨rfl, rfl⟩
      · go_enter Tryz.func107, Tryz.ntmps107
        go_wp2
        go_ret
        exact ⟨rfl, rfl⟩
    · go_enter Tryz.func107, Tryz.ntmps107
      go_wp2
      go_ret
      exact ⟨rfl, rfl⟩
set_option maxRecDepth 100000 in
set_option maxHeartbeats 8000000 in
theorem roffends_any {w : World} {v : Value} {L : List Nd} (h : SlAt nodeE w v L) (hlen : L.length ≤ 800000) {i : Nat} {x : Nd} (hx : L[i]? = some x) :
    Calls Tryz.prog 83 #[v, .int .i64 i] w fun e w' => e = .returned (.int .i64 (offC (ids (L.take i)) x)) ∧ Kept (fun _ => False) w w' := by
  obtain ⟨⟨it, is⟩, ⟨rt, rs⟩, ru, st⟩ := x
  obtain ⟨E, hE⟩ : ∃ E, offC (ids (L.take i)) ⟨⟨it, is⟩, ⟨rt, rs⟩, ru, st⟩ = E := ⟨_, rfl⟩
  rw [hE]
  have HE := Lib.hid hE
  clear hE
  obtain ⟨a, c, rfl, hLc, hcm0⟩ := h.sl
  have hcm : c ≤ 9223372036854775807 := by unfold maxLen at hcm0; omega
  have hci : (c : Int) ≤ 9223372036854775807 := by omega
  clear hcm0
  have hil := (List.getElem?_eq_some_iff.1 hx).1
  have hi0 : (0 : Int) ≤ i := by omega
  have hin : (i : Int) < L.length := by omega
  have hic : (i : Int) ≤ c := by omega
  have PRE := Lib.hid (sl_pre h (Nat.le_of_lt hil))
  have PLEN : Hid ((L.take i).length ≤ 1000000) := Lib.hid (by rw [List.length_take]; omega)
  obtain ⟨g, o, c', e1, _, h1⟩ := SlAt.node h (by omega)
  cases e1
  obtain ⟨r0, r1, r2, r3, r4, r5⟩ := h1 i _ hx
  have AT : Hid (∀ W, Kept (fun _ => False) w W → ∀ j : ID, Calls Tryz.prog 72 #[.agg #[.slice (some ⟨g, o, none⟩) i c], .agg #[.int .i64 j.t, .int .i64 j.s]] W fun e w' => e = .returned (.int .i64 (atR (L.take i) j)) ∧ Kept (fun _ => False) W w') := Lib.hid fun W hk j => rat_any (PRE.out.kept hk) PLEN.out j
  clear h h1 hx
  obtain ⟨b1, hb1⟩ : ∃ b1, isB ⟨it, is⟩ = b1 := ⟨_, rfl⟩
  obtain ⟨b2, hb2⟩ : ∃ b2, isB ⟨rt, rs⟩ = b2 := ⟨_, rfl⟩
  obtain ⟨rz, hrz⟩ : ∃ rz, decide ((⟨rt, rs⟩ : ID) = ⟨0, 0⟩) = rz := ⟨_, rfl⟩
  obtain ⟨b3, hb3⟩ : ∃ b3, decide (isRuneP ru) = b3 := ⟨_, rfl⟩
  obtain ⟨b4, hb4⟩ : ∃ b4, decide ((⟨rt, rs⟩ : ID).lt ⟨it, is⟩) = b4 := ⟨_, rfl⟩
  have hnz := fun W => ne_id ⟨rt, rs⟩ ⟨0, 0⟩ W
  simp only [hrz] at hnz
  have IS1 : Hid (∀ W, Calls Tryz.prog 68 #[.agg #[.int .i64 it, .int .i64 is]] W fun e w' => e = .returned (.bool b1) ∧ Grew W w') := Lib.hid fun W => by have h9 := risID_any ⟨it, is⟩ W; rw [hb1] at h9; exact h9
  have IS2 : Hid (∀ W, Calls Tryz.prog 68 #[.agg #[.int .i64 rt, .int .i64 rs]] W fun e w' => e = .returned (.bool b2) ∧ Grew W w') := Lib.hid fun W => by have h9 := risID_any ⟨rt, rs⟩ W; rw [hb2] at h9; exact h9
  have ISR : Hid (∀ W, Calls Tryz.prog 107 #[.int .i32 ru] W fun e w' => e = .returned (.bool b3) ∧ w' = W) := Lib.hid fun W => by have h9 := ris_any ru W; rw [hb3] at h9; exact h9
  have LOW : Hid (∀ W, Calls Tryz.prog 71 #[.agg #[.int .i64 rt, .int .i64 rs], .agg #[.int .i64 it, .int .i64 is]] W fun e w' => e = .returned (.bool b4) ∧ Grew W w') := Lib.hid fun W => by have h9 := lower_any ⟨rt, rs⟩ ⟨it, is⟩ W; rw [hb4] at h9; exact h9
  have HB1 := Lib.hid hb1
  have HB2 := Lib.hid hb2
  have HB3 := Lib.hid hb3
  have HB4 := Lib.hid hb4
  have HRZ := Lib.hid hrz
  clear hb1 hb2 hrz hb3 hb4
  go_enter Tryz.func83, Tryz.ntmps83
  go_upto_region 2 with fail
  obtain ⟨w1, hw1⟩ : ∃ w1, w.alloc (.cells #[.int .i64 it, .int .i64 is, .int .i64 rt, .int .i64 rs, .int .i32 ru, .int .i64 st] 45) = w1 := ⟨_, rfl⟩
  have k1 : Kept (fun _ => False) w w1 := by rw [← hw1]; exact (Kept.refl _ _).alloc _
  have b0 := Blk.new w 45 #[.int .i64 it, .int .i64 is, .int .i64 rt, .int .i64 rs, .int .i32 ru, .int .i64 st]
  rw [hw1] at b0 ⊢
  have K1 := Lib.hid k1
  have B0 := Lib.hid b0
  obtain ⟨z, hz⟩ : ∃ z, w.heap.size = z := ⟨_, rfl⟩
  rw [hz] at B0 ⊢
  clear k1 b0 hw1 r0 r1 r2 r3 r4 r5 hz
  have CEL : Hid (∀ W, Kept (fun _ => False) w1 W → W.cell? ⟨z, 0, none⟩ = some (.int .i64 it) ∧ W.cell? ⟨z, 1, none⟩ = some (.int .i64 is) ∧ W.cell? ⟨z, 2, none⟩ = some (.int .i64 rt) ∧ W.cell? ⟨z, 3, none⟩ = some (.int .i64 rs) ∧ W.cell? ⟨z, 4, none⟩ = some (.int .i32 ru) ∧ W.cell? ⟨z, 5, none⟩ = some (.int .i64 st)) := Lib.hid fun W hk =>
    ⟨(hk.blk (fun h => h) B0.out).cell' (i := 0) rfl, (hk.blk (fun h => h) B0.out).cell' (i := 1) rfl, (hk.blk (fun h => h) B0.out).cell' (i := 2) rfl, (hk.blk (fun h => h) B0.out).cell' (i := 3) rfl, (hk.blk (fun h => h) B0.out).cell' (i := 4) rfl, (hk.blk (fun h => h) B0.out).cell' (i := 5) rfl⟩
  obtain ⟨c0, c1, c2, c3, c4, c5⟩ := CEL.out _ (Kept.refl _ _)
  go_cut [11] (fun v wx => v = .bool (!(b1 && (rz || b2))) ∧ Kept (fun _ => False) w1 wx)
  case first =>
    cases b1
    · go_wp2_with (go_at_call 68; with_reducible refine (IS1.out _).mono ?_; rintro e w2 ⟨rfl, hg1⟩)
      go_meet
      case rel => exact ⟨rfl, hg1.kept⟩
    · cases rz
      · cases b2
        all_goals
          go_wp2_with (first
            | (go_at_call 68; with_reducible refine (IS2.out _).mono ?_; rintro e w3 ⟨rfl, hg2⟩; have K3 := Lib.hid (K2.out.trans hg2.kept fun _ _ h => h); clear hg2)
            | (go_at_call 68; with_reducible refine (IS1.out _).mono ?_; rintro e w2 ⟨rfl, hg1⟩; have K2 := Lib.hid hg1.kept; obtain ⟨d0, d1, d2, d3, d4, d5⟩ := CEL.out _ hg1.kept; have dn := hnz w2; clear hg1))
          go_meet
          case rel => exact ⟨rfl, K3.out⟩
      · go_wp2_with (go_at_call 68; with_reducible refine (IS1.out _).mono ?_; rintro e w2 ⟨rfl, hg1⟩; have K2 := Lib.hid hg1.kept; obtain ⟨d0, d1, d2, d3, d4, d5⟩ := CEL.out _ hg1.kept; have dn := hnz w2; clear hg1)
        go_meet
        case rel => exact ⟨rfl, K2.out⟩
  case' rest =>
  obtain ⟨rfl, hk1⟩ := hcut
  have K2 := Lib.hid hk1
  clear hk1 c0 c1 c2 c3 c4 c5
  obtain ⟨ok1, hok1⟩ : ∃ ok1, (b1 && (rz || b2)) = ok1 := ⟨_, rfl⟩
  rw [hok1]
  have OKK : Hid (ok1 = true ↔ ((⟨it, is⟩ : ID).Is ∧ ((⟨rt, rs⟩ : ID) = ID.zero ∨ (⟨rt, rs⟩ : ID).Is))) := Lib.hid (by
    rw [← hok1, ← HB1.out, ← HB2.out, ← HRZ.out]
    simp only [Bool.and_eq_true, Bool.or_eq_true, decide_eq_true_eq, isB]
    rfl)
  clear hok1
  cases ok1
  case false =>
    obtain rfl : E = 1 := by
      rw [← HE.out]
      unfold offC
      refine if_pos ?_
      by_cases q : (⟨it, is⟩ : ID).Is
      · exact .inr ⟨fun h => absurd (OKK.out.2 ⟨q, .inl h⟩) (by decide), fun h => absurd (OKK.out.2 ⟨q, .inr h⟩) (by decide)⟩
      · exact .inl q
    go_wp2_with fail
    go_ret
    exact ⟨rfl, (K1.out.trans K2.out fun _ _ h => h)⟩
  case true =>
  have OK1 : Hid (¬ (¬ (⟨it, is⟩ : ID).Is ∨ ((⟨rt, rs⟩ : ID) ≠ ID.zero ∧ ¬ (⟨rt, rs⟩ : ID).Is))) := Lib.hid fun h => h.elim (fun h => h (OKK.out.1 rfl).1) fun h => (OKK.out.1 rfl).2.elim h.1 h.2
  clear OKK
  obtain ⟨c0, c1, c2, c3, c4, c5⟩ := CEL.out _ K2.out
  go_upto_region 4 with fail
  go_cut [28] (fun v wx => v = .bool (!(b3 && decide (1 ≤ st) && decide (st ≤ 3))) ∧ Kept (fun _ => False) w1 wx)
  case first =>
    cases b3
    · go_wp2_with (go_at_call 107; with_reducible refine (ISR.out _).mono ?_; rintro e w3 ⟨rfl, rfl⟩)
      go_meet
      case rel => exact ⟨rfl, K2.out⟩
    · by_cases h1 : 1 ≤ st
      · have h1n : ¬ st < 1 := by omega
        by_cases h3 : st ≤ 3
        · have h3n : ¬ 3 < st := by omega
          have e1 := decide_eq_true h1
          have e3 := decide_eq_true h3
          go_wp2_with (go_at_call 107; with_reducible refine (ISR.out _).mono ?_; rintro e w3 ⟨rfl, rfl⟩)
          go_meet
          case rel => exact ⟨by rw [e1, e3, decide_eq_false (show ¬ st < 1 by omega), decide_eq_false (show ¬ 3 < st by omega)]; rfl, K2.out⟩
        · have h3n : 3 < st := by omega
          have e3 := decide_eq_false h3
          go_wp2_with (go_at_call 107; with_reducible refine (ISR.out _).mono ?_; rintro e w3 ⟨rfl, rfl⟩)
          go_meet
          case rel => exact ⟨by rw [e3, Bool.and_false]; rfl, K2.out⟩
      · have h1n : st < 1 := by omega
        have e1 := decide_eq_false h1
        go_wp2_with (go_at_call 107; with_reducible refine (ISR.out _).mono ?_; rintro e w3 ⟨rfl, rfl⟩)
        go_meet
        case rel => exact ⟨by rw [e1, Bool.and_false]; rfl, K2.out⟩
  case' rest =>
  obtain ⟨rfl, hk3⟩ := hcut
  have K3 := Lib.hid hk3
  clear hk3 c0 c1 c2 c3 c4 c5
  obtain ⟨ok2, hok2⟩ : ∃ ok2, (b3 && decide (1 ≤ st) && decide (st ≤ 3)) = ok2 := ⟨_, rfl⟩
  rw [hok2]
  have OKK : Hid (ok2 = true ↔ (isRuneP ru ∧ 1 ≤ st ∧ st ≤ 3)) := Lib.hid (by
    rw [← hok2, ← HB3.out]
    simp only [Bool.and_eq_true, decide_eq_true_eq, and_assoc])
  clear hok2
  cases ok2
  case false =>
    obtain rfl : E = 6 := by
      rw [← HE.out]
      unfold offC
      rw [if_neg OK1.out]
      refine if_pos ?_
      by_cases q : isRuneP ru
      · by_cases q1 : 1 ≤ st
        · by_cases q3 : st ≤ 3
          · exact absurd (OKK.out.2 ⟨q, q1, q3⟩) (by decide)
          · exact .inr (.inr (show 3 < st by omega))
        · exact .inr (.inl (show st < 1 by omega))
      · exact .inl q
    go_wp2_with fail
    go_ret
    exact ⟨rfl, (K1.out.trans K3.out fun _ _ h => h)⟩
  case true =>
  have OK2 : Hid (¬ (¬ isRuneP ru ∨ st < 1 ∨ 3 < st)) := Lib.hid fun h => by
    obtain ⟨q, q1, q3⟩ := OKK.out.1 rfl
    rcases h with h | h | h
    · exact h q
    · omega
    · omega
  clear OKK
  obtain ⟨c0, c1, c2, c3, c4, c5⟩ := CEL.out _ K3.out
  cases b4
  case false =>
    obtain rfl : E = 9 := by
      rw [← HE.out]
      unfold offC
      rw [if_neg OK1.out, if_neg OK2.out]
      exact if_pos (of_decide_eq_false HB4.out)
    go_wp2_with (go_at_call 71; with_reducible refine (LOW.out _).mono ?_; rintro e w4 ⟨rfl, hg⟩; have K4 := Lib.hid (K3.out.trans hg.kept fun _ _ h => h); clear hg)
    go_ret
    exact ⟨rfl, (K1.out.trans K4.out fun _ _ h => h)⟩
  case true =>
  have OK3 : Hid (¬ ¬ (⟨rt, rs⟩ : ID).lt ⟨it, is⟩) := Lib.hid fun h => h (of_decide_eq_true HB4.out)
  go_upto_region 8 with (go_at_call 71; with_reducible refine (LOW.out _).mono ?_; rintro e w4 ⟨rfl, hg⟩; have K4 := Lib.hid (K3.out.trans hg.kept fun _ _ h => h); clear hg)
  go_upto_region 9 with fail
  clear c0 c1 c2 c3 c4 c5
  have kx : Kept (fun _ => False) w4 (w4.alloc (.cells #[.slice (some ⟨g, o, none⟩) i c] 33)) := (Kept.refl _ _).alloc _
  have hbx := Blk.new w4 33 #[.slice (some ⟨g, o, none⟩) i c]
  obtain ⟨w5, hw5⟩ : ∃ w5, w4.alloc (.cells #[.slice (some ⟨g, o, none⟩) i c] 33) = w5 := ⟨_, rfl⟩
  obtain ⟨zb, hzb⟩ : ∃ zb, w4.heap.size = zb := ⟨_, rfl⟩
  rw [hw5] at kx hbx ⊢
  rw [hzb] at hbx ⊢
  have K5 := Lib.hid (K4.out.trans kx fun _ _ h => h)
  have BX := Lib.hid hbx
  clear kx hbx hw5 hzb
  obtain ⟨c0, c1, c2, c3, c4, c5⟩ := CEL.out _ K5.out
  have x0 := BX.out.cell' (i := 0) (v := .slice (some ⟨g, o, none⟩) i c) rfl
  obtain ⟨A1, hA1⟩ : ∃ A1, atR (L.take i) ⟨it, is⟩ = A1 := ⟨_, rfl⟩
  have AT1 := Lib.hid (AT.out _ (K1.out.trans K5.out fun _ _ h => h) ⟨it, is⟩)
  rw [hA1] at AT1
  by_cases hin1 : (⟨it, is⟩ : ID) ∈ ids (L.take i)
  case pos =>
    obtain rfl : E = 12 := by
      rw [← HE.out]
      unfold offC
      rw [if_neg OK1.out, if_neg OK2.out, if_neg OK3.out]
      exact if_pos hin1
    have hA0 : 0 ≤ A1 := by
      rcases Int.lt_or_le A1 0 with h9 | h9
      · rw [← hA1] at h9; exact absurd hin1 ((atR_neg _ _).1 h9)
      · exact h9
    go_wp2_with (go_at_call 72; refine AT1.out.mono ?_; rintro e w6 ⟨rfl, hk⟩; have K6 := Lib.hid (K5.out.trans hk fun _ _ h => h); clear hk)
    go_ret
    exact ⟨rfl, (K1.out.trans K6.out fun _ _ h => h)⟩
  case neg =>
  have hA0 : ¬ 0 ≤ A1 := by
    have h9 := (atR_neg (L.take i) ⟨it, is⟩).2 hin1
    omega
  go_upto_region 11 with (go_at_call 72; refine AT1.out.mono ?_; rintro e w6 ⟨rfl, hk⟩; have K6 := Lib.hid (K5.out.trans hk fun _ _ h => h); have BX6 := Lib.hid (hk.blk (fun h => h) BX.out); clear hk)
  clear c0 c1 c2 c3 c4 c5 x0
  obtain ⟨c0, c1, c2, c3, c4, c5⟩ := CEL.out _ K6.out
  have x0 := BX6.out.cell' (i := 0) (v := .slice (some ⟨g, o, none⟩) i c) rfl
  obtain ⟨A2, hA2⟩ : ∃ A2, atR (L.take i) ⟨rt, rs⟩ = A2 := ⟨_, rfl⟩
  have AT2 := Lib.hid (AT.out _ (K1.out.trans K6.out fun _ _ h => h) ⟨rt, rs⟩)
  rw [hA2] at AT2
  have dn := hnz w6
  cases rz
  case true =>
    have hE0 : E = 0 := by
      rw [← HE.out]
      unfold offC
      rw [if_neg OK1.out, if_neg OK2.out, if_neg OK3.out, if_neg hin1]
      exact if_neg fun h => h.1 (of_decide_eq_true HRZ.out)
    subst hE0
    go_wp2_with fail
    go_ret
    exact ⟨rfl, (K1.out.trans K6.out fun _ _ h => h)⟩
  case false =>
    have hr0 := of_decide_eq_false HRZ.out
    by_cases hin2 : (⟨rt, rs⟩ : ID) ∈ ids (L.take i)
    · have hE0 : E = 0 := by
        rw [← HE.out]
        unfold offC
        rw [if_neg OK1.out, if_neg OK2.out, if_neg OK3.out, if_neg hin1]
        exact if_neg fun h => h.2 hin2
      subst hE0
      have hA3 : ¬ A2 < 0 := fun h9 => by rw [← hA2] at h9; exact (atR_neg _ _).1 h9 hin2
      go_wp2_with (go_at_call 72; refine AT2.out.mono ?_; rintro e w7 ⟨rfl, hk⟩; have K7 := Lib.hid (K6.out.trans hk fun _ _ h => h); clear hk)
      go_ret
      exact ⟨rfl, (K1.out.trans K7.out fun _ _ h => h)⟩
    · have hE0 : E = 11 := by
        rw [← HE.out]
        unfold offC
        rw [if_neg OK1.out, if_neg OK2.out, if_neg OK3.out, if_neg hin1]
        exact if_pos ⟨hr0, hin2⟩
      subst hE0
      have hA3 : A2 < 0 := by rw [← hA2]; exact (atR_neg _ _).2 hin2
      go_wp2_with (go_at_call 72; refine AT2.out.mono ?_; rintro e w7 ⟨rfl, hk⟩; have K7 := Lib.hid (K6.out.trans hk fun _ _ h => h); clear hk)
      go_ret
      exact ⟨rfl, (K1.out.trans K7.out fun _ _ h => h)⟩
end Go.Proofs.YtlafodnaifghcaaGreat.Tr
