/- tree.Load, walked. A tree and a document's row side by side. -/
import Derived.Test.YtlafodnaifghcaaGreatH33
import Derived.Test.YtlafodnaifghcaaGreatH9
import Derived.Test.YtlafodnaifghcaaGreatH35
import Derived.Test.YtlafodnaifghcaaGreatH14
import Derived.Test.YtlafodnaifghcaaGreatH20
import Derived.Test.YtlafodnaifghcaaGreatH29
namespace Go.Proofs.YtlafodnaifghcaaGreat.Tr
open Go.RowKit Go.Sort Go.Proofs.YtlafodnaifghcaaGreat.St
theorem ClipAt.sl {α : Type} {E : Enc α} {t : TypeId} {base : Nat} {w : World} {v : Value} {D : List α} (h : ClipAt E t base w v D) : SlAt E w v D := by
  rcases h with ⟨rfl, rfl⟩ | ⟨b, cap, rfl, _, h⟩
  · exact .inl ⟨rfl, rfl⟩
  · rcases h.slAt with ⟨h1, _⟩ | ⟨y, d, h1, h2, h3, h4, h5⟩
    · cases h1
    · injection h1 with e1 e2 e3
      injection e1 with e1
      subst e1
      subst e3
      exact .inr ⟨⟨b, 0, none⟩, D.length, rfl, Nat.le_refl _, Nat.le_trans h2 h3, h4, h5⟩
set_option maxRecDepth 100000 in
set_option maxHeartbeats 8000000 in
theorem load_any {w : World} {v : Value} {xs : List Nd} (hv : SlAt nodeE w v xs) (hlen : xs.length ≤ 900000) :
    Calls Tryz.prog 12 #[v] w (LoadPost w xs) := by
  obtain ⟨va, vc, rfl, _, _⟩ := hv.sl
  have ST := Lib.hid (LoadJ.start (w := w) (xs := xs))
  have HV := Lib.hid hv
  have HN := Lib.hid hlen
  clear hv
  go_enter Tryz.func12, Tryz.ntmps12
  go_wp2_with (go_at_call 9; refine (new_any _).mono ?_; rintro e w' ⟨rfl, rfl⟩)
  obtain ⟨g, hg⟩ : ∃ g, w.heap.size = g := ⟨_, rfl⟩
  rw [hg] at ST ⊢
  have HG := Lib.hid hg
  clear hg
  go_loopw [11] (fun iv wr => ∃ n : Nat, iv = .int .i64 n ∧ LoadJ w g xs n wr) (fun iv _ => xs.length - (intOf iv).toNat)
  case atStart => exact ⟨0, rfl, ST.out⟩
  case round =>
    obtain ⟨n, rfl, hJ⟩ := hrel
    by_cases hlt : n < xs.length
    case neg =>
      have hn : n = xs.length := by have := hJ.inr; omega
      subst hn
      obtain ⟨A, S, mp, ht, hf⟩ := hJ.tree
      have hd := hJ.doc
      rw [List.take_length] at ht hd
      have hl9 : (puts [] xs).length ≤ 900000 := by have h9 := hJ.len; rw [List.take_length] at h9; rw [h9]; exact hlen
      have NA := Lib.hid (nodes_any ht hd hl9)
      have HJ := Lib.hid hJ
      have L9 := Lib.hid hl9
      clear hJ ht hf hd hl9 ST
      by_cases hE : puts [] xs = xs
      all_goals
        have EE := Lib.hid hE
        clear hE
        go_wp2_with (first | (go_at_call 40; refine NA.out.mono ?_; rintro e w2 ⟨⟨v2, rfl, hcl⟩, hk⟩; have HEQ := Lib.hid (nodes_eq hcl.sl (HV.out.kept (HJ.out.kept.trans hk fun _ _ h => h)) (by have := L9.out; omega)); (first | rw [decide_eq_true EE.out] at HEQ | rw [decide_eq_false EE.out] at HEQ); have HK := Lib.hid hk; clear hcl hk) | (go_at_call 49; refine HEQ.out.mono ?_; rintro e w3 ⟨rfl, q, rfl⟩))
        refine bodyPost_ret (results_tmp2 rfl _ _ _) rfl ?_
      · exact (HJ.out.done ((HK.out).drewN _)).1 EE.out
      · exact (HJ.out.done ((HK.out).drewN _)).2 EE.out
    case pos =>
      obtain ⟨x, hx⟩ : ∃ x, xs[n]? = some x := ⟨_, List.getElem?_eq_getElem hlt⟩
      obtain ⟨b, o, c', e1, _, h1⟩ := SlAt.node (HV.out.kept hJ.kept) (by omega)
      cases e1
      obtain ⟨k1, k2, k3, k4, k5, k6⟩ := h1 n x hx
      have hn0 : (0 : Int) ≤ n := by omega
      have hnl : (n : Int) < xs.length := by omega
      have hB := Blk.new wr 45 (ndC x).toArray
      have hg0 : Grew wr (wr.alloc (.cells (ndC x).toArray 45)) := (Grew.refl wr).alloc _
      have ndc : (ndC x).toArray = #[.int .i64 x.id.t, .int .i64 x.id.s, .int .i64 x.ref.t, .int .i64 x.ref.s, .int .i32 x.rune, .int .i64 x.st] := rfl
      rw [ndc] at hB hg0
      obtain ⟨⟨it, is⟩, ⟨rt, rs⟩, ru, st⟩ := x
      simp only at k1 k2 k3 k4 k5 k6 hB hg0 ndc
      have B0 := Lib.hid hB
      have G0 := Lib.hid hg0
      have HJ := Lib.hid hJ
      have HX := Lib.hid hx
      have ND := Lib.hid ndc
      have M1 : Hid (∀ w, Calls Tryz.prog 44 #[.agg #[.int .i64 it, .int .i64 is]] w fun e w' => e = .returned (.bool (isB ⟨it, is⟩)) ∧ Grew w w') := Lib.hid fun w => may_any ⟨it, is⟩ w
      have M2 : Hid (∀ w, Calls Tryz.prog 44 #[.agg #[.int .i64 rt, .int .i64 rs]] w fun e w' => e = .returned (.bool (isB ⟨rt, rs⟩)) ∧ Grew w w') := Lib.hid fun w => may_any ⟨rt, rs⟩ w
      obtain ⟨p1, hp1⟩ : ∃ b, isB ⟨it, is⟩ = b := ⟨_, rfl⟩
      obtain ⟨p2, hp2⟩ : ∃ b, isB ⟨rt, rs⟩ = b := ⟨_, rfl⟩
      rw [hp1] at M1
      rw [hp2] at M2
      obtain ⟨bb, hbb⟩ : ∃ b, (!p1 || (!decide ((⟨rt, rs⟩ : ID) = ID.zero) && !p2)) = b := ⟨_, rfl⟩
      have P1 := Lib.hid hp1
      have P2 := Lib.hid hp2
      have PB := Lib.hid hbb
      have HNO := Lib.hid (fun (w' : World) (hg : Grew wr w') (r : Int) (hr : offC (ids (xs.take n)) ⟨⟨it, is⟩, ⟨rt, rs⟩, ru, st⟩ = r) (hr0 : r ≠ 0) => hJ.no hg.kept hx hr hr0)
      clear hB hg0 hJ hx ndc h1 hp1 hp2 hbb ST
      go_upto_region 5 with fail
      obtain ⟨W0, hW0⟩ : ∃ W0, (wr.alloc (.cells #[.int .i64 it, .int .i64 is, .int .i64 rt, .int .i64 rs, .int .i32 ru, .int .i64 st] 45)) = W0 := ⟨_, rfl⟩
      rw [hW0] at G0 B0
      obtain ⟨z, hz⟩ : ∃ z, wr.heap.size = z := ⟨_, rfl⟩
      rw [hz] at B0
      rw [hW0, hz]
      clear hW0 k1 k2 k3 k4 k5 k6
      have z0 := B0.out.cell' (i := 0) (v := .int .i64 it) rfl
      have z1 := B0.out.cell' (i := 1) (v := .int .i64 is) rfl
      go_cut [15] (fun v wx => v = .bool bb ∧ Grew W0 wx)
      case first =>
        cases p1
        case false =>
          go_wp2_with (go_at_call 44; with_reducible refine (M1.out _).mono ?_; rintro e w1 ⟨rfl, hg1⟩)
          go_meet
          case rel => exact ⟨by rw [← PB.out]; rfl, hg1⟩
        case true =>
          by_cases h0 : rt = 0
          · subst h0
            by_cases h1 : rs = 0
            · subst h1
              go_wp2_with (go_at_call 44; with_reducible refine (M1.out _).mono ?_; rintro e w1 ⟨rfl, hg1⟩; have hb0 := hg1.box B0.out; have y0 : w1.cell? ⟨z, 2, none⟩ = some (.int .i64 0) := hb0.cell' rfl; have y1 : w1.cell? ⟨z, 3, none⟩ = some (.int .i64 0) := hb0.cell' rfl)
              go_meet
              case rel => exact ⟨by rw [← PB.out]; rfl, hg1⟩
            · have PZ := Lib.hid (show (⟨0, rs⟩ : ID) ≠ ID.zero from fun e => h1 (by injection e))
              go_wp2_with (first
                | (go_at_call 44; with_reducible refine (M1.out _).mono ?_; rintro e w1 ⟨rfl, hg1⟩; have hb0 := hg1.box B0.out; have y0 : w1.cell? ⟨z, 2, none⟩ = some (.int .i64 0) := hb0.cell' rfl; have y1 : w1.cell? ⟨z, 3, none⟩ = some (.int .i64 rs) := hb0.cell' rfl)
                | (go_at_call 44; with_reducible refine (M2.out _).mono ?_; rintro e w2 ⟨rfl, hg2⟩))
              go_meet
              case rel => exact ⟨by rw [← PB.out, decide_eq_false PZ.out]; cases p2 <;> rfl, hg1.trans hg2⟩
          · have PZ := Lib.hid (show (⟨rt, rs⟩ : ID) ≠ ID.zero from fun e => h0 (by injection e))
            go_wp2_with (first
              | (go_at_call 44; with_reducible refine (M1.out _).mono ?_; rintro e w1 ⟨rfl, hg1⟩; have hb0 := hg1.box B0.out; have y0 : w1.cell? ⟨z, 2, none⟩ = some (.int .i64 rt) := hb0.cell' rfl; have y1 : w1.cell? ⟨z, 3, none⟩ = some (.int .i64 rs) := hb0.cell' rfl)
              | (go_at_call 44; with_reducible refine (M2.out _).mono ?_; rintro e w2 ⟨rfl, hg2⟩))
            go_meet
            case rel => exact ⟨by rw [← PB.out, decide_eq_false PZ.out]; cases p2 <;> rfl, hg1.trans hg2⟩
      case rest =>
        obtain ⟨rfl, hgc⟩ := hcut
        have GC := Lib.hid hgc
        clear hgc M1 M2 z0 z1
        cases bb
        case true =>
          go_wp2_with fail
          refine bodyPost_ret (results_tmp2 rfl _ _ _) rfl ?_
          exact HNO.out _ (G0.out.trans GC.out) 1 (by
            refine if_pos ?_
            have h1 := PB.out
            rw [← P1.out, ← P2.out] at h1
            simp only [Bool.or_eq_true, Bool.and_eq_true, Bool.not_eq_true', decide_eq_false_iff_not, isB] at h1
            exact h1) (by decide)
        case false =>
        have OK1 : Hid (¬ (¬ (⟨it, is⟩ : ID).Is ∨ ((⟨rt, rs⟩ : ID) ≠ ID.zero ∧ ¬ (⟨rt, rs⟩ : ID).Is))) := Lib.hid (by
          have h1 := PB.out
          rw [← P1.out, ← P2.out] at h1
          simp only [Bool.or_eq_false_iff, Bool.and_eq_false_iff, Bool.not_eq_false', decide_eq_true_eq, isB] at h1
          rintro (h2 | h2)
          · exact h2 h1.1
          · exact h1.2.elim h2.1 h2.2)
        clear PB P1 P2
        obtain ⟨b2, hb2⟩ : ∃ b, (!decide (isRuneP ru) || (decide (st < 1) || decide (3 < st))) = b := ⟨_, rfl⟩
        have PB := Lib.hid hb2
        have IR : Hid (∀ w, Calls Tryz.prog 45 #[.int .i32 ru] w fun e w' => e = .returned (.bool (decide (isRuneP ru))) ∧ w = w') := Lib.hid (isRune_any ru)
        have hbc := GC.out.box B0.out
        have z4 : wc.cell? ⟨z, 4, none⟩ = some (.int .i32 ru) := hbc.cell' rfl
        have z5 : wc.cell? ⟨z, 5, none⟩ = some (.int .i64 st) := hbc.cell' rfl
        clear hb2 hbc
        go_upto_region 7 with fail
        go_cut [32] (fun v wx => v = .bool b2 ∧ wx = wc)
        case first =>
          obtain ⟨pr, hpr⟩ : ∃ b, decide (isRuneP ru) = b := ⟨_, rfl⟩
          rw [hpr] at IR PB
          clear hpr
          cases pr
          case false =>
            go_wp2_with (go_at_call 45; with_reducible refine (IR.out _).mono ?_; rintro e w1 ⟨rfl, rfl⟩)
            go_meet
            case rel => exact ⟨by rw [← PB.out]; rfl, rfl⟩
          case true =>
            by_cases h1 : st < 1
            · go_wp2_with (go_at_call 45; with_reducible refine (IR.out _).mono ?_; rintro e w1 ⟨rfl, rfl⟩)
              go_meet
              case rel => exact ⟨by rw [← PB.out]; simp [h1], rfl⟩
            · by_cases h2 : 3 < st
              · go_wp2_with (go_at_call 45; with_reducible refine (IR.out _).mono ?_; rintro e w1 ⟨rfl, rfl⟩)
                go_meet
                case rel => exact ⟨by rw [← PB.out]; simp [h2], rfl⟩
              · go_wp2_with (go_at_call 45; with_reducible refine (IR.out _).mono ?_; rintro e w1 ⟨rfl, rfl⟩)
                go_meet
                case rel => exact ⟨by rw [← PB.out]; simp, rfl⟩
        case rest =>
          obtain ⟨rfl, rfl⟩ := hcut
          clear IR z4 z5
          cases b2
          case true =>
            go_wp2_with fail
            refine bodyPost_ret (results_tmp2 rfl _ _ _) rfl ?_
            exact HNO.out _ (G0.out.trans GC.out) 6 (by
              unfold offC
              rw [if_neg OK1.out]
              refine if_pos ?_
              have h1 := PB.out
              simp only [Bool.or_eq_true, Bool.not_eq_true', decide_eq_false_iff_not, decide_eq_true_eq] at h1
              exact h1) (by decide)
          case false =>
          have OK2 : Hid (¬ (¬ isRuneP ru ∨ st < 1 ∨ 3 < st)) := Lib.hid (by
            have h1 := PB.out
            simp only [Bool.or_eq_false_iff, Bool.not_eq_false', decide_eq_true_eq, decide_eq_false_iff_not] at h1
            rintro (h2 | h2 | h2)
            · exact h2 h1.1
            · exact h1.2.1 h2
            · exact h1.2.2 h2)
          clear PB
          have CMP : Hid (∀ w, Calls Tryz.prog 46 #[.agg #[.int .i64 rt, .int .i64 rs], .agg #[.int .i64 it, .int .i64 is]] w fun e w' => e = .returned (.int .i64 ((⟨rt, rs⟩ : ID).cmp ⟨it, is⟩)) ∧ Grew w w') := Lib.hid (compare_any ⟨rt, rs⟩ ⟨it, is⟩)
          obtain ⟨k, hk⟩ : ∃ k, (⟨rt, rs⟩ : ID).cmp ⟨it, is⟩ = k := ⟨_, rfl⟩
          have hkl : k < 0 ↔ (⟨rt, rs⟩ : ID).lt ⟨it, is⟩ := by rw [← hk]; exact cmp_lt
          rw [hk] at CMP
          have KL := Lib.hid hkl
          have hbc := GC.out.box B0.out
          have z0 := hbc.cell' (i := 0) (v := .int .i64 it) rfl
          have z1 := hbc.cell' (i := 1) (v := .int .i64 is) rfl
          have z2 := hbc.cell' (i := 2) (v := .int .i64 rt) rfl
          have z3 := hbc.cell' (i := 3) (v := .int .i64 rs) rfl
          clear hk hkl hbc
          by_cases q : (0 : Int) ≤ k
          case pos =>
            go_wp2_with (go_at_call 46; with_reducible refine (CMP.out _).mono ?_; rintro e w2 ⟨rfl, hg2⟩)
            refine bodyPost_ret (results_tmp2 rfl _ _ _) rfl ?_
            exact HNO.out _ ((G0.out.trans GC.out).trans hg2) 9 (by
              unfold offC
              rw [if_neg OK1.out, if_neg OK2.out]
              exact if_pos (fun h => by have := KL.out.2 h; omega)) (by decide)
          case neg =>
          have OK3 : Hid ((⟨rt, rs⟩ : ID).lt ⟨it, is⟩) := Lib.hid (KL.out.1 (by omega))
          go_wp2_with (go_at_call 46; with_reducible refine (CMP.out _).mono ?_; rintro e w2 ⟨rfl, hg2⟩)
          have G2 := Lib.hid ((G0.out.trans GC.out).trans hg2)
          have hJ2 := HJ.out.still G2.out.kept
          obtain ⟨A, S, mp, ht, hf⟩ := hJ2.tree
          have hb2 := (GC.out.trans hg2).box B0.out
          have z0 := hb2.cell' (i := 0) (v := .int .i64 it) rfl
          have z1 := hb2.cell' (i := 1) (v := .int .i64 is) rfl
          have y2 : w2.cell? ⟨g, 1, none⟩ = some (.map mp) := ht.top.cell' rfl
          have hlk := (ht.still ((Kept.refl (fun _ => False) w2).drew)).look ⟨it, is⟩
          have HT2 := Lib.hid ht
          have J2 := Lib.hid hJ2
          have B2 := Lib.hid hb2
          simp only at hlk
          clear ht hf hJ2 hb2 hg2 q KL CMP z2 z3
          by_cases hm : (⟨it, is⟩ : ID) ∈ ids (puts [] (xs.take n))
          case pos =>
            rw [if_pos hm] at hlk
            have HM := Lib.hid hm
            clear hm
            go_region
            all_goals go_wp2
            all_goals refine bodyPost_ret (results_tmp2 rfl _ _ _) rfl ?_
            all_goals exact HNO.out _ G2.out.drew 12 (by
              unfold offC
              rw [if_neg OK1.out, if_neg OK2.out, if_neg (fun h => h OK3.out)]
              exact if_pos ((J2.out.mem _).1 HM.out)) (by decide)
          case neg =>
          rw [if_neg hm] at hlk
          have OK4 : Hid ((⟨it, is⟩ : ID) ∉ ids (xs.take n)) := Lib.hid fun h => hm ((J2.out.mem _).2 h)
          clear hm
          go_region
          have hgd : Grew w2 w2.drew := (Grew.refl w2).drew
          obtain ⟨y, hy⟩ : ∃ y, whyE (puts [] (xs.take n)) ⟨it, is⟩ ⟨rt, rs⟩ = y := ⟨_, rfl⟩
          have WH : Hid (Calls Tryz.prog 47 #[.pointer (some ⟨g, 0, none⟩), .agg #[.int .i64 it, .int .i64 is], .agg #[.int .i64 rt, .int .i64 rs]] w2.drew fun e w'' => e = .returned (.int .i64 y) ∧ Grew w2.drew w'') := Lib.hid (by
            rw [← hy]
            exact why_any (HT2.out.still hgd.kept) ⟨it, is⟩ ⟨rt, rs⟩)
          have hyc : y = offC (ids (xs.take n)) ⟨⟨it, is⟩, ⟨rt, rs⟩, ru, st⟩ := by
            rw [← hy]
            have q1 : whyE (puts [] (xs.take n)) ⟨it, is⟩ ⟨rt, rs⟩ = if (⟨rt, rs⟩ : ID) ≠ ID.zero ∧ (⟨rt, rs⟩ : ID) ∉ ids (puts [] (xs.take n)) then 11 else 0 := by
              unfold whyE
              rw [if_neg (fun h => h OK3.out)]
            have q2 : offC (ids (xs.take n)) ⟨⟨it, is⟩, ⟨rt, rs⟩, ru, st⟩ = if (⟨rt, rs⟩ : ID) ≠ ID.zero ∧ (⟨rt, rs⟩ : ID) ∉ ids (xs.take n) then 11 else 0 := by
              unfold offC
              rw [if_neg OK1.out, if_neg OK2.out]
              refine (if_neg (fun h => h OK3.out)).trans ?_
              exact if_neg OK4.out
            rw [q1, q2]
            by_cases h1 : (⟨rt, rs⟩ : ID) ≠ ID.zero ∧ (⟨rt, rs⟩ : ID) ∉ ids (xs.take n)
            · rw [if_pos h1, if_pos ⟨h1.1, fun h => h1.2 ((J2.out.mem _).1 h)⟩]
            · rw [if_neg h1, if_neg (fun h => h1 ⟨h.1, fun h2 => h.2 ((J2.out.mem _).2 h2)⟩)]
          have YC := Lib.hid hyc
          have GD := Lib.hid hgd
          have x0 := hgd.box B2.out
          obtain ⟨w3, hw3⟩ : ∃ w3, w2.drew = w3 := ⟨_, rfl⟩
          rw [hw3] at WH x0 GD
          have X0 := Lib.hid x0
          have u0 : w3.cell? ⟨z, 0, none⟩ = some (.int .i64 it) := x0.cell' rfl
          have u1 : w3.cell? ⟨z, 1, none⟩ = some (.int .i64 is) := x0.cell' rfl
          have u2 : w3.cell? ⟨z, 2, none⟩ = some (.int .i64 rt) := x0.cell' rfl
          have u3 : w3.cell? ⟨z, 3, none⟩ = some (.int .i64 rs) := x0.cell' rfl
          rw [hw3]
          clear hw3 hgd hy hyc x0 z0 z1 y2 hlk
          by_cases hy0 : y = 0
          case neg =>
            go_wp2_with (go_at_call 47; refine WH.out.mono ?_; rintro e w4 ⟨rfl, hg4⟩)
            refine bodyPost_ret (results_tmp2 rfl _ _ _) rfl ?_
            exact HNO.out _ ((G2.out.trans GD.out).trans hg4) y YC.out.symm hy0
          case pos =>
          subst hy0
          go_wp2_with (first
            | (go_at_call 47; refine WH.out.mono ?_; rintro e w4 ⟨rfl, hg4⟩; have hb4 := hg4.box X0.out; have v0 := hb4.cell' (i := 0) (v := .int .i64 it) rfl; have v1 := hb4.cell' (i := 1) (v := .int .i64 is) rfl; have v2 := hb4.cell' (i := 2) (v := .int .i64 rt) rfl; have v3 := hb4.cell' (i := 3) (v := .int .i64 rs) rfl; have v4 := hb4.cell' (i := 4) (v := .int .i32 ru) rfl; have v5 := hb4.cell' (i := 5) (v := .int .i64 st) rfl; have PUT := Lib.hid (((J2.out.still GD.out.kept).still hg4.kept).call HX.out YC.out.symm HN.out); clear hg4 hb4)
            | (go_at_call 48; refine PUT.out.mono ?_; rintro e w5 ⟨rfl, hJ5⟩))
          have J5 := Lib.hid hJ5
          have e1 : IntKind.i64.wrap ((n : Int) + 1) = (n : Int) + 1 := IntWalk.i64_in _ (by omega)
          go_roundw
          case rel => exact ⟨n + 1, by go_num, J5.out⟩
          case measure => simp [intOf]; omega
end Go.Proofs.YtlafodnaifghcaaGreat.Tr
namespace Go.Proofs.YtlafodnaifghcaaGreat.Tr
open Go.RowKit Go.Sort Go.Proofs.YtlafodnaifghcaaGreat.St Go.Proofs.YtlafodnaifghcaaGreat Go.Proofs.YtlafodnaifghcaaGreat.Gl
/-- what was there at w0 is not touched by what lies behind it -/
theorem slAt_low {α : Type} {E : Enc α} {w0 w2 w3 : World} {v : Value} {L : List α} {S : Nat → Prop} (h0 : SlAt E w0 v L) (h : SlAt E w2 v L) (hk : Kept S w2 w3) (hs : ∀ b, v.ownBlock = some b → b < w0.heap.size → ¬ S b) : SlAt E w3 v L := by
  by_cases hn : 0 < L.length
  · obtain ⟨g, o, c, rfl, _, _, hg, _⟩ := h0.one hn
    exact h.keep hk fun b hb _ => by cases hb; exact hs g rfl hg
  · have h9 : L = [] := List.eq_nil_of_length_eq_zero (by omega)
    subst h9
    rcases h with h | ⟨x, c, rfl, h1, h2, h3, _⟩
    · exact .inl h
    · exact .inr ⟨x, c, rfl, h1, h2, h3, fun i y hy => by simp at hy⟩
/-- what may be turned: the dead rows' blocks stay -/
def chg (X Y : Nat → Prop) (b : Nat) : Prop := Y b ∧ ¬ X b
/-- made behind w0: a tree of L, and a row of M apart from it; all that is theirs lies in Y -/
structure PT (X : Nat → Prop) (w0 w : World) (g : Nat) (L M : List Nd) (v : Value) (Y : Nat → Prop) : Prop where
  kept : Kept (fun _ => False) w0 w
  tree : ∃ F, TBox w g L F ∧ ∀ b, F b → chg X Y b ∧ v.ownBlock ≠ some b
  row : SlAt nodeE w v M
  rowv : RowV v M.length
  low : ∀ b, v.ownBlock = some b → Y b
  room : ∀ b, Y b → w0.heap.size ≤ b ∧ b < w.heap.size
  dead : ∀ b, X b → b < w.heap.size
section
variable {X : Nat → Prop} {w0 w w' : World} {g : Nat} {L M : List Nd} {v : Value} {Y : Nat → Prop}
theorem grown_trans {w1 w2 w3 : World} (h : w1.heap.size ≤ w2.heap.size) (h' : w2.heap.size ≤ w3.heap.size) (b : Nat) : grown (grown Y w1 w2) w2 w3 b → grown Y w1 w3 b := by
  rintro ((h9 | h9) | h9)
  · exact .inl h9
  · exact .inr ⟨h9.1, by omega⟩
  · exact .inr ⟨by omega, h9.2⟩
theorem grown_room (h : ∀ b, Y b → w0.heap.size ≤ b ∧ b < w.heap.size) (h0 : w0.heap.size ≤ w.heap.size) (h' : w.heap.size ≤ w'.heap.size) (b : Nat) : grown Y w w' b → w0.heap.size ≤ b ∧ b < w'.heap.size := by
  rintro (h9 | h9)
  · have := h b h9; omega
  · exact ⟨by omega, h9.2⟩
/-- more room -/
theorem PT.wide (h : PT X w0 w g L M v Y) {Y' : Nat → Prop} (hs : ∀ b, Y b → Y' b) (hr : ∀ b, Y' b → w0.heap.size ≤ b ∧ b < w.heap.size) : PT X w0 w g L M v Y' := by
  obtain ⟨F, h1, h2⟩ := h.tree
  exact ⟨h.kept, ⟨F, h1, fun b hb => ⟨⟨hs b (h2 b hb).1.1, (h2 b hb).1.2⟩, (h2 b hb).2⟩⟩, h.row, h.rowv, fun b hb => hs b (h.low b hb), hr, h.dead⟩
/-- what lies outside is stored into -/
theorem PT.keep (h : PT X w0 w g L M v Y) {S : Nat → Prop} (hk : Kept S w w') (hS : ∀ b, S b → w0.heap.size ≤ b ∧ ¬ Y b) : PT X w0 w' g L M v Y := by
  obtain ⟨F, h1, h2⟩ := h.tree
  exact ⟨h.kept.over hk fun b hb => (hS b hb).1, ⟨F, h1.keep hk fun b hb hs => (hS b hs).2 (h2 b hb).1.1, h2⟩, h.row.keep hk fun b hb _ hs => (hS b hs).2 (h.low b hb), h.rowv, h.low, fun b hb => ⟨(h.room b hb).1, Nat.lt_of_lt_of_le (h.room b hb).2 hk.size⟩, fun b hb => Nat.lt_of_lt_of_le (h.dead b hb) hk.size⟩
theorem PT.still (h : PT X w0 w g L M v Y) (hk : Kept (fun _ => False) w w') : PT X w0 w' g L M v Y := h.keep hk fun _ h => h.elim
theorem PT.gro (h : PT X w0 w' g L M v Y) (h0 : w0.heap.size ≤ w.heap.size) : PT X w0 w' g L M v (grown Y w w') :=
  h.wide (fun _ h => .inl h) fun b hb => hb.elim (h.room b) fun h9 => ⟨Nat.le_trans h0 h9.1, h9.2⟩
theorem PT.alike (h : PT X w0 w g L L v Y) (hlen : L.length ≤ 800000) (hr : ∀ n ∈ L, isRuneP n.rune) :
    Calls Tryz.prog 11 #[.pointer (some ⟨g, 0, none⟩), .agg #[v]] w fun e w' => e = .returned (.bool true) ∧ Kept (fun _ => False) w w' := by
  obtain ⟨F, h1, _⟩ := h.tree
  exact talike_any h1 h.row hlen hr
/-- the row alone is made anew -/
theorem PT.row_new (h : PT X w0 w g L M v Y) (hk : Kept (fun _ => False) w w') {M' : List Nd} {u : Value} (ho : w'.ownsRow w.heap.size 45 nodeE.k u M'.length (nodeE.flat M')) : PT X w0 w' g L M' u (grown Y w w') := by
  obtain ⟨F, h1, h2⟩ := h.tree
  refine ⟨h.kept.trans hk fun _ _ h => h, ⟨F, h1.still hk, fun b hb => ⟨⟨.inl (h2 b hb).1.1, (h2 b hb).1.2⟩, fun e => ?_⟩⟩, owns_slAt ho, rowV_owns ho, fun b hb => ?_, grown_room h.room h.kept.size hk.size, fun b hb => Nat.lt_of_lt_of_le (h.dead b hb) hk.size⟩
  · have := owns_new ho b e
    have := (h.room b (h2 b hb).1.1).2
    omega
  · refine .inr ⟨owns_new ho b hb, ?_⟩
    obtain ⟨_, ⟨rfl, _⟩ | ⟨g', cap, rfl, _, hO⟩⟩ := own_of ho
    · cases hb
    · cases hb; exact hO.lt
theorem PT.rins (h : PT X w0 w g L M v Y) (hlen : M.length ≤ 800000) (hI : ∀ n ∈ M, n.id.Is) (i ref : ID) (s : ByteArray) (hs : s.size ≤ 100000) :
    Calls Tryz.prog 31 #[.agg #[v], idV i, idV ref, .string s] w fun e w' => ∃ u, e = .returned (.tuple #[.agg #[u], .int .i64 (insE M i ref s.size (badB s) (runesL s 0))]) ∧ PT X w0 w' g L (insL M i ref s.size (badB s) (runesL s 0)) u (grown Y w w') ∧ Kept (fun _ => False) w w' := by
  refine (rinsert_any h.row h.rowv hlen hI i ref s hs).mono ?_
  rintro e w' ⟨⟨u, rfl, ⟨h1, rfl⟩ | ⟨h1, h2⟩⟩, hk⟩
  · refine ⟨_, rfl, ?_⟩
    unfold insL
    rw [if_pos h1]
    exact ⟨(h.still hk).gro h.kept.size, hk⟩
  · exact ⟨u, rfl, h.row_new hk h2, hk⟩
theorem PT.ins (h : PT X w0 w g L M v Y) (i ref : ID) (s : ByteArray) (hs : s.size ≤ maxLen) (hlen : L.length + countR s ≤ 900000) :
    Calls Tryz.prog 19 #[.pointer (some ⟨g, 0, none⟩), idV i, idV ref, .string s] w fun e w' => e = .returned (.int .i64 (insE L i ref s.size (badB s) (runesL s 0))) ∧ PT X w0 w' g (insL L i ref s.size (badB s) (runesL s 0)) M v (grown Y w w') ∧ Kept (chg X Y) w w' := by
  obtain ⟨F, h1, h2⟩ := h.tree
  refine (h1.insert i ref s hs hlen).mono ?_
  rintro e w' ⟨he, h3, h4⟩
  have k4 : Kept (chg X Y) w w' := h4.mono fun b _ hb => (h2 b hb).1
  refine ⟨he, ⟨h.kept.over k4 fun b hb => (h.room b hb.1).1, ⟨_, h3, ?_⟩, h.row.keep h4 (fun b hb _ e => (h2 b e).2 hb), h.rowv, fun b hb => .inl (h.low b hb), grown_room h.room h.kept.size h4.size, fun b hb => Nat.lt_of_lt_of_le (h.dead b hb) h4.size⟩, k4⟩
  rintro b (hb | hb)
  · exact ⟨⟨.inl (h2 b hb).1.1, (h2 b hb).1.2⟩, (h2 b hb).2⟩
  · exact ⟨⟨.inr hb, fun hx => by have := h.dead b hx; have := hb.1; omega⟩, fun e => by have := (h.room b (h.low b e)).2; have := hb.1; omega⟩
/-- a turn of the tree's own blocks -/
theorem PT.turned (h : PT X w0 w g L M v Y) {F : Nat → Prop} (h2 : ∀ b, F b → chg X Y b ∧ v.ownBlock ≠ some b) (hk : Kept F w w') {L' : List Nd} (h3 : TBox w' g L' F) : PT X w0 w' g L' M v Y ∧ Kept (chg X Y) w w' :=
  ⟨⟨h.kept.over hk fun b hb => (h.room b (h2 b hb).1.1).1, ⟨F, h3, h2⟩, h.row.keep hk (fun b hb _ e => (h2 b e).2 hb), h.rowv, h.low, fun b hb => ⟨(h.room b hb).1, Nat.lt_of_lt_of_le (h.room b hb).2 hk.size⟩, fun b hb => Nat.lt_of_lt_of_le (h.dead b hb) hk.size⟩, hk.mono fun b _ hb => (h2 b hb).1⟩
theorem PT.coll (h : PT X w0 w g L M v Y) (hlen : L.length ≤ 900000) :
    Calls Tryz.prog 27 #[.pointer (some ⟨g, 0, none⟩)] w fun e w' => e = .returned (.int .i64 (collN L)) ∧ PT X w0 w' g (collR L) M v Y ∧ Kept (chg X Y) w w' := by
  obtain ⟨F, h1, h2⟩ := h.tree
  exact (h1.collect hlen).mono fun _ _ ⟨he, h3, h4⟩ => ⟨he, h.turned h2 h4 h3⟩
theorem PT.rcoll (h : PT X w0 w g L M v Y) (hlen : M.length ≤ 900000) :
    Calls Tryz.prog 36 #[.agg #[v]] w fun e w' => ∃ u, e = .returned (.tuple #[.agg #[u], .int .i64 (collN M)]) ∧ PT X w0 w' g L (collR M) u (grown Y w w') ∧ Kept (fun _ => False) w w' :=
  (rcollect_any h.row hlen).mono fun _ _ ⟨⟨u, he, ho⟩, hk⟩ => ⟨u, he, h.row_new hk ho, hk⟩
theorem PT.del (h : PT X w0 w g L M v Y) (hlen : L.length ≤ 900000) {rv : Value} {rs : List Run} (hv : SlAt runE w rv rs) (hin : ∀ r ∈ rs, r.In) (hrl : rs.length ≤ 1000000000) (hvb : ∀ b, rv.ownBlock = some b → ¬ Y b) :
    Calls Tryz.prog 24 #[.pointer (some ⟨g, 0, none⟩), rv] w fun e w' => e = .returned (.int .i64 (turnN rs 1 L)) ∧ PT X w0 w' g (L.map (turnF rs 1 2)) M v Y ∧ Kept (chg X Y) w w' := by
  obtain ⟨F, h1, h2⟩ := h.tree
  exact (h1.delete hlen hv hin hrl fun b hb _ hF => hvb b hb (h2 b hF).1.1).mono fun _ _ ⟨he, h3, h4⟩ => ⟨he, h.turned h2 h4 h3⟩
theorem PT.set_ (h : PT X w0 w g L M v Y) (hlen : L.length ≤ 900000) {rv : Value} {rs : List Run} (hv : SlAt runE w rv rs) (hin : ∀ r ∈ rs, r.In) (hrl : rs.length ≤ 1000000000) (hvb : ∀ b, rv.ownBlock = some b → ¬ Y b) :
    Calls Tryz.prog 26 #[.pointer (some ⟨g, 0, none⟩), rv] w fun e w' => e = .returned (.int .i64 (turnN rs 2 L)) ∧ PT X w0 w' g (L.map (turnF rs 2 3)) M v Y ∧ Kept (chg X Y) w w' := by
  obtain ⟨F, h1, h2⟩ := h.tree
  exact (h1.settle hlen hv hin hrl fun b hb _ hF => hvb b hb (h2 b hF).1.1).mono fun _ _ ⟨he, h3, h4⟩ => ⟨he, h.turned h2 h4 h3⟩
theorem PT.rdel (h : PT X w0 w g L M v Y) (hlen : M.length ≤ 900000) {rv : Value} {rs : List Run} (hv : SlAt runE w rv rs) (hin : ∀ r ∈ rs, r.In) (hrl : rs.length ≤ 1000000) (hI : ∀ n ∈ M, n.id.Is) :
    Calls Tryz.prog 33 #[.agg #[v], rv] w fun e w' => ∃ u, e = .returned (.tuple #[.agg #[u], .int .i64 (turnN rs 1 M)]) ∧ PT X w0 w' g L (M.map (turnF rs 1 2)) u (grown Y w w') ∧ Kept (fun _ => False) w w' :=
  (rdelete_any h.row hv hin hrl hlen fun n hn => by have := hI n hn; exact ⟨by have := this.1; omega, this.2.1⟩).mono fun _ _ ⟨⟨u, he, ho⟩, hk⟩ => ⟨u, he, h.row_new hk (by rw [List.length_map]; exact ho), hk⟩
theorem PT.rset (h : PT X w0 w g L M v Y) (hlen : M.length ≤ 900000) {rv : Value} {rs : List Run} (hv : SlAt runE w rv rs) (hin : ∀ r ∈ rs, r.In) (hrl : rs.length ≤ 1000000) (hI : ∀ n ∈ M, n.id.Is) :
    Calls Tryz.prog 34 #[.agg #[v], rv] w fun e w' => ∃ u, e = .returned (.tuple #[.agg #[u], .int .i64 (turnN rs 2 M)]) ∧ PT X w0 w' g L (M.map (turnF rs 2 3)) u (grown Y w w') ∧ Kept (fun _ => False) w w' :=
  (rsettle_any h.row hv hin hrl hlen fun n hn => by have := hI n hn; exact ⟨by have := this.1; omega, this.2.1⟩).mono fun _ _ ⟨⟨u, he, ho⟩, hk⟩ => ⟨u, he, h.row_new hk (by rw [List.length_map]; exact ho), hk⟩
theorem PT.find (h : PT X w0 w g L M v Y) (hlen : L.length ≤ 900000) (i : ID) :
    Calls Tryz.prog 25 #[.pointer (some ⟨g, 0, none⟩), idV i] w fun e w' => e = .returned (.tuple #[.int .i64 (findP L i).1, .int .i64 (findP L i).2]) ∧ Kept (fun _ => False) w w' := by
  obtain ⟨F, h1, _⟩ := h.tree
  exact h1.find hlen i
theorem PT.rfind (h : PT X w0 w g L M v Y) (hlen : M.length ≤ 900000) (i : ID) :
    Calls Tryz.prog 38 #[.agg #[v], idV i] w fun e w' => e = .returned (.tuple #[.int .i64 (findP M i).1, .int .i64 (findP M i).2]) ∧ Kept (fun _ => False) w w' :=
  rfind_any h.row hlen i
theorem PT.look (h : PT X w0 w g L M v Y) (hlen : L.length ≤ 900000) (ix : Int) :
    Calls Tryz.prog 22 #[.pointer (some ⟨g, 0, none⟩), .int .i64 ix] w fun e w' => e = .returned (.tuple #[.agg #[.int .i64 (atP L ix).1.t, .int .i64 (atP L ix).1.s], .int .i64 (atP L ix).2]) ∧ Kept (fun _ => False) w w' := by
  obtain ⟨F, h1, _⟩ := h.tree
  exact h1.look hlen ix
theorem PT.rlook (h : PT X w0 w g L M v Y) (hlen : M.length ≤ 900000) (ix : Int) :
    Calls Tryz.prog 39 #[.agg #[v], .int .i64 ix] w fun e w' => e = .returned (.tuple #[.agg #[.int .i64 (atP M ix).1.t, .int .i64 (atP M ix).1.s], .int .i64 (atP M ix).2]) ∧ Kept (fun _ => False) w w' :=
  rlook_any h.row hlen ix
/-- what Span answers: the runs R and the outcome k -/
def SpanIs (L : List Nd) (ix n : Int) (R : List Run) (k : Int) : Prop := (¬ spanOk L ix n ∧ R = [] ∧ k = 3) ∨ (spanOk L ix n ∧ k = 0 ∧ ∃ T, SetOf (spanL L ix n (shL L).length) T ∧ R = packL T)
theorem PT.span (h : PT X w0 w g L M v Y) (hlen : L.length ≤ 900000) {ix n : Int} (hx : I64 ix ∧ I64 n) :
    Calls Tryz.prog 23 #[.pointer (some ⟨g, 0, none⟩), .int .i64 ix, .int .i64 n] w fun e w' => ∃ u R k, e = .returned (.tuple #[u, .int .i64 k]) ∧ SlAt runE w' u R ∧ SpanIs L ix n R k ∧ Kept (fun _ => False) w w' := by
  obtain ⟨F, h1, _⟩ := h.tree
  by_cases hok : spanOk L ix n
  · refine (h1.span hlen hok).mono ?_
    rintro e w' ⟨⟨u, T, he, hT, ho⟩, hk⟩
    exact ⟨u, packL T, 0, he, owns_slAt (E := runE) ho, .inr ⟨hok, rfl, T, hT, rfl⟩, hk⟩
  · obtain ⟨A, S, mp, h2, _⟩ := h1.at_
    refine (span_no h2 h1.doc hlen hx hok).mono ?_
    rintro e w' ⟨he, hk⟩
    exact ⟨_, [], 3, he, .inl ⟨rfl, rfl⟩, .inl ⟨hok, rfl, rfl⟩, hk⟩
theorem PT.rspan (h : PT X w0 w g L M v Y) (hlen : M.length ≤ 900000) {ix n : Int} (hx : I64 ix ∧ I64 n) :
    Calls Tryz.prog 37 #[.agg #[v], .int .i64 ix, .int .i64 n] w fun e w' => ∃ u R k, e = .returned (.tuple #[u, .int .i64 k]) ∧ SlAt runE w' u R ∧ SpanIs M ix n R k ∧ Kept (fun _ => False) w w' := by
  refine (rspan_any h.row hlen ix n hx).mono ?_
  rintro e w' ⟨⟨hno, he⟩ | ⟨hok, u, T, he, hT, ho⟩, hk⟩
  · exact ⟨_, [], 3, he, .inl ⟨rfl, rfl⟩, .inl ⟨hno, rfl, rfl⟩, hk⟩
  · exact ⟨u, packL T, 0, he, owns_slAt (E := runE) ho, .inr ⟨hok, rfl, T, hT, rfl⟩, hk⟩
theorem SpanIs.same {ix n : Int} {R R' : List Run} {k k' : Int} (h : SpanIs L ix n R k) (h' : SpanIs L ix n R' k') : R = R' ∧ k = k' := by
  rcases h with ⟨a, rfl, rfl⟩ | ⟨a, rfl, T, hT, rfl⟩ <;> rcases h' with ⟨a', rfl, rfl⟩ | ⟨a', rfl, T', hT', rfl⟩
  · exact ⟨rfl, rfl⟩
  · exact absurd a' a
  · exact absurd a a'
  · exact ⟨by rw [hT.unique hT'], rfl⟩
theorem few_len : ∀ {S M : List ID}, S.Nodup → (∀ x ∈ S, x ∈ M) → S.length ≤ M.length
  | [], _, _, _ => Nat.zero_le _
  | x :: S, M, hn, hs => by
    obtain ⟨h1, h2⟩ := List.nodup_cons.1 hn
    have hm := hs x (List.mem_cons_self ..)
    have h3 := few_len (M := M.erase x) h2 (fun y hy => (List.mem_erase_of_ne (fun e => h1 (by rw [← e]; exact hy))).2 (hs y (List.mem_cons_of_mem _ hy)))
    rw [List.length_erase_of_mem hm] at h3
    have := List.length_pos_of_mem hm
    simp only [List.length_cons]
    omega
theorem SpanIs.few {ix n : Int} {R : List Run} {k : Int} (h : SpanIs L ix n R k) (hlen : L.length ≤ 900000) : R.length ≤ 1000000000 := by
  rcases h with ⟨_, rfl, _⟩ | ⟨_, _, T, hT, rfl⟩
  · simp
  · have h1 := packL_len T
    have h2 := few_len (hT.1.imp fun {a b} h (e : a = b) => ID.lt_irrefl _ (e ▸ h)) fun x hx => ((hT.2 x).1 hx).1
    have h3 : (spanL L ix n (shL L).length).length ≤ L.length := by
      have h4 : (shL L).length ≤ L.length := List.length_filter_le _ _
      simp only [spanL, ids, List.length_take, List.length_drop, List.length_map]
      omega
    omega
theorem PT.nodes (h : PT X w0 w g L M v Y) (hlen : L.length ≤ 900000) :
    Calls Tryz.prog 40 #[.pointer (some ⟨g, 0, none⟩)] w fun e w' => (∃ a c, e = .returned (.slice a L.length c) ∧ SlAt nodeE w' (.slice a L.length c) L) ∧ Kept (fun _ => False) w w' := by
  obtain ⟨F, h1, _⟩ := h.tree
  exact h1.nodes9 hlen
/-- a tree loaded from a row is the document's other half from then on; the old one stays -/
theorem PT.load (h : PT X w0 w g L M v Y) {lv : Value} (hv : SlAt nodeE w lv L) (hlen : L.length ≤ 900000) (hz : loadC L = 0) :
    Calls Tryz.prog 12 #[lv] w fun e w' => ∃ g', e = .returned (.tuple #[.pointer (some ⟨g', 0, none⟩), .int .i64 0]) ∧ PT X w0 w' g' L M v (grown Y w w') ∧ Kept (fun _ => False) w w' := by
  obtain ⟨F, h1, _⟩ := h.tree
  have his := h1.is
  refine (load_any hv hlen).mono ?_
  rintro e w' ⟨hk, ⟨hne, _⟩ | ⟨_, g', A, S, mp, he, ht, hd, hf⟩⟩
  · exact absurd hz hne
  · have h9 := h.still hk
    have hb : TBox w' g' L fun b => w.heap.size ≤ b := ⟨⟨A, S, mp, ht, hf⟩, hd, his⟩
    exact ⟨g', he, ⟨h9.kept, ⟨_, hb.low, fun b hb => ⟨⟨.inr hb, fun hx => by have := h.dead b hx; have := hb.1; omega⟩, fun e => by have := (h.room b (h.low b e)).2; have := hb.1; omega⟩⟩, h9.row, h9.rowv, fun b hb => .inl (h9.low b hb), grown_room h.room h.kept.size hk.size, h9.dead⟩, hk⟩
end
/-- the pair at w, told from w1, where all that was its own lay in Y; what was laid between w1 and W is another's -/
structure DT (X : Nat → Prop) (w0 w1 W : World) (g : Nat) (L M : List Nd) (v : Value) (Y : Nat → Prop) (w : World) : Prop where
  pt : PT X w0 w g L M v (grown Y W w)
  kept : Kept (chg X Y) w1 w
  s0 : w0.heap.size ≤ w1.heap.size
  s1 : w1.heap.size ≤ W.heap.size
  s2 : W.heap.size ≤ w.heap.size
  own : ∀ b, Y b → w0.heap.size ≤ b ∧ b < w1.heap.size
section
variable {X : Nat → Prop} {w0 w1 W w w' : World} {g g' : Nat} {L M L' M' : List Nd} {v u : Value} {Y : Nat → Prop}
theorem PT.dt (h : PT X w0 w1 g L M v Y) (k : Kept (fun _ => False) w1 W) : DT X w0 w1 W g L M v Y W :=
  ⟨(h.still k).wide (fun _ h => .inl h) fun b hb => hb.elim ((h.still k).room b) fun h9 => by omega, k.mono fun _ _ h => h.elim, h.kept.size, k.size, Nat.le_refl _, h.room⟩
theorem DT.out (h : DT X w0 w1 W g L M v Y w) {b : Nat} (h1 : w1.heap.size ≤ b) (h2 : b < W.heap.size) : ¬ grown Y W w b := by
  rintro (h9 | h9)
  · have := (h.own b h9).2; omega
  · have := h9.1; omega
theorem DT.out9 (h : DT X w0 w1 W g L M v Y w) {b : Nat} (h1 : w1.heap.size ≤ b) (h2 : b < W.heap.size) : ¬ chg X (grown Y W w) b := fun h9 => h.out h1 h2 h9.1
theorem DT.op (h : DT X w0 w1 W g L M v Y w) (hp : PT X w0 w' g' L' M' u (grown (grown Y W w) w w')) (hk : Kept (chg X (grown Y W w)) w w') : DT X w0 w1 W g' L' M' u Y w' :=
  ⟨hp.wide (fun b hb => grown_trans h.s2 hk.size b hb) fun b hb => hb.elim (fun h9 => ⟨(h.own b h9).1, by have := (h.own b h9).2; have := h.s1; have := h.s2; have := hk.size; omega⟩) fun h9 => ⟨by have := h.s0; have := h.s1; omega, h9.2⟩, h.kept.trans hk fun i hi h9 => ⟨h9.1.elim id fun h8 => by have := h.s1; omega, h9.2⟩, h.s0, h.s1, Nat.le_trans h.s2 hk.size, h.own⟩
theorem DT.turn (h : DT X w0 w1 W g L M v Y w) (hp : PT X w0 w' g' L' M' u (grown Y W w)) (hk : Kept (chg X (grown Y W w)) w w') : DT X w0 w1 W g' L' M' u Y w' :=
  h.op (hp.wide (fun _ h => .inl h) fun b hb => hb.elim (hp.room b) fun h9 => ⟨by have := h.s0; have := h.s1; have := h.s2; omega, h9.2⟩) hk
theorem DT.next (h : DT X w0 w1 W g L M v Y w) (hp : PT X w0 w' g' L' M' u (grown (grown Y W w) w w')) (hk : Kept (fun _ => False) w w') : DT X w0 w1 W g' L' M' u Y w' :=
  h.op hp (hk.mono fun _ _ h => h.elim)
theorem DT.still (h : DT X w0 w1 W g L M v Y w) (hk : Kept (fun _ => False) w w') : DT X w0 w1 W g L M v Y w' :=
  h.turn (h.pt.still hk) (hk.mono fun _ _ h => h.elim)
/-- a store into a block that is another's -/
theorem DT.store (h : DT X w0 w1 W g L M v Y w) {x : Nat} (h1 : w1.heap.size ≤ x) (h2 : x < W.heap.size) (hk : Kept (· = x) w w') : DT X w0 w1 W g L M v Y w' := by
  have h9 : PT X w0 w' g L M v (grown Y W w) := h.pt.keep hk fun b hb => by
    subst hb
    exact ⟨Nat.le_trans h.s0 h1, h.out h1 h2⟩
  exact ⟨h9.wide (fun b hb => hb.elim .inl fun h8 => .inr ⟨h8.1, Nat.lt_of_lt_of_le h8.2 hk.size⟩) fun b hb => hb.elim (fun h8 => ⟨(h.own b h8).1, by have := (h.own b h8).2; have := h.s1; have := h.s2; have := hk.size; omega⟩) fun h8 => ⟨by have := h.s0; have := h.s1; omega, h8.2⟩, h.kept.trans hk fun i hi e => by omega, h.s0, h.s1, Nat.le_trans h.s2 hk.size, h.own⟩
theorem DT.fin (h : DT X w0 w1 W g L M v Y w) : PT X w0 w g L M v (grown Y w1 w) ∧ Kept (chg X Y) w1 w :=
  ⟨h.pt.wide (fun b hb => hb.elim .inl fun h8 => .inr ⟨Nat.le_trans h.s1 h8.1, h8.2⟩) fun b hb => hb.elim (fun h8 => ⟨(h.own b h8).1, by have := (h.own b h8).2; have := h.s1; have := h.s2; omega⟩) fun h8 => ⟨Nat.le_trans h.s0 h8.1, h8.2⟩, h.kept⟩
end
/-- the boxes of does: the document's at z, the step's and the answer's behind it -/
structure DB (z : Nat) (v u : Value) (k i1 i2 r1 r2 s rv a b : Value) (W : World) : Prop where
  b0 : Blk W z 33 #[v]
  b1 : Blk W (z + 1) 40 #[k, i1, i2, r1, r2, s, rv, a, b]
  b2 : Blk W (z + 1 + 1) 33 #[u]
section
variable {X : Nat → Prop} {w0 w1 W w w' : World} {g : Nat} {L M : List Nd} {v' : Value} {Y S : Nat → Prop} {z : Nat} {v u k i1 i2 r1 r2 s rv a b : Value}
theorem DB.keep (h : DB z v u k i1 i2 r1 r2 s rv a b w) (hk : Kept S w w') (h0 : ¬ S z) (h1 : ¬ S (z + 1)) (h2 : ¬ S (z + 1 + 1)) : DB z v u k i1 i2 r1 r2 s rv a b w' := ⟨hk.blk h0 h.b0, hk.blk h1 h.b1, hk.blk h2 h.b2⟩
theorem DB.still (h : DB z v u k i1 i2 r1 r2 s rv a b w) (hk : Kept (fun _ => False) w w') : DB z v u k i1 i2 r1 r2 s rv a b w' := h.keep hk id id id
theorem DB.op (h : DB z v u k i1 i2 r1 r2 s rv a b w) (d : DT X w0 w1 W g L M v' Y w) (hk : Kept (chg X (grown Y W w)) w w') (h1 : w1.heap.size = z) (h2 : z + 1 + 1 < W.heap.size) : DB z v u k i1 i2 r1 r2 s rv a b w' :=
  h.keep hk (d.out9 (by omega) (by omega)) (d.out9 (by omega) (by omega)) (d.out9 (by omega) (by omega))
theorem DB.cells (h : DB z v u k i1 i2 r1 r2 s rv a b w) : w.cell? ⟨z, 0, none⟩ = some v ∧ w.cell? ⟨z + 1, 0, none⟩ = some k ∧ w.cell? ⟨z + 1, 1, none⟩ = some i1 ∧ w.cell? ⟨z + 1, 2, none⟩ = some i2 ∧ w.cell? ⟨z + 1, 3, none⟩ = some r1 ∧ w.cell? ⟨z + 1, 4, none⟩ = some r2 ∧ w.cell? ⟨z + 1, 5, none⟩ = some s ∧ w.cell? ⟨z + 1, 6, none⟩ = some rv ∧ w.cell? ⟨z + 1, 7, none⟩ = some a ∧ w.cell? ⟨z + 1, 8, none⟩ = some b :=
  ⟨h.b0.cell' (i := 0) rfl, h.b1.cell' (i := 0) rfl, h.b1.cell' (i := 1) rfl, h.b1.cell' (i := 2) rfl, h.b1.cell' (i := 3) rfl, h.b1.cell' (i := 4) rfl, h.b1.cell' (i := 5) rfl, h.b1.cell' (i := 6) rfl, h.b1.cell' (i := 7) rfl, h.b1.cell' (i := 8) rfl⟩
theorem DB.ans (h : DB z v u k i1 i2 r1 r2 s rv a b w) : w.cell? ⟨z + 1 + 1, 0, none⟩ = some u ∧ w.frozen? ⟨z + 1 + 1, 0, none⟩ = false := ⟨h.b2.cell' (i := 0) rfl, h.b2.frozen 0⟩
theorem DB.set_ (h : DB z v u k i1 i2 r1 r2 s rv a b w) (x : Value) : DB z v x k i1 i2 r1 r2 s rv a b (w.setCell ⟨z + 1 + 1, 0, none⟩ x) :=
  ⟨(kept_cell w (z + 1 + 1) x).blk (by omega) h.b0, (kept_cell w (z + 1 + 1) x).blk (by omega) h.b1, h.b2.set_ 0 x⟩
theorem DB.made (w : World) (v k i1 i2 r1 r2 s rv a b u : Value) : DB w.heap.size v u k i1 i2 r1 r2 s rv a b (((w.alloc (.cells #[v] 33)).alloc (.cells #[k, i1, i2, r1, r2, s, rv, a, b] 40)).alloc (.cells #[u] 33)) ∧ Kept (fun _ => False) w (((w.alloc (.cells #[v] 33)).alloc (.cells #[k, i1, i2, r1, r2, s, rv, a, b] 40)).alloc (.cells #[u] 33)) := by
  have s1 : (w.alloc (.cells #[v] 33)).heap.size = w.heap.size + 1 := World.size_alloc ..
  have s2 : ((w.alloc (.cells #[v] 33)).alloc (.cells #[k, i1, i2, r1, r2, s, rv, a, b] 40)).heap.size = w.heap.size + 1 + 1 := by rw [World.size_alloc, s1]
  refine ⟨⟨((Blk.new w _ #[v]).alloc _).alloc _, ?_, ?_⟩, (((Kept.refl _ _).alloc _).alloc _).alloc _⟩
  · rw [← s1]; exact (Blk.new _ _ _).alloc _
  · rw [← s2]; exact Blk.new _ _ _
end
end Go.Proofs.YtlafodnaifghcaaGreat.Tr
