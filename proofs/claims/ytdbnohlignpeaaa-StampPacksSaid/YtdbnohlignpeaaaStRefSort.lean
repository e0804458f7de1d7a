/- hearsayref6.sorted. -/
import Derived.Test.YtdbnohlignpeaaaStPackWalk
import Derived.Test.YtdbnohlignpeaaaStRef1
import Derived.Test.YtdbnohlignpeaaaStCheck
import Derived.Test.YtdbnohlignpeaaaStIns
namespace Go.Proofs.Ytdbnohlignpeaaa.St
open Go.RowKit

theorem own_snoc {w : World} {base n : Nat} {t : TypeId} {v : Value} {S : List ID} {z : ID} (h : w.ownsRow base t 2 v (n + 1) (idE.flat S ++ idE.enc z)) :
    ∃ g cap, v = .slice (some ⟨g, 0, none⟩) (n + 1) cap ∧ base ≤ g ∧ OwnAt idE w t g cap (S ++ [z]) := by
  rw [← idE.flat_one, ← idE.flat_append] at h
  obtain ⟨_, ⟨_, e⟩ | ⟨g, cap, h1, h2, h3⟩⟩ := own_of (E := idE) h
  · simp at e
  · exact ⟨g, cap, h1, h2, h3⟩
theorem OwnAt.owns' {w : World} {t : TypeId} {g cap n base : Nat} {D : List ID} (h : OwnAt idE w t g cap D) (hb : base ≤ g) (hn : D.length = n) : w.ownsRow base t 2 (.slice (some ⟨g, 0, none⟩) n cap) D.length (idE.flat D) := by
  subst hn; exact h.owns hb
/-- where sorted's loop stands -/
def SoRel (w : World) (L : List ID) (lv iv : Value) (wr : World) : Prop :=
  ∃ (n : Nat) (S : List ID), iv = .int .i64 n ∧ n ≤ L.length ∧ SetOf (L.take n) S ∧ S.length ≤ n ∧ wr.ownsRow w.heap.size 23 2 lv S.length (idE.flat S) ∧ Kept (fun _ => False) w wr
set_option maxRecDepth 100000 in
set_option maxHeartbeats 4000000 in
theorem sorted_any {w : World} {v : Value} {L : List ID} (h : SlAt idE w v L) (hb : L.length ≤ 1000000) : Calls Try.prog 61 #[v] w fun e w' => ∃ v' S, e = .returned v' ∧ SetOf L S ∧ S.length ≤ L.length ∧ w'.ownsRow w.heap.size 23 2 v' S.length (idE.flat S) ∧ Kept (fun _ => False) w w' := by
  obtain ⟨a, c, rfl, _, _⟩ := h.sl
  have HS := Lib.hid h
  clear h
  go_enter Try.func61, Try.ntmps61
  go_wp2_with fail
  go_loopw [3, 4] (fun lv iv wr => SoRel w L lv iv wr) (fun _ iv _ => L.length - (intOf iv).toNat)
  case atStart => exact ⟨0, [], rfl, Nat.zero_le _, ⟨List.Pairwise.nil, fun x => by simp⟩, Nat.le_refl _, World.ownsRow_nil _ _ _ _, Kept.refl _ _⟩
  case round =>
    obtain ⟨n, S, rfl, hn, hset, hSn, hown, hkw⟩ := hrel
    have SE := Lib.hid hset
    clear hset
    by_cases hlt : n < L.length
    case neg =>
      have hge : L.length ≤ n := by omega
      have OW := Lib.hid hown
      clear hown
      go_wp2_with fail
      go_ret
      exact ⟨_, S, rfl, by have := SE.out; rwa [List.take_of_length_le hge] at this, by omega, OW.out, hkw⟩
    case pos =>
      obtain ⟨ra, rc, rfl⟩ := owns_sl hown
      obtain ⟨x, hx⟩ := get_of_lt hlt
      obtain ⟨g, o, c', hv, hglt, hc⟩ := SlAt.id HS.out (by omega)
      cases hv
      have C0 := Lib.hid (hc n x hx).1
      have C1 := Lib.hid (hc n x hx).2
      have c0 := old_cell hkw C0.out
      have c1 := old_cell hkw C1.out
      have X0 := Lib.hid hx
      clear hc hx
      have hn0 : (0 : Int) ≤ n := by omega
      have hnl : (n : Int) < L.length := by omega
      have hisd := isid_core x.t x.s wr
      cases hb : isB x
      · have IB := Lib.hid hb
        have OW := Lib.hid hown
        rw [show isB ⟨x.t, x.s⟩ = false from hb] at hisd
        clear hb hown
        go_wp2_with fail
        refine hisd.mono ?_
        rintro e w1 ⟨rfl, hg1⟩
        go_wp2_with fail
        go_roundw
        case rel => exact ⟨n + 1, S, by go_num, by omega, setOf_skip SE.out X0.out IB.out, by omega, owns_keep OW.out hg1.kept (fun _ _ h => h), hkw.trans hg1.kept (fun _ _ h => h)⟩
        case measure => simp [intOf] <;> omega
      · have IB := Lib.hid hb
        rw [show isB ⟨x.t, x.s⟩ = true from hb] at hisd
        clear hb
        have OW := Lib.hid hown
        have hSl : S.length ≤ 1000000 := by omega
        clear hown
        go_wp2_with fail
        refine hisd.mono ?_
        rintro e w1 ⟨rfl, hg1⟩
        have c0 := old_cell hg1.kept c0
        have c1 := old_cell hg1.kept c1
        have OW1 := Lib.hid (owns_keep OW.out hg1.kept (fun _ _ h => h))
        have K1 := Lib.hid (hkw.trans hg1.kept (fun _ _ h => h))
        clear hg1 hkw OW hisd
        go_wp2_with fail
        go_loopw [5] (fun kv w2 => ∃ k : Nat, kv = .int .i64 k ∧ k ≤ S.length ∧ (∀ (j : Nat) (y : ID), k ≤ j → S[j]? = some y → x.lt y) ∧ Kept (fun _ => False) w1 w2) (fun kv _ => (intOf kv).toNat)
        case atStart => exact ⟨S.length, rfl, Nat.le_refl _, (fun j y hj hy => by rw [List.getElem?_eq_none hj] at hy; cases hy), Kept.refl _ _⟩
        case round =>
          obtain ⟨k, rfl, hk, hhi, hk2⟩ := hrel
          have HHI := Lib.hid hhi
          clear hhi
          have OW2 := Lib.hid (owns_keep OW1.out hk2 (fun _ _ h => h))
          have K2 := Lib.hid (K1.out.trans hk2 (fun _ _ h => h))
          have HK2 := Lib.hid hk2
          have c0 := old_cell hk2 c0
          have c1 := old_cell hk2 c1
          have hkl : (k : Int) ≤ S.length := by omega
          clear hk2
          have hcs : (∃ m p, k = m + 1 ∧ S[m]? = some p ∧ (x.lt p ∨ p = x ∨ p.lt x)) ∨ k = 0 := by
            cases k with
            | zero => exact .inr rfl
            | succ m =>
              obtain ⟨p, hp⟩ := get_of_lt (show m < S.length by omega)
              exact .inl ⟨m, p, rfl, hp, (ID.lt_or x p).imp_right (Or.imp_left Eq.symm)⟩
          rcases hcs with ⟨m, p, rfl, hp, hcs⟩ | hk0
          obtain ⟨_, ⟨_, hno⟩ | ⟨g2, cap2, hv2, hgb2, hO⟩⟩ := own_of (E := idE) OW2.out
          · rw [hno] at hp; simp at hp
          cases hv2
          obtain ⟨q0, q1⟩ := OwnAt.id hO hp
          have P0 := Lib.hid hp
          have hm0 : (0 : Int) ≤ m := by omega
          have hml : (m : Int) < S.length := by omega
          have hw1 : IntKind.i64.wrap (m : Int) = (m : Int) := IntWalk.i64_in _ (by omega)
          have hd : decide ((0 : Int) < (m : Int) + 1) = true := decide_eq_true (by omega)
          clear hp hO
          rcases hcs with hpx | hpx | hpx
          · have hd2 : decide ((0 : Int) < p.cmp x) = true := decide_eq_true (cmp_gt.2 hpx)
            have HPX := Lib.hid hpx
            clear hpx
            go_wp2_with fail
            go_region_held3 (fun w' => w'.cell? ⟨g, o + n * 2, none⟩ = some (.int .i64 x.t) ∧ w'.cell? ⟨g, o + n * 2 + 1, none⟩ = some (.int .i64 x.s) ∧ w'.cell? ⟨g2, m * 2, none⟩ = some (.int .i64 p.t) ∧ w'.cell? ⟨g2, m * 2 + 1, none⟩ = some (.int .i64 p.s)) (first | exact ⟨c0, c1, q0, q1⟩) (first | (go_simp; go_at_call 14; refine (rcompare_any p x _).mono ?_; rintro e w2 ⟨rfl, hg2⟩; have c0 := old_cell hg2.kept c0; have c1 := old_cell hg2.kept c1; have q0 := old_cell hg2.kept q0; have q1 := old_cell hg2.kept q1))
            go_wp2_with fail
            go_roundw
            case rel =>
              refine ⟨m, by go_num, by omega, fun j y hj hy => ?_, HK2.out.drew.trans hg2.kept (fun _ _ h => h)⟩
              by_cases hjm : j = m
              · subst hjm; cases Option.some.inj (P0.out.symm.trans hy); exact HPX.out
              · exact HHI.out j y (by omega) hy
            case measure => simp [intOf] <;> omega
          · subst hpx
            have hd2 : decide ((0 : Int) < p.cmp p) = false := by rw [cmp_zero.2 rfl]; decide
            go_wp2_with fail
            go_region_held3 (fun w' => w'.cell? ⟨g, o + n * 2, none⟩ = some (.int .i64 p.t) ∧ w'.cell? ⟨g, o + n * 2 + 1, none⟩ = some (.int .i64 p.s) ∧ w'.cell? ⟨g2, m * 2, none⟩ = some (.int .i64 p.t) ∧ w'.cell? ⟨g2, m * 2 + 1, none⟩ = some (.int .i64 p.s)) (first | exact ⟨c0, c1, q0, q1⟩) (first | (go_simp; go_at_call 14; refine (rcompare_any p p _).mono ?_; rintro e w2 ⟨rfl, hg2⟩; have c0 := old_cell hg2.kept c0; have c1 := old_cell hg2.kept c1; have q0 := old_cell hg2.kept q0; have q1 := old_cell hg2.kept q1))
            go_wp2_with fail
            have hk3 := HK2.out.drew.trans hg2.kept (fun _ _ h => h)
            have OW3 := Lib.hid (owns_keep OW1.out hk3 (fun _ _ h => h))
            have K3 := Lib.hid (K1.out.trans hk3 (fun _ _ h => h))
            clear hk3 hg2
            go_quiet (fail)
            go_wp2_with fail
            go_roundw
            case rel => exact ⟨n + 1, S, by go_num, by omega, setOf_same SE.out X0.out (List.mem_of_getElem? P0.out), by omega, owns_keep OW3.out ((Kept.refl _ _).drewN _) (fun _ _ h => h), K3.out.drewN _⟩
            case measure => simp [intOf] <;> omega
          have HLO := Lib.hid (rising_low SE.out.1 P0.out hpx)
          have hd2 : decide ((0 : Int) < p.cmp x) = false := decide_eq_false (fun e => ID.lt_irrefl p (ID.lt_trans hpx (cmp_gt.1 e)))
          have hne : p ≠ x := fun e => ID.lt_irrefl p (e ▸ hpx)
          rcases (eq_cases p x).resolve_left hne with ⟨_, e1⟩ | ⟨_, e1, e2⟩
          focus
            clear hpx hne
            go_wp2_with fail
            go_region_held3 (fun w' => w'.cell? ⟨g, o + n * 2, none⟩ = some (.int .i64 x.t) ∧ w'.cell? ⟨g, o + n * 2 + 1, none⟩ = some (.int .i64 x.s) ∧ w'.cell? ⟨g2, m * 2, none⟩ = some (.int .i64 p.t) ∧ w'.cell? ⟨g2, m * 2 + 1, none⟩ = some (.int .i64 p.s)) (first | exact ⟨c0, c1, q0, q1⟩) (first | (go_simp; go_at_call 14; refine (rcompare_any p x _).mono ?_; rintro e w2 ⟨rfl, hg2⟩; have c0 := old_cell hg2.kept c0; have c1 := old_cell hg2.kept c1; have q0 := old_cell hg2.kept q0; have q1 := old_cell hg2.kept q1))
            go_wp2_with fail
            go_quiet (fail)
            have hk3 := (HK2.out.drew.trans hg2.kept (fun _ _ h => h)).drewN nq
            generalize w2.drewN nq = W at *
            have OW3 := Lib.hid (owns_keep OW1.out hk3 (fun _ _ h => h))
            have K3 := Lib.hid (K1.out.trans hk3 (fun _ _ h => h))
            clear hk3 hg2 HK2 K2 OW2 OW1 K1 c0 c1 q0 q1 hd hd2 hw1 hm0 hml P0
            rw [show (m : Int) + 1 = ((m + 1 : Nat) : Int) from rfl]
            generalize m + 1 = k at *
            generalize (some (⟨g2, 0, none⟩ : Addr)) = ra at *
          rotate_left
          focus
            clear hpx hne
            go_wp2_with fail
            go_region_held3 (fun w' => w'.cell? ⟨g, o + n * 2, none⟩ = some (.int .i64 x.t) ∧ w'.cell? ⟨g, o + n * 2 + 1, none⟩ = some (.int .i64 x.s) ∧ w'.cell? ⟨g2, m * 2, none⟩ = some (.int .i64 p.t) ∧ w'.cell? ⟨g2, m * 2 + 1, none⟩ = some (.int .i64 p.s)) (first | exact ⟨c0, c1, q0, q1⟩) (first | (go_simp; go_at_call 14; refine (rcompare_any p x _).mono ?_; rintro e w2 ⟨rfl, hg2⟩; have c0 := old_cell hg2.kept c0; have c1 := old_cell hg2.kept c1; have q0 := old_cell hg2.kept q0; have q1 := old_cell hg2.kept q1))
            go_wp2_with fail
            go_quiet (fail)
            have hk3 := (HK2.out.drew.trans hg2.kept (fun _ _ h => h)).drewN nq
            generalize w2.drewN nq = W at *
            have OW3 := Lib.hid (owns_keep OW1.out hk3 (fun _ _ h => h))
            have K3 := Lib.hid (K1.out.trans hk3 (fun _ _ h => h))
            clear hk3 hg2 HK2 K2 OW2 OW1 K1 c0 c1 q0 q1 hd hd2 hw1 hm0 hml P0
            rw [show (m : Int) + 1 = ((m + 1 : Nat) : Int) from rfl]
            generalize m + 1 = k at *
            generalize (some (⟨g2, 0, none⟩ : Addr)) = ra at *
          rotate_left
          focus
            have hd : decide ((0 : Int) < k) = false := decide_eq_false (by omega)
            have hd' : decide (0 < k) = false := decide_eq_false (by omega)
            have hlo : ∀ y ∈ S.take k, y.lt x := by rw [hk0]; simp
            have HLO := Lib.hid hlo
            clear hk0 hlo
            go_wp2_with fail
            go_quiet (fail)
            go_wp2_with fail
            have HQ := Lib.hid (HK2.out.drewN nq)
            generalize wr.drewN nq = W0 at *
            go_quiet (fail)
            have hk3 := HQ.out.drewN nq
            generalize W0.drewN nq = W at *
            have OW3 := Lib.hid (owns_keep OW1.out hk3 (fun _ _ h => h))
            have K3 := Lib.hid (K1.out.trans hk3 (fun _ _ h => h))
            clear hk3 HQ HK2 K2 OW2 OW1 K1 c0 c1 hd hd'
          all_goals
            have hglw : g < w.heap.size := hglt
            have hgb : ∀ b, (Value.slice ra S.length rc).ownBlock = some b → w.heap.size ≤ b := fun b e => by
              rcases OW3.out.2 with ⟨e2, _⟩ | ⟨g3, c2, cur, e2, h1, h2, _⟩
              · rw [e2] at e; cases e
              · rw [e2] at e; cases e; exact h1
            have HGB := Lib.hid hgb
            obtain ⟨i0, hi, hz0, hz1, hz2⟩ := info_parts info_id
            have I := Lib.hid hi
            have Z0 := Lib.hid hz0
            have Z1 := Lib.hid hz1
            have Z2 := Lib.hid hz2
            have hone : ∀ u ∈ [Value.int .i64 0, .int .i64 0], u.oneCell' = true := by simp [Value.oneCell']
            have H1 := Lib.hid hone
            have hnw : ∀ j u, [Value.int .i64 0, .int .i64 0][j]? = some u → (W.alloc (.cells #[.int .i64 0, .int .i64 0] 23)).cell? ((⟨W.heap.size, 0, none⟩ : Addr).add j) = some u := fun j u hu => by
              rw [Addr.add_lit, Nat.zero_add]
              have hb := Blk.new W 23 #[.int .i64 0, .int .i64 0]
              refine hb.cell' ?_
              rw [← Array.getElem?_toList]
              exact hu
            have NW := Lib.hid hnw
            have h63 : S.length + 1 ≤ maxLen := by unfold maxLen; omega
            have hby : (S.length + 1) * 16 ≤ 140737488355328 := by omega
            have hbase : w.heap.size ≤ W.heap.size := K3.out.size
            have hown2 := OW3.out.alloc (.cells #[.int .i64 0, .int .i64 0] 23)
            have OW4 := Lib.hid hown2
            have K4 := Lib.hid (K3.out.alloc (.cells #[.int .i64 0, .int .i64 0] 23))
            have hws : IntKind.i64.wrap (S.length : Int) = (S.length : Int) := IntWalk.i64_in _ (by omega)
            clear hi hz0 hz1 hz2 hone hnw hown2 hgb OW3 K3
            go_wp2_with (at_builtin; (refine wpList_append_own _ rfl (.tmp 52) (.tmp 54) 28 rfl w.heap.size 23 i0 (.agg #[.int .i64 0, .int .i64 0]) 2 16 Try.underlying28 I.out Z0.out Z1.out Z2.out rfl (by decide) _ _ _ rfl OW4.out ⟨W.heap.size, 0, none⟩ 1 1 [.int .i64 0, .int .i64 0] rfl rfl NW.out H1.out h63 hby (by simp; omega) ?_); (intro v' w5 hown5 hgrow0 _); have hgrow : World.grownBy _ w5 (Value.slice ra S.length rc).ownBlock := hgrow0; clear hgrow0; obtain ⟨g3, cap3, rfl, hgb3, hO5⟩ := own_snoc (z := ID.zero) hown5; have hkg : Kept (fun b => (Value.slice ra S.length rc).ownBlock = some b) _ w5 := Kept.grown (Kept.refl _ _) hgrow (fun k e _ => e); have K5 := Lib.hid (K4.out.trans hkg (fun i hi e => by have := HGB.out i e; omega)); have O5 := Lib.hid hO5; clear hkg hgrow hown5 hO5 K4 OW4 NW)
            go_loopw [6] (fun jv w6 => ∃ (j : Nat) (u : ID), jv = .int .i64 j ∧ k ≤ j ∧ j ≤ S.length ∧ OwnAt idE w6 23 g3 cap3 (ins S j u) ∧ Kept (· = g3) w5 w6) (fun jv _ => (intOf jv).toNat)
            case atStart => exact ⟨S.length, ID.zero, by go_num, hk, Nat.le_refl _, by rw [ins_all]; exact O5.out, Kept.refl _ _⟩
            case round =>
              obtain ⟨j, u, rfl, hkj, hjl, hO, hk6⟩ := hrel
              have hlen := ins_len u hjl
              by_cases hjk : k < j
              case pos =>
                obtain ⟨m2, rfl⟩ : ∃ m2, j = m2 + 1 := ⟨j - 1, by omega⟩
                obtain ⟨p2, hp2⟩ := get_of_lt (show m2 < S.length by omega)
                obtain ⟨d0, d1⟩ := OwnAt.id hO (i := m2) (x := p2) (by rw [ins_low u hjl (by omega)]; exact hp2)
                obtain ⟨e0, e1⟩ := OwnAt.id hO (i := m2 + 1) (x := u) (ins_get u hjl)
                have f0 := hO.frozen ((m2 + 1) * 2)
                have f1 := hO.frozen ((m2 + 1) * 2 + 1)
                have hm20 : (0 : Int) ≤ m2 := by omega
                have hm2l : (m2 : Int) < (S.length : Int) + 1 := by omega
                have hm3l : (m2 : Int) + 1 < (S.length : Int) + 1 := by omega
                have hjkI : (k : Int) < (m2 : Int) + 1 := by omega
                have hw2 : IntKind.i64.wrap (m2 : Int) = (m2 : Int) := IntWalk.i64_in _ (by omega)
                have HO := Lib.hid hO
                have P2 := Lib.hid hp2
                have LN := Lib.hid hlen
                clear hO hp2 hlen
                go_wp2_with fail
                go_roundw
                case rel => exact ⟨m2, p2, by go_num, by omega, by omega, by rw [← ins_shift u P2.out]; exact OwnAt.set2 HO.out (by have := LN.out; omega) rfl rfl, (hk6.setCell (fun _ => rfl) _).setCell (fun _ => rfl) _⟩
                case measure => simp [intOf] <;> omega
              case neg =>
                obtain rfl : k = j := by omega
                have K6 := Lib.hid (Kept.newer K5.out hk6 hgb3)
                have c0 := old_cell K6.out C0.out
                have c1 := old_cell K6.out C1.out
                obtain ⟨e0, e1⟩ := OwnAt.id hO (i := k) (x := u) (ins_get u hjl)
                have f0 := hO.frozen (k * 2)
                have f1 := hO.frozen (k * 2 + 1)
                have hkl1 : (k : Int) < (S.length : Int) + 1 := by omega
                have hk00 : (0 : Int) ≤ k := by omega
                have HO := Lib.hid hO
                have LN := Lib.hid hlen
                clear hO hlen
                go_wp2_with fail
                go_roundw
                case rel => exact ⟨n + 1, ins S k x, by go_num, by omega, setOf_ins SE.out X0.out IB.out HLO.out HHI.out, by rw [ins_len x hjl]; omega, by rw [← ins_set u x hjl]; exact OwnAt.owns' (OwnAt.set2 HO.out (by have := LN.out; omega) rfl rfl) hgb3 (by rw [List.length_set]; exact LN.out), Kept.newer K6.out (((Kept.refl (· = g3) _).setCell (fun _ => rfl) _).setCell (fun _ => rfl) _) hgb3⟩
                case measure => simp [intOf] <;> omega
end Go.Proofs.Ytdbnohlignpeaaa.St
