/- (*hearsayref13.Queue).Waits. -/
import Derived.Test.YtaaeomapbigfgaaGreatU17
import Derived.Test.YtaaeomapbigfgaaGreatU12
import Derived.BigQuiet
import Derived.Deep.DeepCutAuto
namespace Go.Proofs.YtaaeomapbigfgaaGreat
open Go.RowKit Go.Proofs.YtaaeomapbigfgaaGreat.St
open Go.Sort (grow)
theorem dlt (a b : Dot) : a.lt b ↔ (a.site < b.site ∨ (a.site = b.site ∧ a.seq < b.seq)) := by
  unfold Dot.lt ID.lt Dot.id
  exact Iff.rfl
/-- one more in its place -/
theorem ins_sorted {A B : List Dot} {d : Dot} (h : DSorted (A ++ B)) (hB : ∀ b ∈ B, d.lt b) (hA : ∀ z, A.getLast? = some z → ¬ d.lt z) : DSorted (A ++ d :: B) := by
  unfold DSorted at *
  rw [List.pairwise_append] at h ⊢
  obtain ⟨h1, h2, h3⟩ := h
  refine ⟨h1, List.pairwise_cons.2 ⟨fun b hb => ?_, h2⟩, fun a ha y hy => ?_⟩
  · have := hB b hb
    rw [dlt] at *
    omega
  · rcases List.mem_cons.1 hy with rfl | hy
    · rcases List.eq_nil_or_concat A with rfl | ⟨A', z, rfl⟩
      · simp at ha
      · have hz := hA z (by simp)
        rw [List.concat_eq_append, List.pairwise_append] at h1
        rw [List.concat_eq_append] at ha
        rcases List.mem_append.1 ha with ha | ha
        · have := h1.2.2 a ha z (by simp)
          rw [dlt] at *
          omega
        · rw [List.mem_singleton.1 ha]; exact hz
    · exact h3 a ha y hy
theorem swap_set (A B : List Dot) (z d : Dot) : ((A ++ z :: d :: B).set (A.length + 1) z).set A.length d = A ++ d :: z :: B := by
  simp
theorem size_dot : (Tryz.prog.info? 28).map (·.size) = some dotE.k := by kernel_rfl
set_option maxRecDepth 100000 in
set_option maxHeartbeats 8000000 in
theorem rwaits_any {w : World} {g : Nat} {h0 vv wv ov : Value} {W : List Ent} (hq : Blk w g 51 #[h0, vv, wv, ov]) (hW : w.ownsRow 0 42 11 wv W.length (entE.flat W)) (hl : W.length ≤ 1000000) :
    Calls Tryz.prog 60 #[.pointer (some ⟨g, 0, none⟩)] w fun r w' => ∃ v' L, r = .returned v' ∧ L.Perm (dotsOf W) ∧ DSorted L ∧ w'.ownsRow w.heap.size 28 2 v' L.length (dotE.flat L) ∧ Kept (fun _ => False) w w' := by
  have hmix : Tryz.prog.follows .mixedOrders = true := by kernel_rfl
  have HQ := Lib.hid hq
  have HW := Lib.hid hW
  have SZD := Lib.hid size_dot
  obtain ⟨wa, wc, rfl⟩ := owns_sl hW
  clear hq hW
  go_enter Tryz.func60, Tryz.ntmps60
  go_wp2_with fail
  go_loopw [3, 4] (fun lv iv wr => ∃ (n : Nat) (S : List Dot), iv = .int .i64 n ∧ n ≤ W.length ∧ S.Perm (dotsOf (W.take n)) ∧ DSorted S ∧ wr.ownsRow w.heap.size 28 dotE.k lv S.length (dotE.flat S) ∧ Kept (fun _ => False) w wr) (fun _ iv _ => W.length - (intOf iv).toNat)
  case atStart => exact ⟨0, [], rfl, Nat.zero_le _, List.Perm.refl _, List.Pairwise.nil, World.ownsRow_nil _ _ _ _, Kept.refl _ _⟩
  case round =>
    obtain ⟨n, S, rfl, hn, hp, hs, ho, hk⟩ := hrel
    have hn0 : (0 : Int) ≤ n := by omega
    have PE := Lib.hid hp
    have SO := Lib.hid hs
    have hSl : S.length = n := by rw [hp.length_eq]; simp [dotsOf]; omega
    have QR := Lib.hid (hk.blk (fun h => h) HQ.out)
    have q2 : wr.cell? ⟨g, 2, none⟩ = some (.slice wa W.length wc) := QR.out.cell' (i := 2) rfl
    have KR := Lib.hid hk
    have OW := Lib.hid ho
    clear hp hs
    by_cases hlt : n < W.length
    case neg =>
      obtain rfl : n = W.length := by omega
      have hnl : ¬ (W.length : Int) < W.length := by omega
      clear hk ho
      go_wp2_with fail
      go_ret
      exact ⟨_, rfl, S, by have := PE.out; rwa [List.take_length] at this, SO.out, OW.out, KR.out⟩
    case pos =>
      have hltI : (n : Int) < W.length := by omega
      obtain ⟨e, he⟩ := get_of_lt hlt
      obtain ⟨hl0, ⟨_, hno⟩ | ⟨b, cap, hv, hz0, hO⟩⟩ := own_of (E := entE) (owns_keep HW.out hk (fun _ _ h => h))
      · rw [hno] at hlt; simp at hlt
      injection hv with ha6 hl6 hc6
      subst ha6
      obtain rfl : cap = wc := hc6.symm
      clear hl0 hz0 hl6 hc6
      have c0 : wr.cell? ⟨b, n * 11, none⟩ = some (.int .i64 e.v.dot.site) := OwnAt.ent hO he (j := 0) rfl
      have c1 : wr.cell? ⟨b, n * 11 + 1, none⟩ = some (.int .i64 e.v.dot.seq) := OwnAt.ent hO he (j := 1) rfl
      have HE := Lib.hid he
      clear he hO
      obtain ⟨d, hd⟩ : ∃ d, e.v.dot = d := ⟨_, rfl⟩
      rw [hd] at c0 c1
      have HD := Lib.hid hd
      have LD := Lib.hid (lit_dot wr d.site d.seq)
      have O1 := Lib.hid (show (wr.alloc (.cells #[.int .i64 d.site, .int .i64 d.seq] 28)).ownsRow w.heap.size 28 dotE.k _ S.length (dotE.flat S) from ho.alloc _)
      have K1 := Lib.hid (hk.alloc (.cells #[.int .i64 d.site, .int .i64 d.seq] 28))
      have NW := Lib.hid (owns_new ho)
      have SL := Lib.hid hSl
      have hsz := Lib.hid hk.size
      clear hd ho hk hSl
      go_upto_region 6 with (at_builtin; (refine wpList_append_row dotE rfl (.tmp 16) (.tmp 25) 22 rfl w.heap.size 28 (.agg #[.int .i64 0, .int .i64 0]) 16 Tryz.underlying22 info_dot rfl rfl rfl O1.out LD.out (by have := SL.out; unfold maxLen; simp; omega) (by have := SL.out; simp; omega) (by have := hsz.out; simp; omega) ?_); (intro v2 w2 ho2 hk2; have K2 : Hid (Kept (fun _ => False) w w2) := Lib.hid (K1.out.trans hk2 (fun b hb e => by have := NW.out b e; omega)); have O2 := Lib.hid ho2; clear hk2 ho2))
      obtain ⟨hl0, ⟨_, hno⟩ | ⟨g2, cap2, hv, hz2, hO2⟩⟩ := own_of (E := dotE) O2.out
      · simp at hno
      have hml : (S ++ [d]).length = n + 1 := by have := SL.out; simp; omega
      rw [hml] at hv
      subst hv
      have OW2 := Lib.hid hO2
      have hw1 : IntKind.i64.wrap (((n + 1 : Nat) : Int) - 1) = (n : Int) := by rw [IntKind.wrap_i64]; omega
      have ZG := Lib.hid hz2
      have hcap2 : n + 1 ≤ cap2 := by have := hO2.le.1; rw [hml] at this; exact this
      clear hl0 hO2 hz2 hml c0 c1 q2 O1 K1 NW O2 OW LD
      go_wp2_with fail
      clear hw1
      generalize wr = w6 at *
      go_loopw [5] (fun kv wr => ∃ (k : Nat) (A B : List Dot), kv = .int .i64 k ∧ A.length = k ∧ S = A ++ B ∧ (∀ b ∈ B, d.lt b) ∧ OwnAt dotE wr 28 g2 cap2 (A ++ d :: B) ∧ Kept (fun _ => False) w wr) (fun kv _ => (intOf kv).toNat)
      case atStart => exact ⟨n, S, [], rfl, SL.out, by simp, fun b hb => by simp at hb, OW2.out, K2.out⟩
      case round =>
        clear OW2 K2
        obtain ⟨k, A, B, rfl, hAk, hSAB, hB, hO3, hk3⟩ := hrel
        have hk0 : (0 : Int) ≤ k := by omega
        have hkn : k ≤ n := by have h1 := SL.out; rw [hSAB, List.length_append] at h1; omega
        have hkI : (k : Int) < ((n + 1 : Nat) : Int) := by omega
        have hkc : (k : Int) < cap2 := by omega
        have SAB := Lib.hid hSAB
        have HB := Lib.hid hB
        have AK := Lib.hid hAk
        have K3 := Lib.hid hk3
        have OW := Lib.hid hO3
        have hgw := hO3.lt
        have DK : Hid ((A ++ d :: B)[k]? = some d) := Lib.hid (by rw [List.getElem?_append_right (by omega), hAk]; simp)
        have y0 := cell_grown (w := wr) hgw (show wr.cell? ⟨g2, k * 2, none⟩ = some (.int .i64 d.site) from hO3.cell DK.out (j := 0) rfl)
        have y1 := cell_grown (w := wr) hgw (show wr.cell? ⟨g2, k * 2 + 1, none⟩ = some (.int .i64 d.seq) from hO3.cell DK.out (j := 1) rfl)
        have FIN : Hid (∀ wx, Kept (fun _ => False) wr wx → (∀ z, A.getLast? = some z → ¬ d.lt z) → (A ++ d :: B).Perm (dotsOf (W.take (n + 1))) ∧ DSorted (A ++ d :: B) ∧ wx.ownsRow w.heap.size 28 dotE.k (.slice (some ⟨g2, 0, none⟩) (n + 1) cap2) (A ++ d :: B).length (dotE.flat (A ++ d :: B)) ∧ Kept (fun _ => False) w wx) := Lib.hid (fun wx hkx hz => by
          have hl1 : (A ++ d :: B).length = n + 1 := by have h1 := SL.out; rw [SAB.out, List.length_append] at h1; simp; omega
          refine ⟨?_, ins_sorted (by rw [← SAB.out]; exact SO.out) HB.out hz, ?_, K3.out.trans hkx (fun _ _ h => h)⟩
          · rw [List.take_add_one, HE.out]
            have h1 := PE.out
            rw [SAB.out] at h1
            have h2 : dotsOf (W.take n ++ (some e).toList) = dotsOf (W.take n) ++ [d] := by simp [dotsOf, HD.out]
            rw [h2]
            exact List.perm_middle.trans ((h1.cons d).trans (List.perm_append_singleton d _).symm)
          · have := (OW.out.keep hkx (fun h => h)).owns (base := w.heap.size) ZG.out
            rw [hl1] at this ⊢
            exact this)
        clear hk3 hB hSAB hAk
        by_cases hkz : k = 0
        · have t0 : decide ((0 : Int) < k) = false := decide_eq_false (by omega)
          have t0n : decide (0 < k) = false := decide_eq_false (by omega)
          have NZ : Hid (∀ z, A.getLast? = some z → ¬ d.lt z) := Lib.hid (fun z hz => by have h1 : A = [] := List.length_eq_zero_iff.1 (by rw [AK.out]; exact hkz); rw [h1] at hz; simp at hz)
          clear hO3 hkz
          go_upto_region 7 with fail
          refine wp_region_quiet_grown (by assumption) (by kernel_rfl) ?_
          repeat (go_big_quiet_step (fail))
          refine wpQuiet_nil ?_
          intro _ hw2
          obtain ⟨⟨nq, osq⟩, hw3⟩ := hw2
          subst hw3
          go_wp2_with fail
          go_roundw
          case rel => exact ⟨n + 1, A ++ d :: B, by go_num, by omega, FIN.out _ (Grew.grown _ _).kept NZ.out⟩
          case measure => simp [intOf] <;> omega
        · have t0 : decide ((0 : Int) < k) = true := decide_eq_true (by omega)
          have t0n : decide (0 < k) = true := decide_eq_true (by omega)
          obtain ⟨km, hkm⟩ : ∃ km, k = km + 1 := ⟨k - 1, by omega⟩
          rcases List.eq_nil_or_concat A with hA | ⟨A', z, hA⟩
          · have h1 := AK.out; rw [hA] at h1; simp at h1; omega
          rw [List.concat_eq_append] at hA
          subst hA
          have hA' : A'.length = km := by have h1 := AK.out; simp at h1; omega
          have DZ : Hid ((A' ++ [z] ++ d :: B)[km]? = some z) := Lib.hid (by rw [List.append_assoc, List.getElem?_append_right (by omega), hA']; simp)
          have z0 := cell_grown (w := wr) hgw (show wr.cell? ⟨g2, km * 2, none⟩ = some (.int .i64 z.site) from hO3.cell DZ.out (j := 0) rfl)
          have z1 := cell_grown (w := wr) hgw (show wr.cell? ⟨g2, km * 2 + 1, none⟩ = some (.int .i64 z.seq) from hO3.cell DZ.out (j := 1) rfl)
          have hkw : IntKind.i64.wrap ((k : Int) - 1) = (km : Int) := by rw [IntKind.wrap_i64]; omega
          have hkm0 : (0 : Int) ≤ km := by omega
          have hkmI : (km : Int) < ((n + 1 : Nat) : Int) := by omega
          have hkmc : (km : Int) < cap2 := by omega
          have HKM := Lib.hid hkm
          have AL := Lib.hid hA'
          by_cases hdz : d.lt z
          case neg =>
            have NZ : Hid (∀ y, (A' ++ [z]).getLast? = some y → ¬ d.lt y) := Lib.hid (fun y hy => by simp at hy; rw [← hy]; exact hdz)
            rw [dlt] at hdz
            have t1 : decide (d.site < z.site) = false := decide_eq_false (by omega)
            by_cases hsz : d.site = z.site
            · have t2 : (d.site == z.site) = true := beq_iff_eq.2 hsz
              have t3 : decide (d.seq < z.seq) = false := decide_eq_false (by omega)
              clear hO3 hkz hkm hA' hdz hsz
              go_upto_region 7 with fail
              refine wp_region_quiet_grown (by assumption) (by kernel_rfl) ?_
              repeat (go_big_quiet_step (fail))
              refine wpQuiet_nil ?_
              intro _ hw2
              obtain ⟨⟨nq, osq⟩, hw3⟩ := hw2
              subst hw3
              go_wp2_with fail
              go_roundw
              case rel => exact ⟨n + 1, A' ++ [z] ++ d :: B, by go_num, by omega, FIN.out _ (Grew.grown _ _).kept NZ.out⟩
              case measure => simp [intOf] <;> omega
            · have t2 : (d.site == z.site) = false := beq_eq_false_iff_ne.2 hsz
              clear hO3 hkz hkm hA' hdz hsz
              go_upto_region 7 with fail
              refine wp_region_quiet_grown (by assumption) (by kernel_rfl) ?_
              repeat (go_big_quiet_step (fail))
              refine wpQuiet_nil ?_
              intro _ hw2
              obtain ⟨⟨nq, osq⟩, hw3⟩ := hw2
              subst hw3
              go_wp2_with fail
              go_roundw
              case rel => exact ⟨n + 1, A' ++ [z] ++ d :: B, by go_num, by omega, FIN.out _ (Grew.grown _ _).kept NZ.out⟩
              case measure => simp [intOf] <;> omega
          case pos =>
            have DLZ := Lib.hid hdz
            rw [dlt] at hdz
            clear FIN
            go_upto_region 7 with fail
            go_cut [73] (fun v wx => v = .bool true ∧ Kept (fun _ => False) wr wx)
            case first =>
              by_cases hss : d.site < z.site
              · have t1 : decide (d.site < z.site) = true := decide_eq_true hss
                clear hO3 hkz hkm hA' hdz hss
                refine wp_region_quiet_grown (by assumption) (by kernel_rfl) ?_
                repeat (go_big_quiet_step (fail))
                refine wpQuiet_nil ?_
                intro _ hw2
                obtain ⟨⟨nq, osq⟩, hw3⟩ := hw2
                subst hw3
                go_wp2_with fail
                go_meet
                case rel => exact ⟨rfl, (Grew.grown _ _).kept⟩
              · have t1 : decide (d.site < z.site) = false := decide_eq_false hss
                have t2 : (d.site == z.site) = true := beq_iff_eq.2 (by omega)
                have t3 : decide (d.seq < z.seq) = true := decide_eq_true (by omega)
                clear hO3 hkz hkm hA' hdz hss
                refine wp_region_quiet_grown (by assumption) (by kernel_rfl) ?_
                repeat (go_big_quiet_step (fail))
                refine wpQuiet_nil ?_
                intro _ hw2
                obtain ⟨⟨nq, osq⟩, hw3⟩ := hw2
                subst hw3
                go_wp2_with fail
                go_meet
                case rel => exact ⟨rfl, (Grew.grown _ _).kept⟩
            case rest =>
              obtain ⟨rfl, hkx⟩ := hcut
              have hkp : (k : Int) - 1 = (km : Int) := by have := HKM.out; omega
              have OWX := Lib.hid (OW.out.keep hkx (fun h => h))
              have KX := Lib.hid (K3.out.trans hkx (fun _ _ h => h))
              have A6 := Lib.hid (Blk.new wc 28 #[.int .i64 0, .int .i64 0])
              have HKL := Lib.hid (show k < (A' ++ [z] ++ d :: B).length by have := AK.out; rw [List.length_append, this]; simp)
              have EQ : Hid ((((A' ++ [z] ++ d :: B).set k z).set km d) = A' ++ d :: z :: B) := Lib.hid (by rw [HKM.out, ← AL.out, List.append_assoc]; exact swap_set A' B z d)
              clear y0 y1 z0 z1 hkx hO3 hdz hkz hA' hkm OW K3 hkw
              go_upto_region 10 with (first
                | (refine wpList_load_elem (E := dotE) rfl 28 _ rfl (i := k) rfl OWX.out DK.out Tryz.underlying28 rfl SZD.out ?_)
                | (refine wpList_store_row rfl 28 _ _ rfl wc.heap.size #[.int .i64 d.site, .int .i64 d.seq] rfl rfl 28 #[.int .i64 0, .int .i64 0] A6.out SZD.out rfl (by simp [Value.oneCell']) ?_))
              have kA : Kept (fun _ => False) wc ((wc.alloc (.cells #[.int .i64 0, .int .i64 0] 28)).setRow wc.heap.size #[.int .i64 d.site, .int .i64 d.seq]) := ((Kept.refl _ _).alloc _).setRow (fun h => by omega) _
              have BX := Lib.hid (A6.out.row #[.int .i64 d.site, .int .i64 d.seq])
              have OW6 := Lib.hid (OWX.out.keep kA (fun h => h))
              have K6 := Lib.hid (KX.out.trans kA (fun _ _ h => h))
              have hgx : g2 < wc.heap.size := OWX.out.lt
              clear A6 kA OWX KX
              generalize wc.heap.size = bx at *
              generalize (wc.alloc (.cells #[.int .i64 0, .int .i64 0] 28)).setRow bx #[.int .i64 d.site, .int .i64 d.seq] = w6 at *
              have zg := ZG.out
              go_upto_region 11 with (first
                | (refine wpList_load_elem (E := dotE) rfl 28 _ rfl (i := km) rfl OW6.out DZ.out Tryz.underlying28 rfl SZD.out ?_)
                | (refine wpList_store_elem (E := dotE) rfl 28 (.tmp 87) (.tmp 86) rfl z (i := k) rfl rfl OW6.out HKL.out SZD.out ?_; intro w7 hO7 hk7))
              have OW7 := Lib.hid hO7
              have K7 := Lib.hid (K6.out.over hk7 (fun b h => by have h : b = g2 := h; omega))
              have B7 := Lib.hid (hk7.blk (fun h => by have h : bx = g2 := h; omega) BX.out)
              have HKM2 := Lib.hid (show km < ((A' ++ [z] ++ d :: B).set k z).length by rw [List.length_set]; have h1 := HKL.out; have h2 := HKM.out; omega)
              clear hO7 hk7 OW6 K6 BX
              go_wp2_with (first
                | (refine wpList_load_row rfl 28 _ rfl bx rfl 28 _ (0, 0) _ B7.out Tryz.underlying28 rfl SZD.out ?_)
                | (refine wpList_store_elem (E := dotE) rfl 28 (.tmp 92) (.tmp 91) rfl d (i := km) rfl rfl OW7.out HKM2.out SZD.out ?_; intro w8 hO8 hk8))
              rw [EQ.out] at hO8
              go_roundw
              case rel => exact ⟨km, A', z :: B, rfl, AL.out, by rw [SAB.out]; simp, fun b hb => by
                rcases List.mem_cons.1 hb with rfl | hb
                · exact DLZ.out
                · exact HB.out b hb, hO8, K7.out.over hk8 (fun b h => by have h : b = g2 := h; omega)⟩
              case measure => have h1 := HKM.out; simp [intOf]; omega
end Go.Proofs.YtaaeomapbigfgaaGreat
