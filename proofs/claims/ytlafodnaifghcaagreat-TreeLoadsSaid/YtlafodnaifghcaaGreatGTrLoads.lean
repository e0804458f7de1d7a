/- hearsaylaw11.TreeLoads, walked. -/
import Derived.Test.YtlafodnaifghcaaGreatG40
namespace Go.Proofs.YtlafodnaifghcaaGreat.Tr
open Go.RowKit Go.Sort Go.Proofs.YtlafodnaifghcaaGreat.St Go.Proofs.YtlafodnaifghcaaGreat Go.Proofs.YtlafodnaifghcaaGreat.Gl
attribute [local go_sem] Oper.semAt_some
theorem size_node2 : (Tryz.prog.info? 45).map (·.size) = some nodeE.k := by kernel_rfl
set_option maxRecDepth 100000 in
set_option maxHeartbeats 8000000 in
theorem loads_any {w : World} {v u : Value} {D : List Nd} {L : List StV} (hd : SlAt nodeE w v D) (h : SlAt stE w u L) (hs : StepsIn w L) :
    Calls Tryz.prog 5 #[v, u] w fun e w' => e = .returned (.bool true) ∧ Kept (fun _ => False) w w' := by
  obtain ⟨la, lc, rfl, _, _⟩ := h.sl
  obtain ⟨da, dc, rfl, _, _⟩ := hd.sl
  have HD := Lib.hid hd
  have HL := Lib.hid h
  have HS := Lib.hid hs
  have MU := Lib.hid (much_any h fun s hm => by obtain ⟨rs, h9⟩ := hs s hm; exact h9.text)
  clear h hs hd
  by_cases hbig : 400 < D.length
  case pos =>
    have hbI : (400 : Int) < D.length := by omega
    clear hbig
    go_enter Tryz.func5, Tryz.ntmps5
    go_wp2_with (go_at_call 8; refine (known_any _).mono ?_; rintro e w1 ⟨rfl, hk⟩)
    go_ret
    exact ⟨rfl, hk⟩
  case neg =>
  have hbI : ¬ (400 : Int) < D.length := by omega
  have DL := Lib.hid (show D.length ≤ 400 by omega)
  have NW : Hid (w.ownsRow w.heap.size 45 nodeE.k (.slice none 0 0) ([] : List Nd).length (nodeE.flat [])) := Lib.hid (World.ownsRow_nil ..)
  clear hbig
  go_enter Tryz.func5, Tryz.ntmps5
  go_upto_region 3 with (first
    | (go_at_call 7; refine MU.out.mono ?_; rintro e w1 ⟨b, rfl, hfew, rfl⟩)
    | (go_at_call 8; refine (known_any _).mono ?_; rintro e w1 ⟨rfl, hk⟩))
  · go_ret
    exact ⟨rfl, hk⟩
  have hbf : b = false := by assumption
  subst hbf
  have FW := Lib.hid (hfew rfl)
  have FL := FW.out.len
  clear hfew MU
  go_upto_region 5 with (at_builtin; (refine wpList_append_row nodeE rfl (.tmp 21) (.tmp 22) 31 rfl w.heap.size 45 _ 48 Tryz.underlying31 info_node rfl rfl rfl NW.out HD.out (by have := DL.out; simp only [List.length_nil]; unfold maxLen; omega) (by have := DL.out; simp only [List.length_nil]; omega) (Nat.le_refl _) ?_); intro v1 w1 ho1 hk1; rw [List.nil_append] at ho1; have K1 : Hid (Kept (fun _ => False) w w1) := Lib.hid (hk1.mono (fun b _ e => by have e : (Value.slice none 0 0).ownBlock = some b := e; cases e)); have O1 := Lib.hid ho1; clear ho1 hk1)
  have ka : Kept (fun _ => False) w1 (w1.alloc (.cells #[.int .i64 0, .int .i64 0, .int .i64 0, .int .i64 0, .int .i32 0, .int .i64 777] 45)) := (Kept.refl _ _).alloc _
  have LR := Lib.hid (lit_node7 w1 777)
  have OL := Lib.hid (owns_keep O1.out ka fun _ _ h => h)
  have KL := Lib.hid (K1.out.trans ka fun _ _ h => h)
  clear ka
  go_upto_region 6 with (at_builtin; (refine wpList_append_row nodeE rfl (.tmp 24) (.tmp 26) 31 rfl w.heap.size 45 _ 48 Tryz.underlying31 info_node rfl rfl rfl OL.out LR.out (by have := DL.out; show D.length + 1 ≤ maxLen; unfold maxLen; omega) (by have := DL.out; show (D.length + 1) * 48 ≤ 140737488355328; omega) KL.out.size ?_); intro v2 w2 ho2 hk2; have K2 : Hid (Kept (fun _ => False) w w2) := Lib.hid (KL.out.over hk2 fun b hb => owns_new O1.out b hb); have O2 := Lib.hid ho2; clear ho2 hk2)
  obtain ⟨_, ⟨_, hno⟩ | ⟨gx, cx, hv, hzg, hO⟩⟩ := own_of (E := nodeE) O2.out
  · simp at hno
  have hm : (D ++ [(⟨⟨0, 0⟩, ⟨0, 0⟩, 0, 777⟩ : Nd)]).length = D.length + 1 := by simp
  have hle := hO.le
  rw [hm] at hv hle
  unfold maxLen at hle
  subst hv
  have hgc : (D.length : Int) ≤ cx := by omega
  have hgi : (D.length : Int) ≤ (D.length : Int) + 1 := by omega
  have hgj : (D.length : Int) < (D.length : Int) + 1 := by omega
  have OX := Lib.hid hO
  have HZ : Hid (w.heap.size ≤ gx ∧ gx < w2.heap.size) := Lib.hid ⟨hzg, hO.lt⟩
  have SX : Hid (SlAt nodeE w2 (.slice (some ⟨gx, 0, none⟩) D.length cx) D) := Lib.hid (by
    have h9 := own_pre7 hO (n := D.length) (by simp)
    rwa [List.take_left' rfl] at h9)
  have HD2 := Lib.hid (HD.out.kept K2.out)
  have RL := Lib.hid (fun (W : World) (hk : Kept (fun _ => False) w2 W) => rload_any (HD2.out.kept hk) (by have := DL.out; omega))
  have LO := Lib.hid (load_any SX.out (by have := DL.out; omega))
  have LN := Lib.hid (fun (W : World) (hk : Kept (fun _ => False) w2 W) => (lnodes_eq (SX.out.kept hk) (HD2.out.kept hk) (by have := DL.out; omega)))
  have CX : Hid (∀ W, Kept (fun _ => False) w2 W → W.cell? ⟨gx, D.length * 6 + 5, none⟩ = some (.int .i64 777)) := Lib.hid fun W hk => (OX.out.keep hk fun h => h).cell (i := D.length) (j := 5) (x := ⟨⟨0, 0⟩, ⟨0, 0⟩, 0, 777⟩) (by simp) rfl
  clear hO hm hzg O2 O1 OL LR KL K1 NW
  by_cases hz : loadC D = 0
  case neg =>
    obtain ⟨E, hE⟩ : ∃ E, loadC D = E := ⟨_, rfl⟩
    have LO2 : Hid (Calls Tryz.prog 12 #[.slice (some ⟨gx, 0, none⟩) D.length cx] w2 fun e w' => e = .returned (.tuple #[.pointer none, .int .i64 E]) ∧ Kept (fun _ => False) w2 w') := Lib.hid (LO.out.mono fun e w' h9 => by
      obtain ⟨hk, ⟨_, he⟩ | ⟨h0, _⟩⟩ := h9
      · rw [← hE]; exact ⟨he, hk⟩
      · exact absurd h0 hz)
    have RL2 : Hid (∀ W, Kept (fun _ => False) w2 W → Calls Tryz.prog 13 #[.slice da D.length dc] W fun e w' => e = .returned (.tuple #[.agg #[.slice none 0 0], .int .i64 E]) ∧ Kept (fun _ => False) w2 w') := Lib.hid fun W hk => (RL.out W hk).mono fun e w' h9 => by
      obtain ⟨⟨u, he, ⟨_, rfl⟩ | ⟨h0, _⟩⟩, hk2⟩ := h9
      · rw [← hE]; exact ⟨he, hk.trans hk2 fun _ _ h => h⟩
      · exact absurd h0 hz
    have hE0 : ¬ E = 0 := by rw [← hE]; exact hz
    clear hz hE RL LO
    go_wp2_with (first
      | (go_at_call 12; refine LO2.out.mono ?_; rintro e w3 ⟨rfl, hk3⟩; have K3 := Lib.hid hk3; clear hk3)
      | (go_at_call 13; refine (RL2.out _ K3.out).mono ?_; rintro e w4 ⟨rfl, hk4⟩; have K4 := Lib.hid (hk4.alloc (.cells #[.slice none 0 0] 33)); have hx := CX.out _ K4.out; clear hk4)
      | (go_at_call 14; refine (LN.out _ K4.out).mono ?_; rintro e w5 ⟨rfl, q, rfl⟩)
      | (go_at_call 8; refine (known_any _).mono ?_; rintro e w6 ⟨rfl, hk6⟩))
    · exfalso
      have h9 : (!E != 0) = true := by assumption
      simp [hE0] at h9
    · go_ret
      exact ⟨rfl, (K2.out.trans (K4.out.drewN q) fun _ _ h => h).trans hk6 fun _ _ h => h⟩
  case pos =>
    have LO2 : Hid (Calls Tryz.prog 12 #[.slice (some ⟨gx, 0, none⟩) D.length cx] w2 fun e w' => ∃ g A S mp, e = .returned (.tuple #[.pointer (some ⟨g, 0, none⟩), .int .i64 0]) ∧ TAt w' g D A S mp ∧ Doc D ∧ (∀ b, foot g D A S mp b → w2.heap.size ≤ b) ∧ Kept (fun _ => False) w2 w') := Lib.hid (LO.out.mono fun e w' h9 => by
      obtain ⟨hk, ⟨h0, _⟩ | ⟨_, g, A, S, mp, he, h1, h2, h3⟩⟩ := h9
      · exact absurd hz h0
      · exact ⟨g, A, S, mp, he, h1, h2, h3, hk⟩)
    have RL2 : Hid (∀ W, Kept (fun _ => False) w2 W → Calls Tryz.prog 13 #[.slice da D.length dc] W fun e w' => ∃ ua uc, e = .returned (.tuple #[.agg #[.slice ua D.length uc], .int .i64 0]) ∧ w'.ownsRow W.heap.size 45 6 (.slice ua D.length uc) D.length (nodeE.flat D) ∧ Kept (fun _ => False) W w') := Lib.hid fun W hk => (RL.out W hk).mono fun e w' h9 => by
      obtain ⟨⟨u, he, ⟨h0, _⟩ | ⟨_, ho⟩⟩, hk2⟩ := h9
      · exact absurd hz h0
      · rw [hz] at he
        obtain ⟨ua, uc, rfl⟩ := owns_sl ho
        exact ⟨ua, uc, he, ho, hk2⟩
    have ZD := Lib.hid hz
    have OK0 : Hid (OkN D 400) := Lib.hid ⟨DL.out, fun n hn => (load_each hz n hn).2⟩
    clear hz RL LO
    go_upto_region 7 with (go_at_call 12; refine LO2.out.mono ?_; rintro e w3 ⟨g, A, S, mp, rfl, ht, hdo, hf, hk3⟩; have K3 := Lib.hid hk3; have T3 := Lib.hid ht; have D3 := Lib.hid hdo; have F3 := Lib.hid hf; clear hk3 ht hdo hf)
    go_upto_region 8 with (go_at_call 13; refine (RL2.out _ K3.out).mono ?_; rintro e w4 ⟨ua, uc, rfl, ho, hk4⟩; have J := Lib.hid (pj_loaded K2.out K3.out hk4 ZD.out T3.out D3.out F3.out ho); have K4 := Lib.hid ((K3.out.trans hk4 fun _ _ h => h).alloc (.cells #[.slice ua D.length uc] 33)); have hx := CX.out _ K4.out; have S4 := Lib.hid hk4.size; clear ho hk4)
    obtain ⟨z, hzz⟩ : ∃ z, w4.heap.size = z := ⟨_, rfl⟩
    obtain ⟨w5, hw5⟩ : ∃ w5, w4.alloc (.cells #[.slice ua D.length uc] 33) = w5 := ⟨_, rfl⟩
    have GZ : Hid (¬ gx = z) := Lib.hid (by have h1 := HZ.out.2; have h2 := K3.out.size; have h3 := S4.out; rw [← hzz]; omega)
    rw [hzz, hw5] at J
    rw [hw5] at K4 hx
    rw [hzz, hw5]
    clear hzz hw5 LO2 RL2 T3 D3 F3 K3 CX S4
    go_wp2_with (go_at_call 14; refine (LN.out _ K4.out).mono ?_; rintro e w6 ⟨rfl, q, rfl⟩)
    have J6 := Lib.hid (J.out.still ((Kept.refl _ _).drewN q))
    have OX6 := Lib.hid (OX.out.keep (K4.out.drewN q) fun h => h)
    have SZD := Lib.hid size_node2
    clear LN K4 OX SX HD2 hx J
    go_loopw [10] (fun iv wr => ∃ (n : Nat) (X : List Nd), iv = .int .i64 n ∧ n ≤ D.length ∧ X.length = D.length + 1 ∧ OwnAt nodeE wr 45 gx cx X ∧ PJ w z g D (.slice ua D.length uc) (fun b => w2.heap.size ≤ b ∧ b < z) wr) (fun iv _ => D.length - (intOf iv).toNat)
    case atStart => exact ⟨0, _, rfl, Nat.zero_le _, by simp, OX6.out, J6.out⟩
    case round =>
      clear OX6 J6
      obtain ⟨n, X, rfl, hn, hX, hO, hj⟩ := hrel
      have hn0 : (0 : Int) ≤ n := by omega
      have LEN := Lib.hid hX
      have OX := Lib.hid hO
      have J := Lib.hid hj
      clear hX hO hj
      by_cases hlt : n < D.length
      case pos =>
        have hltI : (n : Int) < D.length + 1 := by omega
        have hltI2 : (n : Int) < D.length := by omega
        have HKL := Lib.hid (show n < X.length by have := LEN.out; omega)
        go_wp2_with (refine wpList_store_elem (E := nodeE) rfl 45 (.tmp 81) (.tmp 80) rfl ⟨⟨0, 0⟩, ⟨0, 0⟩, 0, 778⟩ (i := n) rfl rfl OX.out HKL.out SZD.out ?_; intro w7 hO7 hk7)
        go_roundw
        case rel => exact ⟨n + 1, X.set n ⟨⟨0, 0⟩, ⟨0, 0⟩, 0, 778⟩, by go_num, by omega, by rw [List.length_set]; exact LEN.out, hO7, J.out.keep hk7 fun b hb => by have hb : b = gx := hb; subst hb; exact ⟨HZ.out.1, fun h => by have := HZ.out.2; omega, GZ.out⟩⟩
        case measure => simp [intOf] <;> omega
      case neg =>
        have hnl : ¬ (n : Int) < D.length := by omega
        have z0 := J.out.cell
        go_wp2_with (go_at_call 11; refine (J.out.pt.alike (by have := DL.out; omega) fun n hn => (OK0.out.ok n hn).1).mono ?_; rintro e w8 ⟨rfl, hk8⟩; have J8 := Lib.hid (J.out.still hk8); clear hk8)
        clear J OX LEN
        go_loopw [6, 11] (fun tv iv wr => ∃ (n : Nat) (g : Nat) (va : Option Addr) (vc : Nat) (M : List Nd) (Y : Nat → Prop), tv = .pointer (some ⟨g, 0, none⟩) ∧ iv = .int .i64 n ∧ n ≤ L.length ∧ PJ w z g M (.slice va M.length vc) Y wr ∧ OkN M (400 + textN (L.take n))) (fun _ iv _ => L.length - (intOf iv).toNat)
        case atStart => exact ⟨0, _, ua, uc, D, _, rfl, rfl, Nat.zero_le _, J8.out, OK0.out⟩
        case round =>
          clear J8
          obtain ⟨n, g, va, vc, M, Y, rfl, rfl, hn, hj, ho⟩ := hrel
          have hn0 : (0 : Int) ≤ n := by omega
          have NT : Hid (textN (L.take n) ≤ 20000) := Lib.hid (Nat.le_trans (textN_take L n) FW.out.all)
          by_cases hlt : n < L.length
          case neg =>
            have hnl : ¬ (n : Int) < L.length := by omega
            have HJ := Lib.hid hj
            have HO := Lib.hid ho
            have z1 := HJ.out.cell
            clear hj ho
            go_wp2_with (first
              | (go_at_call 11; refine (HJ.out.pt.alike (Nat.le_trans HO.out.len (by have := NT.out; omega)) fun n hn => (HO.out.ok n hn).1).mono ?_; rintro e w9 ⟨rfl, hk9⟩; have J9 := Lib.hid (HJ.out.still hk9); clear hk9)
              | (go_at_call 8; refine (known_any _).mono ?_; rintro e w10 ⟨rfl, hk⟩))
            go_ret
            exact ⟨rfl, J9.out.kept.trans hk fun _ _ h => h⟩
          case pos =>
            have hnl : (n : Int) < L.length := by omega
            obtain ⟨x, hx⟩ := get_of_lt hlt
            have hxm := List.mem_of_getElem? hx
            obtain ⟨rs, hst⟩ := HS.out x hxm
            have hfx := FW.out.each x hxm
            have hN : 400 + textN (L.take n) ≤ 20400 := by have := NT.out; omega
            have htk : 400 + textN (L.take (n + 1)) = 400 + textN (L.take n) + x.text.size := by rw [show L.take (n + 1) = L.take n ++ [x] by rw [List.take_add_one, hx]; rfl, textN_snoc]; omega
            obtain ⟨lg, lo, lc', e2, _, hcs⟩ := SlAt.stepc (HL.out.kept hj.kept) (by omega)
            cases e2
            obtain ⟨c0, c1, c2, c3, c4, c5, c6, c7, c8⟩ := hcs n x hx
            have e1 : IntKind.i64.wrap ((n : Int) + 1) = (n : Int) + 1 := IntWalk.i64_in _ (by omega)
            have HDD := Lib.hid (does_any hj.drew.pt ho (by omega) hst (hst.len hfx.1) (by omega))
            have ho2 := ho.step x rs
            rw [← htk] at ho2
            have OK2 := Lib.hid ho2
            obtain ⟨M2, hM2⟩ : ∃ M2, goOn x rs M = M2 := ⟨_, rfl⟩
            rw [hM2] at HDD OK2
            have q0 := hj.cell
            have HJ := Lib.hid hj.drew
            clear hcs hx hxm hst hfx hN htk hj ho ho2 hM2
            go_upto_region 22 with fail
            go_region_with (go_at_call 10; refine HDD.out.mono ?_; rintro e w7 ⟨g', va', vc', rfl, hp, hk⟩; have P7 := Lib.hid (HJ.out.does hp hk).1; have bz := hk.blk HJ.out.far.2 HJ.out.box; have q1 := bz.cell' (i := 0) (v := .slice va M.length vc) rfl; have qf := bz.frozen 0; clear hp hk bz)
            all_goals
              go_wp2_with fail
              go_roundw
              case rel => exact ⟨n + 1, _, _, _, _, _, rfl, by go_num, by omega, P7.out, OK2.out⟩
              case measure => simp [intOf]; omega
end Go.Proofs.YtlafodnaifghcaaGreat.Tr
