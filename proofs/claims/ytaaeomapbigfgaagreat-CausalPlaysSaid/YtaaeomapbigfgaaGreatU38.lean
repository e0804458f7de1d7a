/- Two Queues made. hearsaylaw13.CausalPlays, walked. QrPlays, the parts. hearsaylaw13.CausalPlays returns true at every number, every vector and every script of steps, and what there was reads as before. hearsaylaw13.CausalTwo, walked. -/
import Derived.Test.YtaaeomapbigfgaaGreatU37
import Derived.Deep.DeepCutAuto
import Derived.Test.YtaaeomapbigfgaaGreatU33
import Derived.Test.YtaaeomapbigfgaaGreatRows
import Derived.WalkKit
import Derived.ProofKit
import Derived.OpenShut
import Derived.ShutString
import Derived.ChangeOld
import Derived.Below
namespace Go.Proofs.YtaaeomapbigfgaaGreat
open Go.RowKit Go.Proofs.YtaaeomapbigfgaaGreat.St
theorem rbox_new {w0 w2 w3 : World} {r : Nat} {hold : Int} {V : List Dot} {rv : Value} (hr : Blk w3 r 51 #[.int .i64 hold, rv, .slice none 0 0, .slice none 0 0]) (hrv : w3.ownsRow w2.heap.size 28 2 rv V.length (dotE.flat V)) (hrg : w2.heap.size ≤ r) (k2 : Kept (fun b => w0.heap.size ≤ b) w0 w2) (k3 : Kept (fun _ => False) w2 w3) (hVl : V.length ≤ 1000) :
    RBox w0 w3 r hold ⟨V, [], []⟩ (fun b => w2.heap.size ≤ b ∧ b < w3.heap.size) rv (.slice none 0 0) (.slice none 0 0) := by
  have hz := k2.size
  exact ⟨⟨hr, owns_lower hrv (Nat.zero_le _), hVl, World.ownsRow_nil _ _ _ _, Nat.zero_le _, OutAt.nil _ _, Nat.zero_le _, fun b h => (by cases h), fun b h => (by cases h), fun b h => (by cases h), fun b h => (by cases h), fun e he => (by simp at he)⟩,
    ⟨hrg, hr.lt⟩, fun b hb => ⟨owns_new hrv b hb, by obtain ⟨cs, hc⟩ := owns_spared hrv b hb; exact hc.lt⟩, fun b hb => ⟨by omega, hb.2⟩, k2.trans k3 (fun b _ h => h.elim)⟩
theorem Duo.first {w0 w1 w2 w3 : World} {g r : Nat} {hold : Int} {V : List Dot} {vv rv : Value} (hq : QBox w2 g hold ⟨V, [], []⟩ (newB w1 w2) vv (.slice none 0 0) (.slice none 0 0)) (hr : Blk w3 r 51 #[.int .i64 hold, rv, .slice none 0 0, .slice none 0 0]) (hrv : w3.ownsRow w2.heap.size 28 2 rv V.length (dotE.flat V)) (hrg : w2.heap.size ≤ r) (k1 : Kept (fun b => w0.heap.size ≤ b) w0 w1) (k2 : Kept (fun _ => False) w1 w2) (k3 : Kept (fun _ => False) w2 w3) (hVl : V.length ≤ 1000) :
    Duo w0 w3 g r hold ⟨V, [], []⟩ ⟨V, [], []⟩ (fun b => w1.heap.size ≤ b ∧ b < w3.heap.size) := by
  have h1 := k1.size
  have h2 := k2.size
  have h3 := k3.size
  exact ⟨⟨V, [], []⟩, ⟨V, [], []⟩, newB w1 w2, fun b => w2.heap.size ≤ b ∧ b < w3.heap.size, vv, _, _, rv, _, _, hq.keep k3 (fun _ _ h => h), rbox_new hr hrv hrg (k1.trans k2 (fun b _ h => h.elim)) k3 hVl, rfl, rfl, fun b hb hm => (by have := hm.2; omega), fun b hb => ⟨hb.1, by have := hb.2; omega⟩, fun b hb => ⟨by omega, hb.2⟩, fun b hb => ⟨by omega, hb.2⟩⟩
theorem COk.first {hold : Int} {V : List Dot} (hh : 0 ≤ hold) (hc : chkV 0 V = 0) : COk hold ⟨V, [], []⟩ :=
  ⟨⟨⟨fun c h => by simp at h, fun c h => by simp at h, by simp⟩, fun c h => by simp at h, by simpa using hh⟩, hc⟩
theorem SlAt.stepc {w : World} {v : Value} {L : List StV} (h : SlAt stE w v L) (hn : 0 < L.length) : ∃ g o c, v = .slice (some ⟨g, o, none⟩) L.length c ∧ ∀ (i : Nat) (x : StV), L[i]? = some x → ∀ j u, (stE.enc x)[j]? = some u → w.cell? ⟨g, o + i * 13 + j, none⟩ = some u := by
  obtain ⟨g, o, c, rfl, _, _, _, hc⟩ := h.one hn
  exact ⟨g, o, c, rfl, fun i x hx j u hu => by rw [Nat.add_assoc]; exact hc i x hx j u hu⟩
theorem size_step : (Tryz.prog.info? 44).map (·.size) = some stE.k := by kernel_rfl
/-- the vector lent: a copy with a mark behind -/
theorem new_both {w : World} {hold : Int} {v : Value} {V : List Dot} (hv : SlAt dotE w v V) (hl : V.length ≤ 1000000) (hc : newC hold V ≠ 0) :
    Calls Tryz.prog 9 #[.int .i64 hold, v] w fun r w' => r = .returned (.tuple #[.pointer none, .int .i64 (newC hold V)]) ∧ Kept (fun _ => False) w w' :=
  (new_any hv hl).mono fun r w' h => by
    rcases h with ⟨hk, ⟨_, h1⟩ | ⟨h0, _⟩⟩
    · exact ⟨h1, hk⟩
    · exact absurd h0 hc
theorem rnew_both {w : World} {hold : Int} {v : Value} {V : List Dot} (hv : SlAt dotE w v V) (hl : V.length ≤ 1000000) (hc : newC hold V ≠ 0) :
    Calls Tryz.prog 10 #[.int .i64 hold, v] w fun r w' => r = .returned (.tuple #[.pointer none, .int .i64 (newC hold V)]) ∧ Kept (fun _ => False) w w' :=
  (rnew_any hv hl).mono fun r w' h => by
    rcases h with ⟨hk, ⟨_, h1⟩ | ⟨h0, _⟩⟩
    · exact ⟨h1, hk⟩
    · exact absurd h0 hc
theorem rnew_box {w : World} {hold : Int} {v : Value} {V : List Dot} (hv : SlAt dotE w v V) (hl : V.length ≤ 1000) (hc : newC hold V = 0) :
    Calls Tryz.prog 10 #[.int .i64 hold, v] w fun r w' => Kept (fun _ => False) w w' ∧ ∃ g vv, r = .returned (.tuple #[.pointer (some ⟨g, 0, none⟩), .int .i64 0]) ∧ w.heap.size ≤ g ∧ Blk w' g 51 #[.int .i64 hold, vv, .slice none 0 0, .slice none 0 0] ∧ w'.ownsRow w.heap.size 28 2 vv V.length (dotE.flat V) :=
  (rnew_any hv (by omega)).mono fun r w' h => by
    rcases h with ⟨hk, ⟨h1, _⟩ | ⟨_, g, v', h1, h2, h3, h4⟩⟩
    · exact absurd hc h1
    · exact ⟨hk, g, v', h1, h2, h3, h4⟩
end Go.Proofs.YtaaeomapbigfgaaGreat
namespace Go.Proofs.YtaaeomapbigfgaaGreat
open Go.RowKit Go.Proofs.YtaaeomapbigfgaaGreat.St
namespace causalPlays
def Post (w : World) (r : Ending) (w' : World) : Prop := r = .returned (.bool true) ∧ Kept (fun _ => False) w w'
set_option maxRecDepth 100000 in
set_option maxHeartbeats 16000000 in
noncomputable def small0 : PSigma fun Q1 : Prop => PSigma fun Q2 : Prop => Later Q1 → Later Q2 → ∀ (w : World) (hold : Int) (vv lv : Value) (V : List Dot) (L : List StV), SlAt dotE w vv V → SlAt stE w lv L → (∀ s ∈ L, OpIn w s.e ∧ ¬ bigP s.e.v) → V.length ≤ 3000 → L.length ≤ 300 →
    Calls Tryz.prog 3 #[.int .i64 hold, vv, lv] w (Post w) := ⟨_, _, fun cut1 cut2 => by
  intro w hold vv lv V L hV hL hS hVl hLl
  have HMU := Lib.hid (much_any hL)
  have hno : decide (muchP L) = false := decide_eq_false (fun h => by
    rcases h with h | ⟨s, hs, hb⟩
    · omega
    · exact (hS s hs).2 hb)
  rw [hno] at HMU
  obtain ⟨la, lc, rfl, _, _⟩ := hL.sl
  obtain ⟨va, vc, rfl, _, _⟩ := hV.sl
  have HV := Lib.hid hV
  have HL := Lib.hid hL
  have HS := Lib.hid hS
  have hvI : ¬ (3000 : Int) < V.length := by omega
  clear hno hL hS hV
  go_enter Tryz.func3, Tryz.ntmps3
  go_upto_region 3 with (go_at_call 7; refine HMU.out.mono ?_; rintro r w0 ⟨rfl, hk0⟩)
  have NW : Hid (w0.ownsRow w0.heap.size 28 dotE.k (.slice none 0 0) ([] : List Dot).length (dotE.flat [])) := Lib.hid (World.ownsRow_nil _ _ _ _)
  have HV0 := Lib.hid (HV.out.kept hk0)
  go_upto_region 5 with (at_builtin; (refine wpList_append_row dotE rfl (.tmp 22) (.tmp 23) 23 rfl w0.heap.size 28 _ 16 Tryz.underlying23 info_dot rfl rfl rfl NW.out HV0.out (by unfold maxLen; simp; omega) (by simp; omega) (Nat.le_refl _) ?_); (intro v1 w1 ho1 hk1; rw [List.nil_append] at ho1; have K1 : Hid (Kept (fun _ => False) w0 w1) := Lib.hid (hk1.mono (fun b _ e => by have e : (Value.slice none 0 0).ownBlock = some b := e; cases e)); have O1 := Lib.hid ho1; have N1 := Lib.hid (owns_new ho1); clear ho1 hk1))
  have LD := Lib.hid (lit_dot w1 901 902)
  have O1a := Lib.hid (show (w1.alloc (.cells #[.int .i64 901, .int .i64 902] 28)).ownsRow w0.heap.size 28 dotE.k v1 V.length (dotE.flat V) from O1.out.alloc _)
  have K1a := Lib.hid (K1.out.alloc (.cells #[.int .i64 901, .int .i64 902] 28))
  go_upto_region 6 with (at_builtin; (refine wpList_append_row dotE rfl (.tmp 25) (.tmp 27) 23 rfl w0.heap.size 28 _ 16 Tryz.underlying23 info_dot rfl rfl rfl O1a.out LD.out (by unfold maxLen; simp; omega) (by simp; omega) K1a.out.size ?_); (intro v2 w2 ho2 hk2; have K2 : Hid (Kept (fun _ => False) w0 w2) := Lib.hid (K1a.out.over hk2 N1.out); have O2 := Lib.hid ho2; clear ho2 hk2))
  obtain ⟨hl0, ⟨_, hno⟩ | ⟨gx, cx, hv, hzx, hOx⟩⟩ := own_of (E := dotE) O2.out
  · simp at hno
  have hm : (V ++ [(⟨901, 902⟩ : Dot)]).length = V.length + 1 := by simp
  rw [hm] at hv
  subst hv
  have OX := Lib.hid hOx
  have KW := Lib.hid (hk0.trans K2.out (fun _ _ h => h))
  have hgx : w.heap.size ≤ gx := by have := hk0.size; omega
  have hgl := hOx.lt
  have hcx := hOx.le
  rw [hm] at hcx
  have hcx1 : V.length ≤ cx := by omega
  have hcI : (V.length : Int) ≤ cx := by omega
  clear hl0 hzx hOx hm O1 O1a K1 K1a N1 LD NW O2 K2 HV0 hk0 HMU
  by_cases hh : newC hold V = 0
  case pos =>
    have NC := Lib.hid hh
    clear hh
    (rename_i zQrPlays_1 zQrPlays_2 zQrPlays_3 zQrPlays_4 zQrPlays_5 zQrPlays_6; revert w hold V L hVl hLl la lc zQrPlays_1 zQrPlays_2 va vc zQrPlays_3 zQrPlays_4 HV HL HS w0 hvI v1 w1 w2 zQrPlays_5 zQrPlays_6 gx cx OX KW hgx hgl hcx hcx1 hcI NC; exact cut1.out)
  case neg =>
    have NC := Lib.hid hh
    clear hh
    (rename_i zQrPlays_1 zQrPlays_2 zQrPlays_3 zQrPlays_4 zQrPlays_5 zQrPlays_6; revert w hold V L hVl hLl la lc zQrPlays_1 zQrPlays_2 va vc zQrPlays_3 zQrPlays_4 HV HL HS w0 hvI v1 w1 w2 zQrPlays_5 zQrPlays_6 gx cx OX KW hgx hgl hcx hcx1 hcI NC; exact cut2.out)
  ⟩
end causalPlays
end Go.Proofs.YtaaeomapbigfgaaGreat
namespace Go.Proofs.YtaaeomapbigfgaaGreat
open Go.RowKit Go.Proofs.YtaaeomapbigfgaaGreat.St
namespace causalPlays
theorem new_ok2 {hold : Int} {V : List Dot} (h : newC hold V = 0) : 0 ≤ hold ∧ hold ≤ 256 ∧ chkV 0 V = 0 ∧ V.length ≤ 17 := by
  unfold newC at h
  by_cases h1 : hold < 0 ∨ 256 < hold
  · rw [if_pos h1] at h; exact absurd h (by decide)
  · rw [if_neg h1] at h; exact ⟨by omega, by omega, h, by rw [← vec_id h]; exact vecOf_len _ _⟩
set_option maxRecDepth 100000 in
set_option maxHeartbeats 16000000 in
theorem small1 : small0.1 := by
  intro w hold V L hVl hLl la lc zQrPlays_1 zQrPlays_2 va vc zQrPlays_3 zQrPlays_4 HV HL HS w0 hvI v1 w1 w2 zQrPlays_5 zQrPlays_6 gx cx OX KW hgx hgl hcx hcx1 hcI NC
  obtain ⟨hh0, hh1, hch, hv17⟩ := new_ok2 NC.out
  have CH := Lib.hid hch
  have PRE : Hid (∀ w', Kept (fun _ => False) w2 w' → SlAt dotE w' (.slice (some ⟨gx, 0, none⟩) V.length cx) V) := Lib.hid (fun w' hk => by have := (OX.out.keep hk (fun h => h)).pre (n := V.length) (by simp); rwa [List.take_left' rfl] at this)
  have HN := Lib.hid (new_box (hold := hold) (PRE.out w2 (Kept.refl _ _)) (by omega) NC.out)
  go_upto_region 7 with (go_at_call 9; refine HN.out.mono ?_; rintro r w3 ⟨hk3, gq, v3, rfl, hq3⟩)
  have HR := Lib.hid (rnew_box (hold := hold) ((HV.out.kept KW.out).kept hk3) (by omega) NC.out)
  go_upto_region 8 with (go_at_call 10; refine HR.out.mono ?_; rintro r w4 ⟨hk4, gr, v4, rfl, hgr, hb4, ho4⟩)
  have DU := Lib.hid (Duo.first hq3 hb4 ho4 hgr (KW.out.mono (S' := fun b => w.heap.size ≤ b) (fun _ _ h => h.elim)) hk3 hk4 (by omega))
  have OX4 := Lib.hid ((OX.out.keep hk3 (fun h => h)).keep hk4 (fun h => h))
  have K4 := Lib.hid ((KW.out.trans hk3 (fun _ _ h => h)).trans hk4 (fun _ _ h => h))
  have HSM := Lib.hid ((same_any (PRE.out w4 (hk3.trans hk4 (fun _ _ h => h))) (HV.out.kept K4.out) (by omega)).mono (R' := fun e w' => e = .returned (.bool true) ∧ ∃ q, w' = w4.drewN q) (fun e w' h => by rw [decide_eq_true rfl] at h; exact h))
  have m1 : w4.cell? ⟨gx, V.length * 2 + 1, none⟩ = some (.int .i64 902) := OX4.out.cell (i := V.length) (j := 1) (x := ⟨901, 902⟩) (by simp) rfl
  have hnI : (V.length : Int) < V.length + 1 := by omega
  have hn63 : (V.length : Int) + 1 ≤ 100000 := by omega
  clear hk3 hk4 hq3 hb4 ho4 HN HR PRE KW OX
  go_upto_region 10 with (go_at_call 11; refine HSM.out.mono ?_; rintro r w5 ⟨rfl, q5, rfl⟩)
  have DU5 := Lib.hid (DU.out.kept ((Kept.refl (fun _ => False) w4).drewN q5))
  have OX5 := Lib.hid (OX4.out.keep ((Kept.refl (fun _ => False) w4).drewN q5) (fun h => h))
  have K5 := Lib.hid (K4.out.drewN q5)
  have SZD := Lib.hid size_dot2
  clear m1 DU OX4 K4 HSM
  go_wp2_with fail
  go_loopw [12] (fun iv wr => ∃ (n : Nat) (X : List Dot), iv = .int .i64 n ∧ n ≤ V.length ∧ X.length = V.length + 1 ∧ OwnAt dotE wr 28 gx cx X ∧ Duo w wr gq gr hold ⟨V, [], []⟩ ⟨V, [], []⟩ (fun b => w2.heap.size ≤ b ∧ b < w4.heap.size) ∧ Kept (fun _ => False) w wr) (fun iv _ => V.length - (intOf iv).toNat)
  case atStart => exact ⟨0, _, rfl, Nat.zero_le _, by simp, OX5.out, DU5.out, K5.out⟩
  case round =>
    clear DU5 OX5 K5
    obtain ⟨n, X, rfl, hn, hX, hO, hdu, hk⟩ := hrel
    have hn0 : (0 : Int) ≤ n := by omega
    have LEN := Lib.hid hX
    have OX := Lib.hid hO
    have DU := Lib.hid hdu
    have KR := Lib.hid hk
    clear hX hO hdu hk
    by_cases hlt : n < V.length
    case pos =>
      have hltI : (n : Int) < V.length + 1 := by omega
      have hltI2 : (n : Int) < V.length := by omega
      have HKL := Lib.hid (show n < X.length by have := LEN.out; omega)
      go_wp2_with (refine wpList_store_elem (E := dotE) rfl 28 (.tmp 81) (.tmp 80) rfl ⟨908, 0⟩ (i := n) rfl rfl OX.out HKL.out SZD.out ?_; intro w7 hO7 hk7)
      go_roundw
      case rel => exact ⟨n + 1, X.set n ⟨908, 0⟩, by go_num, by omega, by rw [List.length_set]; exact LEN.out, hO7, DU.out.keep hk7 (fun b hb h => by have h : b = gx := h; omega) (fun b h => by have h : b = gx := h; omega), KR.out.over hk7 (fun b h => by have h : b = gx := h; omega)⟩
      case measure => simp [intOf] <;> omega
    case neg =>
      have hnl : ¬ (n : Int) < V.length := by omega
      go_wp2_with fail
      generalize wr = wq at *
      go_loopw [13] (fun iv wr => ∃ (m : Nat) (C : CQ) (F : Nat → Prop), iv = .int .i64 m ∧ m ≤ L.length ∧ Duo w wr gq gr hold C C F ∧ COk hold C ∧ C.W.length + C.O.length ≤ m ∧ (∀ b, F b → w.heap.size ≤ b) ∧ Kept (fun _ => False) w wr) (fun iv _ => L.length - (intOf iv).toNat)
      case atStart => exact ⟨0, ⟨V, [], []⟩, _, rfl, Nat.zero_le _, DU.out, COk.first hh0 CH.out, Nat.le_refl _, fun b hb => (DU.out.fresh b hb).1, KR.out⟩
      case round =>
        clear DU OX KR
        obtain ⟨m, C, F, rfl, hm, hdu, hok, hcl, hF, hk⟩ := hrel
        have hm0 : (0 : Int) ≤ m := by omega
        by_cases hlt2 : m < L.length
        case neg =>
          have hml : ¬ (m : Int) < L.length := by omega
          have KR := Lib.hid hk
          clear hdu hok hF hk
          go_wp2_with (go_at_call 8; refine (known_any _).mono ?_; rintro r w7 ⟨rfl, hk7⟩)
          go_ret
          exact ⟨rfl, KR.out.trans hk7 (fun _ _ h => h)⟩
        case pos =>
          have hmI : (m : Int) < L.length := by omega
          obtain ⟨x, hx⟩ := get_of_lt hlt2
          have hxm := List.mem_of_getElem? hx
          obtain ⟨g, o, c', e1, hcs⟩ := SlAt.stepc (HL.out.kept hk) (by omega)
          injection e1 with e2 _ e3
          subst e2 e3
          have CS := Lib.hid (hcs m x hx)
          have HD := Lib.hid (does_any hdu hok hh0 hh1 (HS.out x hxm).1 (HS.out x hxm).2 (by omega))
          have KR := Lib.hid hk
          have HF := Lib.hid hF
          clear hcs hdu hok hF hk
          go_wp2_with (first
            | (refine wpList_load_at (E := stE) (z := x) rfl 44 _ rfl rfl CS.out Tryz.underlying44 rfl size_step ?_)
            | (go_at_call 12; refine HD.out.mono ?_; rintro r w7 ⟨rfl, C', F', hd7, ok7, k7, f7, l7⟩))
          go_roundw
          case rel => exact ⟨m + 1, C', F', by go_num, by omega, hd7, ok7, by omega, fun b hb => (f7 b hb).elim (HF.out b) (fun h => Nat.le_trans KR.out.size h), KR.out.over k7 HF.out⟩
          case measure => simp [intOf] <;> omega
set_option maxRecDepth 100000 in
set_option maxHeartbeats 16000000 in
theorem small2 : small0.2.1 := by
  intro w hold V L hVl hLl la lc zQrPlays_1 zQrPlays_2 va vc zQrPlays_3 zQrPlays_4 HV HL HS w0 hvI v1 w1 w2 zQrPlays_5 zQrPlays_6 gx cx OX KW hgx hgl hcx hcx1 hcI NC
  have PRE : Hid (∀ w', Kept (fun _ => False) w2 w' → SlAt dotE w' (.slice (some ⟨gx, 0, none⟩) V.length cx) V) := Lib.hid (fun w' hk => by have := (OX.out.keep hk (fun h => h)).pre (n := V.length) (by simp); rwa [List.take_left' rfl] at this)
  have HN := Lib.hid (new_both (hold := hold) (PRE.out w2 (Kept.refl _ _)) (by omega) NC.out)
  have HR0 := Lib.hid (fun (w3 : World) (hk3 : Kept (fun _ => False) w2 w3) => rnew_both (hold := hold) ((HV.out.kept KW.out).kept hk3) (by omega) NC.out)
  have hcb : (newC hold V == 0) = false := beq_eq_false_iff_ne.2 NC.out
  have hcb2 : (newC hold V != 0) = true := by simpa using NC.out
  generalize newC hold V = c at *
  go_upto_region 7 with (go_at_call 9; refine HN.out.mono ?_; rintro r w3 ⟨rfl, hk3⟩)
  go_upto_region 8 with (go_at_call 10; refine (HR0.out w3 hk3).mono ?_; rintro r w4 ⟨rfl, hk4⟩)
  have OX4 := Lib.hid ((OX.out.keep hk3 (fun h => h)).keep hk4 (fun h => h))
  have K4 := Lib.hid ((KW.out.trans hk3 (fun _ _ h => h)).trans hk4 (fun _ _ h => h))
  have HSM := Lib.hid ((same_any (PRE.out w4 (hk3.trans hk4 (fun _ _ h => h))) (HV.out.kept K4.out) (by omega)).mono (R' := fun e w' => e = .returned (.bool true) ∧ ∃ q, w' = w4.drewN q) (fun e w' h => by rw [decide_eq_true rfl] at h; exact h))
  have m1 : w4.cell? ⟨gx, V.length * 2 + 1, none⟩ = some (.int .i64 902) := OX4.out.cell (i := V.length) (j := 1) (x := ⟨901, 902⟩) (by simp) rfl
  have hnI : (V.length : Int) < V.length + 1 := by omega
  have hn63 : (V.length : Int) + 1 ≤ 100000 := by omega
  clear hk3 hk4 HN HR0 PRE KW OX
  go_upto_region 10 with (go_at_call 11; refine HSM.out.mono ?_; rintro r w5 ⟨rfl, q5, rfl⟩)
  have OX5 := Lib.hid (OX4.out.keep ((Kept.refl (fun _ => False) w4).drewN q5) (fun h => h))
  have K5 := Lib.hid (K4.out.drewN q5)
  have SZD := Lib.hid size_dot2
  clear m1 OX4 K4 HSM
  go_wp2_with fail
  go_loopw [12] (fun iv wr => ∃ (n : Nat) (X : List Dot), iv = .int .i64 n ∧ n ≤ V.length ∧ X.length = V.length + 1 ∧ OwnAt dotE wr 28 gx cx X ∧ Kept (fun _ => False) w wr) (fun iv _ => V.length - (intOf iv).toNat)
  case atStart => exact ⟨0, _, rfl, Nat.zero_le _, by simp, OX5.out, K5.out⟩
  case round =>
    clear OX5 K5
    obtain ⟨n, X, rfl, hn, hX, hO, hk⟩ := hrel
    have hn0 : (0 : Int) ≤ n := by omega
    have LEN := Lib.hid hX
    have OX := Lib.hid hO
    have KR := Lib.hid hk
    clear hX hO hk
    by_cases hlt : n < V.length
    case pos =>
      have hltI : (n : Int) < V.length + 1 := by omega
      have hltI2 : (n : Int) < V.length := by omega
      have HKL := Lib.hid (show n < X.length by have := LEN.out; omega)
      go_wp2_with (refine wpList_store_elem (E := dotE) rfl 28 (.tmp 81) (.tmp 80) rfl ⟨908, 0⟩ (i := n) rfl rfl OX.out HKL.out SZD.out ?_; intro w7 hO7 hk7)
      go_roundw
      case rel => exact ⟨n + 1, X.set n ⟨908, 0⟩, by go_num, by omega, by rw [List.length_set]; exact LEN.out, hO7, KR.out.over hk7 (fun b h => by have h : b = gx := h; omega)⟩
      case measure => simp [intOf] <;> omega
    case neg =>
      have hnl : ¬ (n : Int) < V.length := by omega
      go_wp2_with fail
      generalize wr = wq at *
      go_loopw [13] (fun iv wr => ∃ m : Nat, iv = .int .i64 m ∧ Kept (fun _ => False) w wr) (fun iv _ => 1)
      case atStart => exact ⟨0, rfl, KR.out⟩
      case round =>
        obtain ⟨m, rfl, hk⟩ := hrel
        have KS := Lib.hid hk
        have hm0 : (0 : Int) ≤ m := by omega
        clear hk
        by_cases hL0 : (m : Int) < L.length
        · go_wp2_with (go_at_call 8; refine (known_any _).mono ?_; rintro r w7 ⟨rfl, hk7⟩)
          go_ret
          exact ⟨rfl, KS.out.trans hk7 (fun _ _ h => h)⟩
        · go_wp2_with (go_at_call 8; refine (known_any _).mono ?_; rintro r w7 ⟨rfl, hk7⟩)
          go_ret
          exact ⟨rfl, KS.out.trans hk7 (fun _ _ h => h)⟩
theorem small {w : World} {hold : Int} {vv lv : Value} {V : List Dot} {L : List StV} (hV : SlAt dotE w vv V) (hL : SlAt stE w lv L) (hS : ∀ s ∈ L, OpIn w s.e ∧ ¬ bigP s.e.v) (hVl : V.length ≤ 3000) (hLl : L.length ≤ 300) :
    Calls Tryz.prog 3 #[.int .i64 hold, vv, lv] w (Post w) := small0.2.2 ⟨small1⟩ ⟨small2⟩ w hold vv lv V L hV hL hS hVl hLl
end causalPlays
end Go.Proofs.YtaaeomapbigfgaaGreat
namespace Go.Proofs.YtaaeomapbigfgaaGreat
open Go.RowKit Go.Proofs.YtaaeomapbigfgaaGreat.St
section
open Go.ChangeShapes Go.WideShapes Go.Deep
variable {H : Type} {enc : TypeId × Value → H} {w : World} {base b0 : Nat} {spare : Nat → Bool} {held : Bool}
set_option maxRecDepth 100000 in
theorem open_vec {r : Reach} {v : Value} {d : DataW H} {ps : List MemPlace} (hv : Value.okWide Tryz.prog w r b0 23 v) (h : DataW.Trod enc Tryz.prog w base spare held 23 v d ps) : ∃ L, SlAt dotE w v L :=
  (open_rows dotE (Q := fun x => I64 x.site ∧ I64 x.seq) Tryz.underlying23 cells_dot (fun n cs d h => elem_dot2 n cs d h) hv h).imp fun _ h => h.1
end
namespace causalPlays
set_option maxRecDepth 100000 in
set_option maxHeartbeats 4000000 in
/-- a vector that is more than is looked at -/
theorem over_wide {w : World} {hold : Int} {vv lv : Value} {V : List Dot} (hV : SlAt dotE w vv V) (hl : 3000 < V.length) : Calls Tryz.prog 3 #[.int .i64 hold, vv, lv] w (Post w) := by
  obtain ⟨va, vc, rfl, _, _⟩ := hV.sl
  have hI : (3000 : Int) < V.length := by omega
  clear hV
  go_enter Tryz.func3, Tryz.ntmps3
  go_wp2_with (go_at_call 8; refine (known_any _).mono ?_; rintro r w1 ⟨rfl, hk1⟩)
  go_ret
  exact ⟨rfl, hk1⟩
set_option maxRecDepth 100000 in
set_option maxHeartbeats 4000000 in
/-- a script that is more than is looked at -/
theorem over_much {w : World} {hold : Int} {vv lv : Value} {V : List Dot} {L : List StV} (hV : SlAt dotE w vv V) (hl : V.length ≤ 3000) (hL : SlAt stE w lv L) (hM : muchP L) : Calls Tryz.prog 3 #[.int .i64 hold, vv, lv] w (Post w) := by
  have HMU := Lib.hid (much_any hL)
  rw [decide_eq_true hM] at HMU
  obtain ⟨la, lc, rfl, _, _⟩ := hL.sl
  obtain ⟨va, vc, rfl, _, _⟩ := hV.sl
  have hvI : ¬ (3000 : Int) < V.length := by omega
  clear hL hM hV
  go_enter Tryz.func3, Tryz.ntmps3
  go_wp2_with (first
    | (go_at_call 7; refine HMU.out.mono ?_; rintro r w0 ⟨rfl, hk0⟩)
    | (go_at_call 8; refine (known_any _).mono ?_; rintro r w1 ⟨rfl, hk1⟩))
  go_ret
  exact ⟨rfl, hk0.trans hk1 (fun _ _ h => h)⟩
theorem walk (a0 : Int) (v1 : Value) (z1 : List Dot) (v2 : Value) (z2 : List StV) (_w0 : (Lit.int .i64 a0).wf = true) {w1 : World} (h1 : SlAt dotE w1 v1 z1) (h2 : SlAt stE w1 v2 z2 ∧ ∀ s ∈ z2, OpIn w1 s.e ∧ I64 s.tk) (w : World) (hw : w = w1 := by first | assumption | rfl) :
    Calls Tryz.prog 3 #[.int .i64 a0, v1, v2] w fun e w' => e = .returned (.bool true) ∧ Below w.heap.size w w' := by
  subst hw
  have hp : Calls Tryz.prog 3 #[.int .i64 a0, v1, v2] w (Post w) := by
    by_cases hl : 3000 < z1.length
    · exact over_wide h1 hl
    by_cases hm : muchP z2
    · exact over_much h1 (by omega) h2.1 hm
    exact small h1 h2.1 (fun s hs => ⟨(h2.2 s hs).1, fun hb => hm (.inr ⟨s, hs, hb⟩)⟩) (by omega) (Nat.le_of_not_lt fun h => hm (.inl h))
  exact hp.mono fun e w' ⟨he, hk⟩ => ⟨he, hk.below (Nat.le_refl _) (fun _ _ h => h)⟩
end causalPlays

namespace causalPlays
open Go.ChangeShapes Go.WideShapes Go.ChangeAt Go.RowKit
open Go.ChangeMaps (open_string shut_string)
theorem own : ownKnob Tryz.prog.godebug = none := by kernel_rfl
theorem laidOut : laidOutB Tryz.prog = true := by kernel_rfl
set_option maxRecDepth 100000 in
theorem lifted (os : Os) (started : os.Started) (H : Type) (enc : TypeId × Value → H) :
    ReturnsInHanded {} Tryz.checked os 3 .any (Rows.causalPlaysSpec.pre6 enc Tryz.prog Tryz.f3 Rows.causalPlaysRow.domain false) (Rows.causalPlaysSpec.post enc Tryz.prog Tryz.f3 false true false false) := by
  refine returnsInHanded_of_change (C := Tryz.checked) own started (by kernel_rfl) Tryz.func3
    (ChangeSpec.witness6 (enc := enc) (C := Tryz.checked) false ⟨#[], #[.int .i64 0, .slice none 0 0, .slice none 0 0], []⟩ 8 (by kernel_rfl) (by kernel_rfl) (by kernel_rfl) (by kernel_rfl)) ?_
  intro W base args ds gs before hval0 hW hcnd _
  have hval : ∀ (j : Nat) t v, Tryz.f3.params[j]? = some t → args[j]? = some v → Value.okWide Tryz.prog W .any base t v := hval0
  have hW' := hW
  obtain ⟨p, q, hA0, hV, rfl, hfz, hnd⟩ := hW
  have hA : DataW.TrodAll enc Tryz.prog W 0 (fun _ => true) true Tryz.f3.params.toList args.toList ds p := hA0
  rw [Tryz.params3] at hA hval
  obtain ⟨v0, vs0, d0, ds0, p0, q0, hargs, rfl, rfl, h0, r0⟩ := trodAll_cons hA
  obtain ⟨v1, vs1, d1, ds1, p1, q1, rfl, rfl, rfl, h1, r1⟩ := trodAll_cons r0
  obtain ⟨v2, vs2, d2, ds2, p2, q2, rfl, rfl, rfl, h2, r2⟩ := trodAll_cons r1
  obtain ⟨rfl, rfl, rfl⟩ := trodAll_nil r2
  obtain rfl : args = #[v0, v1, v2] := by cases args; simp_all
  obtain ⟨rfl, rfl⟩ := trodVars_none hV
  obtain ⟨a0, rfl, rfl, rfl, w0⟩ := open_int Tryz.underlying3 (hval 0 3 v0 rfl rfl) h0
  have k1 := h1
  have lt1 : ∀ x ∈ p1, x.block < W.heap.size := by obtain ⟨m, hm⟩ := k1; exact DataW.trod_lt m _ _ _ hm
  obtain ⟨z1, w1⟩ := open_vec (hval 1 23 v1 rfl rfl) h1
  have k2 := h2
  have lt2 : ∀ x ∈ p2, x.block < W.heap.size := by obtain ⟨m, hm⟩ := k2; exact DataW.trod_lt m _ _ _ hm
  obtain ⟨z2, w2⟩ := open_steps (hval 2 24 v2 rfl rfl) h2
  clear hA0 hval0
  refine (walk a0 v1 z1 v2 z2 w0 w1 w2 W rfl).mono fun e W' ⟨he, bel⟩ => ?_
  subst he
  exact ⟨_, rfl, _, _, _, [], _, [], hW', trodAll_mk1 (shut_bool Tryz.underlying4 _), (trodAll_cons_mk (shut_int Tryz.underlying3 w0) (trodAll_cons_mk (Below.trod laidOut (by kernel_rfl) (of_decide_eq_true (by kernel_rfl)) k1 bel lt1) (trodAll_cons_mk (Below.trod laidOut (by kernel_rfl) (of_decide_eq_true (by kernel_rfl)) k2 bel lt2) trodAll_mk0))), rfl, bel.frame _, fun h => by cases h⟩

theorem over : Rows.causalPlaysRow.holds Tryz.pinned (OpenSpec.ofChange Rows.causalPlaysSpec) :=
  OpenClaim.holds_of_wide 3 Tryz.f3 rfl rfl rfl rfl rfl rfl rfl ⟨rfl, rfl, rfl, rfl, rfl⟩ rfl rfl rfl rfl rfl (by kernel_rfl) Tryz.func3 (by kernel_rfl)
    (of_decide_eq_true (by kernel_rfl)) (by unfold Func.isWrapper; first | (rw [if_pos (by decide +kernel)]; kernel_rfl) | (rw [if_neg (by decide +kernel)]; exact ⟨rfl, rfl⟩))
    (fun os started H enc _ => lifted os started H enc)
theorem proved : Rows.CausalPlaysSaid := over
end causalPlays


end Go.Proofs.YtaaeomapbigfgaaGreat
namespace Go.Proofs.YtaaeomapbigfgaaGreat
open Go.RowKit Go.Proofs.YtaaeomapbigfgaaGreat.St
theorem Duo.make {w0 w : World} {g r : Nat} {hold : Int} {V : List Dot} {M N : Nat → Prop} {v1 x1 o1 v2 x2 o2 : Value} (hq : QBox w g hold ⟨V, [], []⟩ M v1 x1 o1) (hr : RBox w0 w r hold ⟨V, [], []⟩ N v2 x2 o2) (hd : ∀ b, N b → ¬ M b) (hM : ∀ b, M b → w0.heap.size ≤ b) :
    Duo w0 w g r hold ⟨V, [], []⟩ ⟨V, [], []⟩ (fun b => M b ∨ N b) :=
  ⟨_, _, M, N, _, _, _, _, _, _, hq, hr, rfl, rfl, hd, fun _ h => .inl h, fun _ h => .inr h, fun b hb => hb.elim (fun h => ⟨hM b h, hq.lt b h⟩) (hr.fresh b)⟩
theorem new3 : newC 3 [] = 0 := by unfold newC; simp [chkV]
namespace causalTwo
def Post (w : World) (r : Ending) (w' : World) : Prop := r = .returned (.bool true) ∧ Kept (fun _ => False) w w'
set_option maxRecDepth 100000 in
set_option maxHeartbeats 16000000 in
noncomputable def small0 : PSigma fun Q1 : Prop => PSigma fun Q2 : Prop => Later Q1 → Later Q2 → ∀ (w : World) (hold : Int) (v1 v2 : Value) (L1 L2 : List StV), SlAt stE w v1 L1 → SlAt stE w v2 L2 → (∀ s ∈ L1, OpIn w s.e ∧ ¬ bigP s.e.v) → (∀ s ∈ L2, OpIn w s.e ∧ ¬ bigP s.e.v) → L1.length ≤ 300 → L2.length ≤ 300 →
    Calls Tryz.prog 4 #[.int .i64 hold, v1, v2] w (Post w) := ⟨_, _, fun cut1 cut2 => by
  intro w hold v1 v2 L1 L2 hL1 hL2 hS1 hS2 hl1 hl2
  have hno1 : decide (muchP L1) = false := decide_eq_false (fun h => by
    rcases h with h | ⟨s, hs, hb⟩
    · omega
    · exact (hS1 s hs).2 hb)
  have hno2 : decide (muchP L2) = false := decide_eq_false (fun h => by
    rcases h with h | ⟨s, hs, hb⟩
    · omega
    · exact (hS2 s hs).2 hb)
  have HMU1 := Lib.hid (much_any hL1)
  have HMU2 := Lib.hid (fun (w' : World) (hk : Kept (fun _ => False) w w') => much_any (hL2.kept hk))
  rw [hno1] at HMU1
  rw [hno2] at HMU2
  obtain ⟨a1, c1, rfl, _, _⟩ := hL1.sl
  obtain ⟨a2, c2, rfl, _, _⟩ := hL2.sl
  have HL1 := Lib.hid hL1
  have HL2 := Lib.hid hL2
  have HS1 := Lib.hid hS1
  have HS2 := Lib.hid hS2
  clear hno1 hno2 hL1 hL2 hS1 hS2
  go_enter Tryz.func4, Tryz.ntmps4
  go_upto_region 3 with (first
    | (go_at_call 7; refine (HMU2.out _ KM.out).mono ?_; rintro r w0 ⟨rfl, hk0⟩; have KW0 := Lib.hid (KM.out.trans hk0 (fun _ _ h => h)); clear hk0)
    | (go_at_call 7; refine HMU1.out.mono ?_; rintro r wm ⟨rfl, hkm⟩; have KM := Lib.hid hkm; clear hkm))
  clear HMU1 HMU2 KM
  have HN3 : Hid (∀ w', Calls Tryz.prog 9 #[.int .i64 3, .slice none 0 0] w' fun r w'' => Kept (fun _ => False) w' w'' ∧ ∃ g vv, r = .returned (.tuple #[.pointer (some ⟨g, 0, none⟩), .int .i64 0]) ∧ QBox w'' g 3 ⟨[], [], []⟩ (newB w' w'') vv (.slice none 0 0) (.slice none 0 0)) := Lib.hid (fun w' => new_box (SlAt.nil w') (by simp) new3)
  have HR3 : Hid (∀ w', Calls Tryz.prog 10 #[.int .i64 3, .slice none 0 0] w' fun r w'' => Kept (fun _ => False) w' w'' ∧ ∃ g vv, r = .returned (.tuple #[.pointer (some ⟨g, 0, none⟩), .int .i64 0]) ∧ w'.heap.size ≤ g ∧ Blk w'' g 51 #[.int .i64 3, vv, .slice none 0 0, .slice none 0 0] ∧ w''.ownsRow w'.heap.size 28 2 vv ([] : List Dot).length (dotE.flat [])) := Lib.hid (fun w' => rnew_box (SlAt.nil w') (by simp) new3)
  by_cases hh : newC hold [] = 0
  case pos =>
    have NC := Lib.hid hh
    clear hh
    (rename_i zQrTwo_1 zQrTwo_2 zQrTwo_3 zQrTwo_4 zQrTwo_5 zQrTwo_6; revert w hold L1 L2 hl1 hl2 a1 c1 zQrTwo_1 zQrTwo_2 a2 c2 zQrTwo_3 zQrTwo_4 HL1 HL2 HS1 HS2 wm w0 KW0 zQrTwo_5 zQrTwo_6 HN3 HR3 NC; exact cut1.out)
  case neg =>
    have NC := Lib.hid hh
    clear hh
    (rename_i zQrTwo_1 zQrTwo_2 zQrTwo_3 zQrTwo_4 zQrTwo_5 zQrTwo_6; revert w hold L1 L2 hl1 hl2 a1 c1 zQrTwo_1 zQrTwo_2 a2 c2 zQrTwo_3 zQrTwo_4 HL1 HL2 HS1 HS2 wm w0 KW0 zQrTwo_5 zQrTwo_6 HN3 HR3 NC; exact cut2.out)
  ⟩
end causalTwo
end Go.Proofs.YtaaeomapbigfgaaGreat
