/- hearsaylaw11.TreeJust, walked. -/
import Derived.Test.YtlafodnaifghcaaK35
import Derived.Test.YtlafodnaifghcaaK37
import Derived.Deep.RegionHeld3
import Derived.Deep.CutBlock
import Derived.Deep.DeepCutAuto
namespace Go.Proofs.Ytlafodnaifghcaa.Tr
open Go.RowKit Go.Sort Go.Proofs.Ytlafodnaifghcaa.St Go.Proofs.Ytlafodnaifghcaa.Gl Go.Proofs.Ytlafodnaifghcaa
attribute [local go_sem] Oper.semAt_some
def KFin (w : World) (e : Ending) (w' : World) : Prop := e = .returned (.bool true) ∧ Kept (fun _ => False) w w'
set_option maxRecDepth 100000 in
set_option maxHeartbeats 8000000 in
theorem just_any {w : World} {v gv : Value} {P : List Pc} {G : List Run} (h : SlAt pcE w v P) (hin : ∀ p ∈ P, p.In) (hg : SlAt runE w gv G) (hgin : ∀ r ∈ G, r.In) (hgb : ∀ b, gv.ownBlock = some b → b < w.heap.size) (at_ : Int) (hat : I64 at_) (text : ByteArray) (htx : text.size ≤ maxLen) :
    Calls Try.prog 6 #[v, gv, .int .i64 at_, .string text] w (KFin w) := by
  have LD := Lib.hid (laid_any h hin)
  have hgl := hg.le
  unfold maxLen at hgl htx
  obtain ⟨ga, gc, rfl, _, _⟩ := hg.sl
  have HG := Lib.hid hg
  have GI := Lib.hid hgin
  have HGB0 := Lib.hid hgb
  obtain ⟨va, vc, rfl, _, _⟩ := h.sl
  have KN := Lib.hid known_any
  clear h hin hg hgin hgb
  go_enter Try.func6, Try.ntmps6
  go_upto_region 2 with (go_at_call 22; refine LD.out.mono ?_; rintro e W1 hL; obtain ⟨hk1, u, n, c, b, rfl, hL2⟩ := hL.form; clear hL; have K1 := Lib.hid hk1; clear hk1)
  cases b
  case false =>
    go_wp2_with (go_at_call 9; refine (KN.out _).mono ?_; rintro e W2 ⟨rfl, hk2⟩; have K2 := Lib.hid hk2; clear hk2)
    go_ret
    exact ⟨rfl, K1.out.trans K2.out fun _ _ h => h⟩
  case true =>
  obtain ⟨M, t, rfl, hok, hM, hu⟩ := hL2 rfl
  clear hL2
  by_cases h400 : 400 < G.length
  · have h400' : (400 : Int) < G.length := by omega
    go_wp2_with (go_at_call 9; refine (KN.out _).mono ?_; rintro e W2 ⟨rfl, hk2⟩; have K2 := Lib.hid hk2; clear hk2)
    go_ret
    exact ⟨rfl, K1.out.trans K2.out fun _ _ h => h⟩
  have h400' : ¬ (400 : Int) < G.length := by omega
  by_cases h200 : 200 < text.size
  · have h200' : (200 : Int) < text.size := by omega
    go_wp2_with (go_at_call 9; refine (KN.out _).mono ?_; rintro e W2 ⟨rfl, hk2⟩; have K2 := Lib.hid hk2; clear hk2)
    go_ret
    exact ⟨rfl, K1.out.trans K2.out fun _ _ h => h⟩
  have h200' : ¬ (200 : Int) < text.size := by omega
  have hrs : ∀ r ∈ runesL text 0, isRuneP r := fun r hr => runes_rune hr
  have hrl : (runesL text 0).length ≤ 200 := by rw [runesL_len]; have := countR_le text; omega
  have MN := Lib.hid (mend_any text (by omega))
  unfold mend at MN
  obtain ⟨rs, hrse⟩ : ∃ rs, runesL text 0 = rs := ⟨_, rfl⟩
  rw [hrse] at MN hrs hrl
  have RS := Lib.hid (And.intro hrs hrl)
  clear hrs hrl hrse
  obtain ⟨mt, hmt⟩ : ∃ mt, runeText rs = mt := ⟨_, rfl⟩
  rw [hmt] at MN
  have MT := Lib.hid hmt
  clear hmt
  have OK := Lib.hid (And.intro hok hM)
  have HU := Lib.hid hu
  clear hok hM hu
  go_upto_region 9 with (first | (go_at_call 26; refine (MN.out _).mono ?_; rintro e W2 ⟨rfl, hk2⟩; have K2 := Lib.hid hk2; clear hk2) | (go_at_call 23; refine (new_any _).mono ?_; rintro e W3 ⟨rfl, rfl⟩))
  have KT0 := Lib.hid (KT.made W2)
  obtain ⟨g, hg⟩ : ∃ g, W2.heap.size = g := ⟨_, rfl⟩
  rw [hg] at KT0 ⊢
  obtain ⟨W3, hW3⟩ : ∃ W3, W2.alloc (.cells #[.slice none 0 0, .map none] 88) = W3 := ⟨_, rfl⟩
  rw [hW3] at KT0 ⊢
  have HU2 := Lib.hid ((owns_slAt (E := ladE) HU.out).kept K2.out)
  have HG2 := Lib.hid (HG.out.kept (K1.out.trans K2.out fun _ _ h => h))
  have K2w := Lib.hid (K1.out.trans K2.out fun _ _ h => h)
  have HGB : Hid (∀ b, (Value.slice ga G.length gc).ownBlock = some b → b < W2.heap.size) := Lib.hid fun b hb => Nat.lt_of_lt_of_le (HGB0.out b hb) K2w.out.size
  clear hW3 hg LD HU HG K1 K2 MN HGB0
  have hm60 := OK.out.2
  go_wp2_with fail
  go_loopw [12, 13] (fun tv iv wr => ∃ (i t' : Nat) (T : Int), iv = .int .i64 i ∧ tv = .int .i64 T ∧ i ≤ M.length ∧ LaidOk (M.take i) t' ∧ (t' : Int) ≤ T ∧ T ≤ (t' : Int) + 1 ∧ KT W2 g (insM (M.take i)) wr) (fun _ iv _ => M.length - (intOf iv).toNat)
  case atStart => exact ⟨0, 0, 0, rfl, rfl, Nat.zero_le _, .nil, by omega, by omega, KT0.out⟩
  case round =>
    obtain ⟨i, t', T, rfl, rfl, hi, hok', hT0, hT1, hkt⟩ := hrel
    have KTI := Lib.hid hkt
    have hi0 : (0 : Int) ≤ i := by omega
    by_cases hlt : i < M.length
    case pos =>
      --[
      have hltI : (i : Int) < M.length := by omega
      obtain ⟨x, hx⟩ := get_of_lt hlt
      have INS := Lib.hid (KT.lad OK.out.1 OK.out.2 hx (hkt.still ((Kept.refl (fun _ => False) wr).drew)))
      have h0 := HU2.out.kept hkt.1
      obtain ⟨gu, o, c', e1, _, _, _, h1⟩ := h0.one (by omega)
      cases e1
      have r0 : wr.cell? ⟨gu, o + i * 5, none⟩ = some (.int .i64 x.id.t) := h1 i x hx 0 _ rfl
      have r1 : wr.cell? ⟨gu, o + i * 5 + 1, none⟩ = some (.int .i64 x.id.s) := h1 i x hx 1 _ rfl
      have r2 : wr.cell? ⟨gu, o + i * 5 + 2, none⟩ = some (.int .i64 x.ref.t) := h1 i x hx 2 _ rfl
      have r3 : wr.cell? ⟨gu, o + i * 5 + 3, none⟩ = some (.int .i64 x.ref.s) := h1 i x hx 3 _ rfl
      have r4 : wr.cell? ⟨gu, o + i * 5 + 4, none⟩ = some (.string x.text) := h1 i x hx 4 _ rfl
      have CELLS : Hid (∀ w', Kept (fun _ => False) W2 w' → w'.cell? ⟨gu, o + i * 5, none⟩ = some (.int .i64 x.id.t) ∧ w'.cell? ⟨gu, o + i * 5 + 1, none⟩ = some (.int .i64 x.id.s) ∧ w'.cell? ⟨gu, o + i * 5 + 2, none⟩ = some (.int .i64 x.ref.t) ∧ w'.cell? ⟨gu, o + i * 5 + 3, none⟩ = some (.int .i64 x.ref.s) ∧ w'.cell? ⟨gu, o + i * 5 + 4, none⟩ = some (.string x.text)) := Lib.hid fun w' hk' => by
        obtain ⟨gu', o', c'', e2, _, _, _, h2⟩ := (HU2.out.kept hk').one (by omega)
        cases e2
        exact ⟨h2 i x hx 0 _ rfl, h2 i x hx 1 _ rfl, h2 i x hx 2 _ rfl, h2 i x hx 3 _ rfl, h2 i x hx 4 _ rfl⟩
      have HX := Lib.hid hx
      have HLA := Lib.hid hok'
      clear h1 h0 hx hok' hkt
      go_upto_region 12 with fail
      go_region_held3 (fun w' : World => w'.cell? ⟨gu, o + i * 5, none⟩ = some (.int .i64 x.id.t) ∧ w'.cell? ⟨gu, o + i * 5 + 1, none⟩ = some (.int .i64 x.id.s) ∧ w'.cell? ⟨gu, o + i * 5 + 2, none⟩ = some (.int .i64 x.ref.t) ∧ w'.cell? ⟨gu, o + i * 5 + 3, none⟩ = some (.int .i64 x.ref.s) ∧ w'.cell? ⟨gu, o + i * 5 + 4, none⟩ = some (.string x.text)) (first | exact CELLS.out _ KT4.out.1 | go_keep) (first | (go_at_call 13; refine INS.out.mono ?_; rintro e W4 ⟨rfl, hk4⟩; have KT4 := Lib.hid hk4; clear hk4))
      obtain ⟨hok2, hxt, hc2, hs8⟩ := OK.out.1.step (by omega) HX.out HLA.out
      have ht' := HLA.out.len.2
      have htl : (M.take i).length ≤ i := List.length_take_le i M
      have htb : (t' : Int) ≤ 12000 := by omega
      have CNT : Hid (∀ w', Calls Try.prog 27 #[.string x.text] w' fun e w'' => e = .returned (.int .i64 (countR x.text)) ∧ Kept (fun _ => False) w' w'') := Lib.hid fun w' => (count_any x.text (by unfold maxLen; omega) w').mono fun e w'' ⟨he, p, hp⟩ => ⟨he, hp ▸ iter_kept w' x.text p⟩
      have HOK2 := Lib.hid hok2
      obtain ⟨nx, hnx⟩ : ∃ nx, countR x.text = nx := ⟨_, rfl⟩
      rw [hnx] at CNT HOK2 hc2
      have eT : IntKind.i64.wrap (x.id.t + (nx : Int)) = x.id.t + nx := IntWalk.i64_in _ (by omega)
      have hxb : 1 ≤ x.id.t ∧ x.id.t ≤ 12001 := by omega
      have hnxb : (nx : Int) ≤ 200 := by omega
      have HXT := Lib.hid hxt
      obtain ⟨s0, s1, s2, s3, s4⟩ := CELLS.out _ KT4.out.1
      clear hok2 hnx r0 r1 r2 r3 r4 hxt INS
      go_upto_region 14 with fail
      go_region_held3 (fun w' : World => w'.cell? ⟨gu, o + i * 5, none⟩ = some (.int .i64 x.id.t) ∧ w'.cell? ⟨gu, o + i * 5 + 1, none⟩ = some (.int .i64 x.id.s) ∧ w'.cell? ⟨gu, o + i * 5 + 2, none⟩ = some (.int .i64 x.ref.t) ∧ w'.cell? ⟨gu, o + i * 5 + 3, none⟩ = some (.int .i64 x.ref.s) ∧ w'.cell? ⟨gu, o + i * 5 + 4, none⟩ = some (.string x.text)) (first | exact CELLS.out _ KT5.out.1 | go_keep) (first | (go_at_call 27; refine (CNT.out _).mono ?_; rintro e W5 ⟨rfl, hk5⟩; have KT5 := Lib.hid ((KT4.out.still ((Kept.refl (fun _ => False) W4).drew)).still hk5); clear hk5))
      go_wp2_with fail
      go_roundw
      case rel => exact ⟨i + 1, t' + nx, _, by go_num, rfl, by omega, HOK2.out, by have := HXT.out; omega, by have := HXT.out; omega, KT5.out⟩
      case measure => simp [intOf]; omega
      --]
    case neg =>
      have hltI : ¬ (i : Int) < M.length := by omega
      obtain rfl : i = M.length := by omega
      rw [List.take_length] at KTI
      rw [List.take_length] at hok'
      have HLA := Lib.hid hok'
      clear hkt hok'
      have hI := HLA.out.ins (by omega)
      have ht' := HLA.out.len.2
      have hmb : (M.length : Int) ≤ 60 := by omega
      obtain ⟨Tn, rfl⟩ : ∃ Tn : Nat, T = Tn := ⟨T.toNat, by omega⟩
      have hTb : Tn ≤ 12001 := by omega
      obtain ⟨L1, hL1⟩ : ∃ L1, (insM M).map (turnF G 1 2) = L1 := ⟨_, rfl⟩
      have hids : ids L1 = ids (insM M) := by
        rw [← hL1]
        unfold ids
        rw [List.map_map]
        exact List.map_congr_left fun n _ => by show (turnF G 1 2 n).id = n.id; unfold turnF; split <;> rfl
      have hl1 : L1.length ≤ 12000 := by
        rw [← hL1, List.length_map, hI.len]
        omega
      have hd1 : Doc L1 := by rw [← hL1]; exact turn_doc hI.doc
      have hi1 : ∀ n ∈ L1, n.id.Is := by rw [← hL1]; exact map_turn_is hI.is_
      have hr1 : ∀ n ∈ L1, isRuneP n.rune := by
        intro n hn
        rw [← hL1] at hn
        obtain ⟨m, hm, rfl⟩ := List.mem_map.1 hn
        have e : (turnF G 1 2 m).rune = m.rune := by unfold turnF; split <;> rfl
        rw [e]
        exact (hI.st m hm).2
      have hle1 : ∀ y ∈ ids L1, y.t ≤ Tn := by
        intro y hy
        rw [hids, hI.mem] at hy
        have := (HLA.out.aid y hy).2.1
        omega
      have DEL := Lib.hid (KTI.out.del (by rw [hI.len]; omega) HG2.out GI.out (by omega) HGB.out)
      rw [hL1] at DEL
      have hn1 := shL_le L1
      obtain ⟨n1, hn1e⟩ : ∃ n1, (shL L1).length = n1 := ⟨_, rfl⟩
      rw [hn1e] at hn1
      have TXT : Hid (∀ W, KT W2 g L1 W → Calls Try.prog 17 #[.pointer (some ⟨g, 0, none⟩)] W fun e w' => e = .returned (.string (runeText ((shL L1).map Nd.rune))) ∧ KT W2 g L1 w') := Lib.hid fun W hW => hW.text (by omega)
      have LEN : Hid (∀ W, KT W2 g L1 W → Calls Try.prog 18 #[.pointer (some ⟨g, 0, none⟩)] W fun e w' => e = .returned (.int .i64 n1) ∧ KT W2 g L1 w') := Lib.hid fun W hW => by have h9 := hW.len (by omega); rw [hn1e] at h9; exact h9
      have N1 := Lib.hid hn1e
      have D1 := Lib.hid (And.intro hd1 (And.intro hi1 (And.intro hr1 (And.intro hle1 hl1))))
      have hnb : (n1 : Int) ≤ 12000 := by omega
      have hnb0 : (0 : Int) ≤ n1 := by omega
      have TNB : Hid (Tn ≤ 12001) := Lib.hid hTb
      obtain ⟨was, hwas⟩ : ∃ was, runeText ((shL L1).map Nd.rune) = was := ⟨_, rfl⟩
      rw [hwas] at TXT
      have WAS := Lib.hid hwas
      obtain ⟨ia, ic⟩ := hat
      clear hI hids hd1 hi1 hr1 hle1 hl1 hn1e hL1 hwas hTb HLA ht' hT0 hT1
      have e1 : IntKind.i64.wrap ((n1 : Int) + 1) = (n1 : Int) + 1 := IntWalk.i64_in _ (by omega)
      go_upto_region 18 with (first
        | (go_at_call 14; refine DEL.out.mono ?_; rintro e W4 ⟨rfl, hk⟩; have K4 := Lib.hid hk; clear hk)
        | (go_at_call 17; refine (TXT.out _ K4.out).mono ?_; rintro e W5 ⟨rfl, hk⟩; have K5 := Lib.hid hk; clear hk)
        | (go_at_call 18; refine (LEN.out _ K5.out).mono ?_; rintro e W6 ⟨rfl, hk⟩; have K6 := Lib.hid hk; clear hk))
      obtain ⟨q, hq, hq0, hq1⟩ : ∃ q, at_.tmod ((n1 : Int) + 1) = q ∧ -(n1 : Int) ≤ q ∧ q ≤ n1 := ⟨_, rfl, by have := Int.lt_tmod_of_pos at_ (show (0 : Int) < (n1 : Int) + 1 by omega); omega, by have := Int.tmod_lt_of_pos at_ (show (0 : Int) < (n1 : Int) + 1 by omega); omega⟩
      rw [hq]
      clear hq ia ic
      go_upto_if 96 with fail
      go_cut [2] (fun v wx => (∃ m : Nat, v = .int .i64 m ∧ m ≤ n1) ∧ KT W2 g L1 wx)
      case first =>
        by_cases hn : q < 0
        · have e2 : IntKind.i64.wrap (q + (n1 : Int)) = q + n1 := IntWalk.i64_in _ (by omega)
          have e3 : IntKind.i64.wrap (q + (n1 : Int) + 1) = q + n1 + 1 := IntWalk.i64_in _ (by omega)
          go_wp2_with (go_at_call 18; refine (LEN.out _ K6.out).mono ?_; rintro e W7 ⟨rfl, hk⟩; have K7 := Lib.hid hk; clear hk)
          go_meet
          case rel => exact ⟨⟨(q + n1 + 1).toNat, by congr 1; omega, by omega⟩, K7.out⟩
        · go_wp2_with fail
          go_meet
          case rel => exact ⟨⟨q.toNat, by congr 1; omega, by omega⟩, K6.out⟩
      case' rest =>
      obtain ⟨⟨m, rfl, hm⟩, hk6⟩ := hcut
      have K7 := Lib.hid hk6
      clear hk6 hq0 hq1 K6 DEL e1
      obtain ⟨hrs, hrl⟩ := RS.out
      have hmts : mt.size ≤ 800 ∧ countR mt ≤ 200 := by
        rw [← MT.out]
        rw [runeText_size, count_runeText hrs]
        have := (flat_len rs).2
        omega
      have MS := Lib.hid hmts
      have hTb := TNB.out
      have hTi : (Tn : Int) ≤ 12001 := by omega
      have e4 : IntKind.i64.wrap ((Tn : Int) + 1) = (Tn : Int) + 1 := IntWalk.i64_in _ (by omega)
      have AID : Hid (∀ w', Calls Try.prog 28 #[.int .i64 ((Tn : Int) + 1), .int .i64 1] w' fun e w'' => e = .returned (.agg #[.int .i64 ((Tn : Int) + 1), .int .i64 1]) ∧ Kept (fun _ => False) w' w'') := Lib.hid fun w' => (id_any _ _ w').mono fun e w'' ⟨he, hg⟩ => ⟨he, hg.kept⟩
      have HQ := Lib.hid hm
      clear hmts hrs hrl hTb hm
      cases hze : mt.toList.isEmpty
      case true =>
        --[
        have hnil : mt = ⟨#[]⟩ := text_nil' (by simpa using hze)
        have INS0 : Hid (∀ W, KT W2 g L1 W → Calls Try.prog 13 #[.pointer (some ⟨g, 0, none⟩), .agg #[.int .i64 ((Tn : Int) + 1), .int .i64 1], .agg #[.int .i64 0, .int .i64 0], .string mt] W fun e w' => e = .returned (.int .i64 2) ∧ KT W2 g L1 w') := Lib.hid fun W hW => by
          have hE : insXE L1 ⟨⟨(Tn : Int) + 1, 1⟩, ID.zero, mt⟩ = 2 := by
            unfold insXE insE
            rw [if_neg, if_pos]
            · exact .inl (by rw [hnil]; rfl)
            · rintro (h | h)
              · exact h ⟨by show 1 ≤ (Tn : Int) + 1; omega, by show (Tn : Int) + 1 ≤ 2147483647; omega, by show (1 : Int) ≤ 1; decide, by show (1 : Int) ≤ 16; decide⟩
              · exact h.1 rfl
          have hX : insX L1 ⟨⟨(Tn : Int) + 1, 1⟩, ID.zero, mt⟩ = L1 := if_pos (by have h9 := hE; unfold insXE at h9; rw [h9]; decide)
          have h9 := hW.ins ⟨⟨(Tn : Int) + 1, 1⟩, ID.zero, mt⟩ (by have := MS.out.1; unfold maxLen; show mt.size ≤ _; omega) (by have := MS.out.2; have := D1.out.2.2.2.2; show _ + countR mt ≤ _; omega)
          rw [hE, hX] at h9
          exact h9
        clear hnil
        go_wp2_with (first
          | (go_at_call 28; refine (AID.out _).mono ?_; rintro e W8 ⟨rfl, hk⟩; have K8 := Lib.hid (K7.out.still hk); clear hk)
          | (go_at_call 13; refine (INS0.out _ K8.out).mono ?_; rintro e W9 ⟨rfl, hk⟩; have K9 := Lib.hid hk; clear hk)
          | (go_at_call 17; refine (TXT.out _ K9.out).mono ?_; rintro e W10 ⟨rfl, hk⟩; have K10 := Lib.hid hk; clear hk)
          | (go_at_call 9; refine (KN.out _).mono ?_; rintro e W11 ⟨rfl, hk⟩; have K11 := Lib.hid hk; clear hk))
        go_ret
        exact ⟨rfl, (K2w.out.trans K10.out.1 fun _ _ h => h).trans K11.out fun _ _ h => h⟩
        --]
      case false =>
      go_upto_region 23 with fail
      have hlow : TBox (wc.alloc (.cells #[.int .i64 0, .int .i64 0] 27)) g L1 (fun b => W2.heap.size ≤ b ∧ b < wc.heap.size) := K7.out.2.low.still ((Kept.refl _ _).alloc _)
      have hz0 := Blk.new wc 27 #[.int .i64 0, .int .i64 0]
      have hkk : Kept (fun _ => False) W2 (wc.alloc (.cells #[.int .i64 0, .int .i64 0] 27)) := K7.out.1.alloc _
      obtain ⟨z, hz⟩ : ∃ z, wc.heap.size = z := ⟨_, rfl⟩
      have hz2 : W2.heap.size ≤ z := by rw [← hz]; exact K7.out.1.size
      obtain ⟨wz, hwz⟩ : ∃ wz, wc.alloc (.cells #[.int .i64 0, .int .i64 0] 27) = wz := ⟨_, rfl⟩
      rw [hwz, hz] at hlow hz0 ⊢
      rw [hwz] at hkk
      have TZ := Lib.hid (And.intro hkk hlow)
      have BZ := Lib.hid hz0
      have Z2 := Lib.hid hz2
      clear hwz hz hlow hz0 hkk hz2 K7
      go_cut [122] (fun v wx => v = .bool (decide (0 < m)) ∧ wz = wx)
      case first =>
        by_cases h0 : 0 < m
        · have h0' : (0 : Int) < m := by omega
          go_wp2_with fail
          go_meet
          case rel => exact ⟨by rw [decide_eq_true h0], rfl⟩
        · have h0' : ¬ (0 : Int) < m := by omega
          go_wp2_with fail
          go_meet
          case rel => exact ⟨by rw [decide_eq_false h0], rfl⟩
      case' rest =>
      obtain ⟨rfl, rfl⟩ := hcut
      go_upto_if 122 with fail
      go_cut [15] (fun v wx => v = .pointer (some ⟨z, 0, none⟩) ∧ ∃ ref : ID, ((m = 0 ∧ ref = ID.zero) ∨ ∃ k x, m = k + 1 ∧ (shL L1)[k]? = some x ∧ ref = x.id) ∧ Blk wx z 27 #[.int .i64 ref.t, .int .i64 ref.s] ∧ Kept (fun _ => False) W2 wx ∧ TBox wx g L1 (fun b => W2.heap.size ≤ b ∧ b < z))
      case first =>
        --[
        by_cases h0 : 0 < m
        · rw [decide_eq_true h0]
          obtain ⟨k, rfl⟩ : ∃ k, m = k + 1 := ⟨m - 1, by omega⟩
          have hkl : k < (shL L1).length := by have := HQ.out; have := N1.out; omega
          obtain ⟨x, hx⟩ := get_of_lt hkl
          have HX := Lib.hid hx
          have hnb9 : (k : Int) ≤ 12000 := by have := HQ.out; omega
          have e5 : IntKind.i64.wrap (((k + 1 : Nat) : Int) - 1) = (k : Int) := by rw [IntWalk.i64_in _ (by omega)]; omega
          have AT : Hid (Calls Try.prog 10 #[.pointer (some ⟨g, 0, none⟩), .int .i64 k] wz fun e w' => e = .returned (.tuple #[.agg #[.int .i64 x.id.t, .int .i64 x.id.s], .int .i64 0]) ∧ Kept (fun _ => False) wz w') := Lib.hid (by
            have e1 : atP L1 k = (x.id, 0) := by
              unfold atP
              rw [if_pos ⟨by omega, by omega⟩, show ((k : Int)).toNat = k by omega, nth_some hx]
            have h9 := TZ.out.2.look (by have := D1.out.2.2.2.2; omega) k
            rw [e1] at h9
            exact h9)
          clear hx hkl
          go_upto_region 27 with (go_at_call 10; refine AT.out.mono ?_; rintro e W8 ⟨rfl, hk8⟩; have K8 := Lib.hid hk8; clear hk8)
          have hbx := Blk.new W8 27 #[.int .i64 x.id.t, .int .i64 x.id.s]
          have k9 : Kept (fun _ => False) wz (W8.alloc (.cells #[.int .i64 x.id.t, .int .i64 x.id.s] 27)) := K8.out.alloc _
          obtain ⟨W9, hW9⟩ : ∃ W9, W8.alloc (.cells #[.int .i64 x.id.t, .int .i64 x.id.s] 27) = W9 := ⟨_, rfl⟩
          rw [hW9] at hbx k9 ⊢
          have hbz9 := k9.blk (fun h => h) BZ.out
          have x0 := hbx.cell' (i := 0) (v := .int .i64 x.id.t) rfl
          have x1 := hbx.cell' (i := 1) (v := .int .i64 x.id.s) rfl
          have y0 := hbz9.cell' (i := 0) (v := .int .i64 0) rfl
          have y1 := hbz9.cell' (i := 1) (v := .int .i64 0) rfl
          have g0 := hbz9.frozen 0
          have g1 := hbz9.frozen 1
          have BZ9 := Lib.hid hbz9
          have KK9 := Lib.hid k9
          clear hW9 hbx k9 hbz9
          go_wp2_with fail
          go_meet
          case rel =>
            have kz : Kept (fun b => b = z) W9 ((W9.setCell ⟨z, 0, none⟩ (.int .i64 x.id.t)).setCell ⟨z, 1, none⟩ (.int .i64 x.id.s)) := ((Kept.refl (fun b => b = z) W9).setCell (p := ⟨z, 0, none⟩) (fun _ => rfl) _).setCell (p := ⟨z, 1, none⟩) (fun _ => rfl) _
            refine ⟨by first | trivial | rfl, x.id, .inr ⟨k, x, by first | trivial | rfl, HX.out, by first | trivial | rfl⟩, ?_, ?_, ?_⟩
            · have h9 := (BZ9.out.set_ 0 (.int .i64 x.id.t)).set_ 1 (.int .i64 x.id.s)
              simpa using h9
            · exact (TZ.out.1.trans KK9.out fun _ _ h => h).trans kz fun b hb e => by have := Z2.out; have e : b = z := e; omega
            · exact (TZ.out.2.still KK9.out).keep kz fun b hb e => by have e : b = z := e; omega
        · rw [decide_eq_false h0]
          obtain rfl : m = 0 := by omega
          go_wp2_with fail
          go_meet
          case rel => exact ⟨by first | trivial | rfl, ID.zero, .inl ⟨by first | trivial | rfl, rfl⟩, BZ.out, TZ.out.1, TZ.out.2⟩
        --]
      case' rest =>
      obtain ⟨rfl, ref, href, hbz, hkz, htz⟩ := hcut
      have hc0 := hbz.cell' (i := 0) (v := .int .i64 ref.t) rfl
      have hc1 := hbz.cell' (i := 1) (v := .int .i64 ref.s) rfl
      have INS : Hid (∀ W, Kept (fun _ => False) wc W → Calls Try.prog 13 #[.pointer (some ⟨g, 0, none⟩), .agg #[.int .i64 ((Tn : Int) + 1), .int .i64 1], .agg #[.int .i64 ref.t, .int .i64 ref.s], .string mt] W fun e w' => e = .returned (.int .i64 (insXE L1 ⟨⟨(Tn : Int) + 1, 1⟩, ref, mt⟩)) ∧ KT W2 g (insX L1 ⟨⟨(Tn : Int) + 1, 1⟩, ref, mt⟩) w' ∧ Blk w' z 27 #[.int .i64 ref.t, .int .i64 ref.s]) := Lib.hid fun W hW => by
        refine ((htz.still hW).insert ⟨(Tn : Int) + 1, 1⟩ ref mt (by have := MS.out.1; unfold maxLen; omega) (by have := MS.out.2; have := D1.out.2.2.2.2; omega)).mono ?_
        rintro e w' ⟨he, h3, h4⟩
        refine ⟨he, ⟨(hkz.trans hW fun _ _ h => h).trans h4 fun b hb h9 => by omega, h3.mono fun b hb => ?_⟩, h4.blk (fun h => by omega) (hW.blk (fun h => h) hbz)⟩
        have := (hkz.trans hW fun _ _ h => h).size
        rcases hb with hb | hb
        · exact hb.1
        · omega
      have HREF := Lib.hid href
      have K1c := Lib.hid hkz
      have BZc := Lib.hid hbz
      clear href hkz hbz htz BZ TZ
      obtain ⟨L2, hL2⟩ : ∃ L2, insX L1 ⟨⟨(Tn : Int) + 1, 1⟩, ref, mt⟩ = L2 := ⟨_, rfl⟩
      have hrne : rs ≠ [] := by
        rintro rfl
        have h9 := MT.out
        rw [← h9, show (runeText []).toList = [] by rw [ByteArray.toList_eq]; rfl] at hze
        cases hze
      have hJL := just_law D1.out.1 D1.out.2.1 (by have := TNB.out; omega) D1.out.2.2.2.1 RS.out.1 hrne (by have := RS.out.2; omega) HREF.out
      rw [MT.out, hL2] at hJL
      have hE2 : insXE L1 ⟨⟨(Tn : Int) + 1, 1⟩, ref, mt⟩ = 0 := hJL.1
      rw [hE2, hL2] at INS
      have hl2 : L2.length ≤ 13000 := by
        have h9 := insL_len L1 ⟨(Tn : Int) + 1, 1⟩ ref mt.size (badB mt) (runesL mt 0)
        have e9 : insL L1 ⟨(Tn : Int) + 1, 1⟩ ref mt.size (badB mt) (runesL mt 0) = L2 := hL2
        rw [e9, ← MT.out, (runeText_runes RS.out.1).1] at h9
        have := RS.out.2
        have := D1.out.2.2.2.2
        omega
      obtain ⟨A, hA⟩ : ∃ A, (shL L1).map Nd.rune = A := ⟨_, rfl⟩
      have hAr : ∀ r ∈ A, isRuneP r := by
        intro r hr
        rw [← hA] at hr
        obtain ⟨n, hn, rfl⟩ := List.mem_map.1 hr
        exact D1.out.2.2.1 n (List.mem_filter.1 hn).1
      have hAl : A.length = n1 := by rw [← hA, List.length_map, N1.out]
      have hwas : runeText A = was := by rw [← hA]; exact WAS.out
      obtain ⟨hd, hhd⟩ : ∃ hd, runeText (A.take m) = hd := ⟨_, rfl⟩
      obtain ⟨tl, htl⟩ : ∃ tl, runeText (A.drop m) = tl := ⟨_, rfl⟩
      have hwl : was.size ≤ 50000 := by
        rw [← hwas, runeText_size]
        have := (flat_len A).2
        have := HQ.out
        have := D1.out.2.2.2.2
        have := shL_le L1
        have := N1.out
        omega
      have CUT : Hid (∀ W, Calls Try.prog 29 #[.string was, .int .i64 m] W fun e w' => e = .returned (.tuple #[.string hd, .string tl]) ∧ Kept (fun _ => False) W w') := Lib.hid fun W => by
        have h9 := cut_any was m (by omega) (by have := HQ.out; omega) W
        rw [← hwas, cut_runes hAr m, (cut_parts m).1, (cut_parts m).2, hhd, htl, hwas] at h9
        exact h9
      have hsz : hd.size ≤ 60000 ∧ tl.size ≤ 60000 := by
        rw [← hhd, ← htl, runeText_size, runeText_size]
        have := (flat_len (A.take m)).2
        have := (flat_len (A.drop m)).2
        have := List.length_take_le m A
        have : (A.drop m).length ≤ A.length := by rw [List.length_drop]; omega
        have := HQ.out
        have := D1.out.2.2.2.2
        have := shL_le L1
        have := N1.out
        omega
      have hsz1 : ¬ 9223372036854775807 < hd.size + mt.size := by have := MS.out.1; omega
      have hsz2 : ¬ 9223372036854775807 < hd.size + mt.size + tl.size := by have := MS.out.1; omega
      have hT2 : runeText ((shL L2).map Nd.rune) = hd ++ mt ++ tl := by
        rw [hJL.2, List.map_append, List.map_append, freshL_runes, List.map_take, List.map_drop, hA, ← hhd, ← htl, ← MT.out, runeText_append, runeText_append]
      have TX2 : Hid (∀ W, KT W2 g L2 W → Calls Try.prog 17 #[.pointer (some ⟨g, 0, none⟩)] W fun e w' => e = .returned (.string (hd ++ mt ++ tl)) ∧ KT W2 g L2 w') := Lib.hid fun W hW => by have h9 := hW.text (by omega); rw [hT2] at h9; exact h9
      obtain ⟨n2, hn2⟩ : ∃ n2, (shL L2).length = n2 := ⟨_, rfl⟩
      have LN2 : Hid (∀ W, KT W2 g L2 W → Calls Try.prog 18 #[.pointer (some ⟨g, 0, none⟩)] W fun e w' => e = .returned (.int .i64 n2) ∧ KT W2 g L2 w') := Lib.hid fun W hW => by have h9 := hW.len (by omega); rw [hn2] at h9; exact h9
      have AF : Hid (∀ k : Nat, k < n2 → ∃ x : Nd, (∀ W, KT W2 g L2 W → Calls Try.prog 10 #[.pointer (some ⟨g, 0, none⟩), .int .i64 k] W fun e w' => e = .returned (.tuple #[.agg #[.int .i64 x.id.t, .int .i64 x.id.s], .int .i64 0]) ∧ KT W2 g L2 w') ∧ ∀ W, KT W2 g L2 W → Calls Try.prog 12 #[.pointer (some ⟨g, 0, none⟩), .agg #[.int .i64 x.id.t, .int .i64 x.id.s]] W fun e w' => e = .returned (.tuple #[.int .i64 k, .int .i64 1]) ∧ KT W2 g L2 w') := Lib.hid fun k hk => by
        obtain ⟨x, hx⟩ := get_of_lt (show k < (shL L2).length by omega)
        refine ⟨x, fun W hW => hW.at_ (by omega) hx, fun W hW => ?_⟩
        have h9 := hW.2.find (by omega) x.id
        rw [find_shown hW.2.doc hx] at h9
        exact h9.mono fun e w' ⟨he, hk⟩ => ⟨he, hW.still hk⟩
      clear hsz hE2 hrne hJL hl2 hA hAr hAl hwas hhd htl hwl hT2 hn2 hL2
      go_upto_region 28 with fail
      go_region_held3 (fun w' : World => w'.cell? ⟨z, 0, none⟩ = some (.int .i64 ref.t) ∧ w'.cell? ⟨z, 1, none⟩ = some (.int .i64 ref.s)) (first | exact ⟨BI.out.cell' rfl, BI.out.cell' rfl⟩ | go_keep) (first
        | (go_at_call 28; refine (AID.out _).mono ?_; rintro e W8 ⟨rfl, hk⟩; have K8 := Lib.hid (((Kept.refl (fun _ => False) wc).drew).trans hk fun _ _ h => h); have BI := Lib.hid (K8.out.blk (fun h => h) BZc.out); clear hk)
        | (go_at_call 13; refine (INS.out _ K8.out).mono ?_; rintro e W9 ⟨rfl, hk, hb⟩; have K9 := Lib.hid hk; have BI := Lib.hid hb; clear hk hb))
      go_upto_region 33 with (first
        | (go_at_call 29; refine (CUT.out _).mono ?_; rintro e W10 ⟨rfl, hk⟩; have K10 := Lib.hid (K9.out.still hk); clear hk)
        | (go_at_call 17; refine (TX2.out _ K10.out).mono ?_; rintro e W11 ⟨rfl, hk⟩; have K11 := Lib.hid hk; clear hk))
      go_wp2_with fail
      go_loopw [20] (fun iv wr => ∃ i : Nat, iv = .int .i64 i ∧ i ≤ 200 ∧ KT W2 g L2 wr) (fun iv _ => 200 - (intOf iv).toNat)
      case atStart => exact ⟨0, rfl, Nat.zero_le _, K11.out⟩
      case round =>
        obtain ⟨i, rfl, hi, hk12⟩ := hrel
        have K12 := Lib.hid hk12
        have hi0 : (0 : Int) ≤ i ∧ (i : Int) ≤ 200 := by omega
        clear hk12
        by_cases h1 : i < n2
        · have h1' : (i : Int) < n2 := by omega
          by_cases h2 : i < 200
          · have h2' : (i : Int) < 200 := by omega
            obtain ⟨x, hat, hfi⟩ := AF.out i h1
            have HAT := Lib.hid hat
            have HFI := Lib.hid hfi
            clear hat hfi
            go_upto_region 37 with (first
              | (go_at_call 18; refine (LN2.out _ K12.out).mono ?_; rintro e W13 ⟨rfl, hk⟩; have K13 := Lib.hid hk; clear hk)
              | (go_at_call 10; refine (HAT.out _ K13.out).mono ?_; rintro e W14 ⟨rfl, hk⟩; have K14 := Lib.hid hk; clear hk))
            have hbx := Blk.new W14 27 #[.int .i64 x.id.t, .int .i64 x.id.s]
            have k15 : KT W2 g L2 (W14.alloc (.cells #[.int .i64 x.id.t, .int .i64 x.id.s] 27)) := K14.out.still ((Kept.refl (fun _ => False) W14).alloc _)
            obtain ⟨W15, hW15⟩ : ∃ W15, W14.alloc (.cells #[.int .i64 x.id.t, .int .i64 x.id.s] 27) = W15 := ⟨_, rfl⟩
            rw [hW15] at hbx k15 ⊢
            have x0 := hbx.cell' (i := 0) (v := .int .i64 x.id.t) rfl
            have x1 := hbx.cell' (i := 1) (v := .int .i64 x.id.s) rfl
            have K15 := Lib.hid k15
            clear hW15 hbx k15
            go_wp2_with (go_at_call 12; refine (HFI.out _ K15.out).mono ?_; rintro e W16 ⟨rfl, hk⟩; have K16 := Lib.hid hk; clear hk)
            go_roundw
            case rel => exact ⟨i + 1, by go_num, by omega, K16.out⟩
            case measure => simp [intOf]; omega
          · have h2' : ¬ (i : Int) < 200 := by omega
            go_wp2_with (first
              | (go_at_call 18; refine (LN2.out _ K12.out).mono ?_; rintro e W13 ⟨rfl, hk⟩; have K13 := Lib.hid hk; clear hk)
              | (go_at_call 9; refine (KN.out _).mono ?_; rintro e W14 ⟨rfl, hk⟩; have K14 := Lib.hid hk; clear hk))
            go_ret
            exact ⟨rfl, (K2w.out.trans K13.out.1 fun _ _ h => h).trans K14.out fun _ _ h => h⟩
        · have h1' : ¬ (i : Int) < n2 := by omega
          go_wp2_with (first
            | (go_at_call 18; refine (LN2.out _ K12.out).mono ?_; rintro e W13 ⟨rfl, hk⟩; have K13 := Lib.hid hk; clear hk)
            | (go_at_call 9; refine (KN.out _).mono ?_; rintro e W14 ⟨rfl, hk⟩; have K14 := Lib.hid hk; clear hk))
          go_ret
          exact ⟨rfl, (K2w.out.trans K13.out.1 fun _ _ h => h).trans K14.out fun _ _ h => h⟩
end Go.Proofs.Ytlafodnaifghcaa.Tr
