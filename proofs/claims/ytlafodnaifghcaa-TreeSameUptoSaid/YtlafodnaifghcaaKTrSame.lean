/- hearsaylaw11.TreeSame, walked. -/
import Derived.Test.YtlafodnaifghcaaKTrSameL
import Derived.Test.YtlafodnaifghcaaKTrDuo
import Derived.Test.YtlafodnaifghcaaK37
import Derived.Test.YtlafodnaifghcaaKTrInts
import Derived.Deep.RegionHeld3
import Derived.Deep.CutBlock
import Derived.Deep.DeepCutAuto
namespace Go.Proofs.Ytlafodnaifghcaa.Tr
open Go.RowKit Go.Sort Go.Proofs.Ytlafodnaifghcaa.St Go.Proofs.Ytlafodnaifghcaa.Gl Go.Proofs.Ytlafodnaifghcaa
attribute [local go_sem] Oper.semAt_some
theorem D2.lad {W1 W : World} {X : Nat → Prop} {ga gb : Nat} {Lb : List Nd} {M : List Lad} {t i : Nat} {x : Lad} (hok : LaidOk M t) (hM : M.length ≤ 60) (hx : M[i]? = some x) (h : D2 W1 X ga gb (insM (M.take i)) Lb W) :
    Calls Try.prog 13 #[.pointer (some ⟨ga, 0, none⟩), .agg #[.int .i64 x.id.t, .int .i64 x.id.s], .agg #[.int .i64 x.ref.t, .int .i64 x.ref.s], .string x.text] W fun e W' => e = .returned (.int .i64 0) ∧ D2 W1 X ga gb (insM (M.take (i + 1))) Lb W' := by
  obtain ⟨t', h1, _, h3, h4, h5, h6, _⟩ := hok.turn (by omega) i x hx
  have ht := hok.len.2
  have hl := (h1.ins (by rw [List.length_take]; omega)).len
  refine (h.insA x (by unfold maxLen; omega) (by omega)).mono ?_
  rintro e W' ⟨rfl, hk, _⟩
  refine ⟨?_, ?_⟩
  · rw [h6]
  · rw [LaidOk.take_some hx, insM_snoc]
    exact hk
theorem owns_lower8 {w : World} {base base' n size : Nat} {e : TypeId} {v : Value} {xs : List Value} (h : w.ownsRow base e size v n xs) (hb : base' ≤ base) : w.ownsRow base' e size v n xs := by
  refine ⟨h.1, ?_⟩
  rcases h.2 with h | ⟨g, cap, cur, h1, h2, h3⟩
  · exact .inl h
  · exact .inr ⟨g, cap, cur, h1, by omega, h3⟩
theorem Lad.Ok.small {x : Lad} (h : x.Ok) : x.text.size ≤ 800 ∧ countR x.text ≤ 200 := by
  obtain ⟨T, s, r, rs, rfl, _, _, _, _, _, hr, hl⟩ := h.form
  dsimp only
  rw [runeText_size, count_runeText hr]
  have := (flat_len rs).2
  omega
theorem insX_no {L : List Nd} {x : Lad} (h : insXE L x ≠ 0) : insX L x = L := by
  unfold insX insL
  exact if_pos h
def KFin3 (w : World) (e : Ending) (w' : World) : Prop := e = .returned (.bool true) ∧ Kept (fun _ => False) w w'
set_option maxRecDepth 100000 in
set_option maxHeartbeats 8000000 in
theorem same_any {w : World} {v tv gv : Value} {P : List Pc} {T : List Int} {G : List Run} (h : SlAt pcE w v P) (hin : ∀ p ∈ P, p.In) (ht : SlAt intE w tv T) (hti : ∀ x ∈ T, I64 x) (hg : SlAt runE w gv G) (hgin : ∀ r ∈ G, r.In) (hgb : ∀ b, gv.ownBlock = some b → b < w.heap.size) (at_ : Int) :
    Calls Try.prog 4 #[v, tv, gv, .int .i64 at_] w (KFin3 w) := by
  have LD := Lib.hid (laid_any h hin)
  have hgl := hg.le
  have htl := ht.le
  unfold maxLen at hgl htl
  obtain ⟨ra, rc, rfl, _, _⟩ := hg.sl
  obtain ⟨ta, tc, rfl, _, _⟩ := ht.sl
  obtain ⟨va, vc, rfl, _, _⟩ := h.sl
  have HG := Lib.hid hg
  have GI := Lib.hid hgin
  have HGB0 := Lib.hid hgb
  have HT := Lib.hid ht
  have TI := Lib.hid hti
  have KN := Lib.hid known_any
  clear h hin hg hgin hgb ht hti
  go_enter Try.func4, Try.ntmps4
  go_upto_region 2 with (go_at_call 22; refine LD.out.mono ?_; rintro e W1 hL; obtain ⟨hk1, u, n, c, b, rfl, hL2⟩ := hL.form; clear hL; have K1 := Lib.hid hk1; clear hk1)
  cases b
  case false =>
    go_wp2_with (go_at_call 9; refine (KN.out _).mono ?_; rintro e W2 ⟨rfl, hk2⟩; have K2 := Lib.hid hk2; clear hk2)
    go_ret
    exact ⟨rfl, K1.out.trans K2.out fun _ _ h => h⟩
  case true =>
  obtain ⟨M, t, rfl, hok, hM, hu⟩ := hL2 rfl
  clear hL2
  by_cases h400 : 400 < G.length
  · have h400' : (400 : Int) < G.length := by omega
    go_wp2_with (go_at_call 9; refine (KN.out _).mono ?_; rintro e W2 ⟨rfl, hk2⟩; have K2 := Lib.hid hk2; clear hk2)
    go_ret
    exact ⟨rfl, K1.out.trans K2.out fun _ _ h => h⟩
  have h400' : ¬ (400 : Int) < G.length := by omega
  by_cases h200 : 200 < T.length
  · have h200' : (200 : Int) < T.length := by omega
    go_wp2_with (go_at_call 9; refine (KN.out _).mono ?_; rintro e W2 ⟨rfl, hk2⟩; have K2 := Lib.hid hk2; clear hk2)
    go_ret
    exact ⟨rfl, K1.out.trans K2.out fun _ _ h => h⟩
  have h200' : ¬ (200 : Int) < T.length := by omega
  have OK := Lib.hid (And.intro hok hM)
  have HU2 := Lib.hid (owns_slAt (E := ladE) hu)
  clear hok hM hu LD
  go_upto_region 6 with (go_at_call 23; refine (new_any _).mono ?_; rintro e W3 ⟨rfl, rfl⟩)
  have DT0 := Lib.hid (D2.made W1)
  obtain ⟨g, hg⟩ : ∃ g, W1.heap.size = g := ⟨_, rfl⟩
  rw [hg] at DT0 ⊢
  obtain ⟨W3, hW3⟩ : ∃ W3, (W1.alloc (.cells #[.slice none 0 0, .map none] 88)).alloc (.cells #[.slice none 0 0, .map none] 88) = W3 := ⟨_, rfl⟩
  rw [hW3] at DT0 ⊢
  have HG2 := Lib.hid (HG.out.kept K1.out)
  have HT2 := Lib.hid (HT.out.kept K1.out)
  have HGB := Lib.hid (fun b hb => Nat.lt_of_lt_of_le (HGB0.out b hb) K1.out.size)
  clear hW3 hg HG HT HGB0
  have hm60 := OK.out.2
  have hg1 : ¬ g = g + 1 := by omega
  go_wp2_with fail
  go_loopw [13] (fun iv wr => ∃ (i t' : Nat), iv = .int .i64 i ∧ i ≤ M.length ∧ LaidOk (M.take i) t' ∧ D2 W1 (fun _ => False) g (g + 1) (insM (M.take i)) [] wr) (fun iv _ => M.length - (intOf iv).toNat)
  case atStart => exact ⟨0, 0, rfl, Nat.zero_le _, .nil, DT0.out⟩
  case round =>
    obtain ⟨i, t', rfl, hi, hok', hkt⟩ := hrel
    have KTI := Lib.hid hkt
    have hi0 : (0 : Int) ≤ i := by omega
    by_cases hlt : i < M.length
    case pos =>
      --[
      have hltI : (i : Int) < M.length := by omega
      obtain ⟨x, hx⟩ := get_of_lt hlt
      have INS := Lib.hid (D2.lad OK.out.1 OK.out.2 hx (hkt.still ((Kept.refl (fun _ => False) wr).drew)))
      have h0 := HU2.out.kept hkt.kept
      obtain ⟨gu, o, c', e1, _, _, _, h1⟩ := h0.one (by omega)
      cases e1
      have r0 : wr.cell? ⟨gu, o + i * 5, none⟩ = some (.int .i64 x.id.t) := h1 i x hx 0 _ rfl
      have r1 : wr.cell? ⟨gu, o + i * 5 + 1, none⟩ = some (.int .i64 x.id.s) := h1 i x hx 1 _ rfl
      have r2 : wr.cell? ⟨gu, o + i * 5 + 2, none⟩ = some (.int .i64 x.ref.t) := h1 i x hx 2 _ rfl
      have r3 : wr.cell? ⟨gu, o + i * 5 + 3, none⟩ = some (.int .i64 x.ref.s) := h1 i x hx 3 _ rfl
      have r4 : wr.cell? ⟨gu, o + i * 5 + 4, none⟩ = some (.string x.text) := h1 i x hx 4 _ rfl
      have CELLS : Hid (∀ w', Kept (fun _ => False) W1 w' → w'.cell? ⟨gu, o + i * 5, none⟩ = some (.int .i64 x.id.t) ∧ w'.cell? ⟨gu, o + i * 5 + 1, none⟩ = some (.int .i64 x.id.s) ∧ w'.cell? ⟨gu, o + i * 5 + 2, none⟩ = some (.int .i64 x.ref.t) ∧ w'.cell? ⟨gu, o + i * 5 + 3, none⟩ = some (.int .i64 x.ref.s) ∧ w'.cell? ⟨gu, o + i * 5 + 4, none⟩ = some (.string x.text)) := Lib.hid fun w' hk' => by
        obtain ⟨gu', o', c'', e2, _, _, _, h2⟩ := (HU2.out.kept hk').one (by omega)
        cases e2
        exact ⟨h2 i x hx 0 _ rfl, h2 i x hx 1 _ rfl, h2 i x hx 2 _ rfl, h2 i x hx 3 _ rfl, h2 i x hx 4 _ rfl⟩
      have OK2 := Lib.hid (OK.out.1.step (by omega) hx hok').1
      clear h1 h0 hx hok' hkt
      go_upto_region 11 with fail
      go_region_held3 (fun w' : World => w'.cell? ⟨gu, o + i * 5, none⟩ = some (.int .i64 x.id.t) ∧ w'.cell? ⟨gu, o + i * 5 + 1, none⟩ = some (.int .i64 x.id.s) ∧ w'.cell? ⟨gu, o + i * 5 + 2, none⟩ = some (.int .i64 x.ref.t) ∧ w'.cell? ⟨gu, o + i * 5 + 3, none⟩ = some (.int .i64 x.ref.s) ∧ w'.cell? ⟨gu, o + i * 5 + 4, none⟩ = some (.string x.text)) (first | exact CELLS.out _ KT4.out.kept | go_keep) (first | (go_at_call 13; refine INS.out.mono ?_; rintro e W4 ⟨rfl, hk4⟩; have KT4 := Lib.hid hk4; clear hk4))
      go_wp2_with fail
      go_roundw
      case rel => exact ⟨i + 1, _, by go_num, by omega, OK2.out, KT4.out⟩
      case measure => simp [intOf]; omega
      --]
    case neg =>
      have hltI : ¬ (i : Int) < M.length := by omega
      obtain rfl : i = M.length := by omega
      rw [List.take_length] at KTI
      rw [List.take_length] at hok'
      have hI := hok'.ins (by omega)
      have ht' := hok'.len.2
      have HLA := Lib.hid hok'
      have haid := hok'.len.1
      clear hkt hok'
      have hmb : (M.length : Int) ≤ 60 := by omega
      have hL0l : (insM M).length ≤ 12000 := by rw [hI.len]; omega
      have hal : (aids M).length ≤ 12000 := by omega
      have HAL := Lib.hid hal
      have HL0 := Lib.hid hL0l
      have MU := Lib.hid (HU2.out.kept KTI.out.kept)
      clear hI hal ht' haid
      go_upto_region 15 with (at_builtin; refine wpList_append_row ladE rfl (.tmp 70) (.tmp 71) 47 rfl wr.heap.size 52 _ 48 Try.underlying47 info_laid rfl (D := []) (L := M) rfl rfl (World.ownsRow_nil _ _ _ _) MU.out (by unfold maxLen; simp; omega) (by simp; omega) (Nat.le_refl _) ?_; intro v1 w1 ho1 hk1; have O1 := Lib.hid ho1; have DT1 := Lib.hid (KTI.out.rows (X' := fun b => v1.ownBlock = some b) hk1 (fun b hb => by cases hb) (fun b hb => ⟨(owns_lt ho1 b hb).2, fun h9 => by have := (owns_lt ho1 b hb).1; omega⟩)); clear ho1 hk1)
      clear MU KTI DT0
      go_wp2_with fail
      go_loopw [14, 15] (fun lv iv wr => ∃ (i : Nat) (Lf : List Lad) (L : List Nd), iv = .int .i64 i ∧ i + Lf.length = M.length ∧ wr.ownsRow 0 52 5 lv Lf.length (ladE.flat Lf) ∧ SameS G M Lf L ∧ D2 W1 (fun b => lv.ownBlock = some b) g (g + 1) (insM M) L wr) (fun _ iv _ => M.length - (intOf iv).toNat)
      case atStart => exact ⟨0, M, [], rfl, by omega, owns_lower8 O1.out (Nat.zero_le _), SameS.start G M, DT1.out⟩
      case round =>
        obtain ⟨i, Lf, L, rfl, hil, hO, hS, hD⟩ := hrel
        have HS := Lib.hid hS
        have HD := Lib.hid hD
        have hi0 : (0 : Int) ≤ i := by omega
        by_cases hlf : 0 < Lf.length
        case pos =>
          obtain ⟨_, ⟨_, e0⟩ | ⟨gl, cap, rfl, _, hOA⟩⟩ := own_of hO
          · rw [e0] at hlf; simp at hlf
          have OA := Lib.hid hOA
          have hlen60 : (Lf.length : Int) ≤ 60 := by omega
          have hlen0 : (0 : Int) < Lf.length := by omega
          have hcap := hOA.le
          unfold maxLen at hcap
          obtain ⟨hcap1, hcap2⟩ := hcap
          clear hO hS hD hOA
          have hLb : L.length ≤ 12000 := by have := HS.out.len; have := HAL.out; omega
          have HLB := Lib.hid hLb
          clear hLb
          go_upto_if 81 with fail
          go_cut [16] (fun kv wx => (∃ m : Nat, kv = .int .i64 m ∧ m < Lf.length) ∧ wr = wx)
          case first =>
            by_cases hiT : i < T.length
            · have hiTI : (i : Int) < T.length := by omega
              obtain ⟨q, hq⟩ := get_of_lt hiT
              obtain ⟨gt, ot, ct, et, ht⟩ := SlAt.int (HT2.out.kept HD.out.kept) (by omega)
              cases et
              have c0 := ht i q hq
              obtain ⟨q9, hq9, hq0, hq1⟩ : ∃ q9, q.tmod (Lf.length : Int) = q9 ∧ -(Lf.length : Int) < q9 ∧ q9 < Lf.length := ⟨_, rfl, Int.lt_tmod_of_pos q hlen0, Int.tmod_lt_of_pos q hlen0⟩
              have hne0 : ((Lf.length : Int) == 0) = false := by rw [beq_eq_false_iff_ne]; omega
              clear hq ht
              by_cases hn : q9 < 0
              · have e2 : IntKind.i64.wrap (q9 + (Lf.length : Int)) = q9 + Lf.length := IntWalk.i64_in _ (by omega)
                go_wp2_with fail
                go_meet
                case rel => exact ⟨⟨(q9 + Lf.length).toNat, by congr 1; omega, by omega⟩, rfl⟩
              · go_wp2_with fail
                go_meet
                case rel => exact ⟨⟨q9.toNat, by congr 1; omega, by omega⟩, rfl⟩
            · have hiTI : ¬ (i : Int) < T.length := by omega
              go_wp2_with fail
              go_meet
              case rel => exact ⟨⟨0, rfl, hlf⟩, rfl⟩
          case' rest =>
          obtain ⟨⟨m, rfl, hm⟩, rfl⟩ := hcut
          obtain ⟨x, hx⟩ := get_of_lt hm
          have ROW : Hid (∀ (m' : Nat) (y : Lad), Lf[m']? = some y → ∀ w', OwnAt ladE w' 52 gl cap Lf → w'.cell? ⟨gl, m' * 5, none⟩ = some (.int .i64 y.id.t) ∧ w'.cell? ⟨gl, m' * 5 + 1, none⟩ = some (.int .i64 y.id.s) ∧ w'.cell? ⟨gl, m' * 5 + 2, none⟩ = some (.int .i64 y.ref.t) ∧ w'.cell? ⟨gl, m' * 5 + 3, none⟩ = some (.int .i64 y.ref.s) ∧ w'.cell? ⟨gl, m' * 5 + 4, none⟩ = some (.string y.text)) := Lib.hid fun m' y hy w' ho =>
            ⟨ho.cell (j := 0) hy rfl, ho.cell (j := 1) hy rfl, ho.cell (j := 2) hy rfl, ho.cell (j := 3) hy rfl, ho.cell (j := 4) hy rfl⟩
          have INS : Hid (∀ (y : Lad) W, y ∈ Lf → OwnAt ladE W 52 gl cap Lf → D2 W1 (fun b => (Value.slice (some ⟨gl, 0, none⟩) Lf.length cap).ownBlock = some b) g (g + 1) (insM M) L W → Calls Try.prog 13 #[.pointer (some ⟨g + 1, 0, none⟩), .agg #[.int .i64 y.id.t, .int .i64 y.id.s], .agg #[.int .i64 y.ref.t, .int .i64 y.ref.s], .string y.text] W fun e w' => e = .returned (.int .i64 (insXE L y)) ∧ D2 W1 (fun b => (Value.slice (some ⟨gl, 0, none⟩) Lf.length cap).ownBlock = some b) g (g + 1) (insM M) (insX L y) w' ∧ OwnAt ladE w' 52 gl cap Lf) := Lib.hid fun y W hy ho hd => by
            have hs := ((OK.out.1.oks (by omega)).1 y (HS.out.sub.subset hy)).small
            have hlb := HLB.out
            refine (hd.insB y (by unfold maxLen; omega) (by omega)).mono ?_
            rintro e w' ⟨he, h1, h2⟩
            exact ⟨he, h1, ho.keep h2 fun h => h.2 rfl⟩
          have ERR : Hid (∀ y ∈ Lf, insXE L y = 0 ∨ insXE L y = 11) := Lib.hid fun y hy => by
            rw [HS.out.err OK.out.1 (by omega) hy]
            split
            · exact .inl rfl
            · exact .inr rfl
          have HX := Lib.hid hx
          have INS1 := Lib.hid (INS.out x wr.drew (List.mem_of_getElem? hx) (OA.out.keep ((Kept.refl (fun _ => False) wr).drew) (fun h => h)) (HD.out.still ((Kept.refl (fun _ => False) wr).drew)))
          obtain ⟨r0, r1, r2, r3, r4⟩ := ROW.out m x hx wr OA.out
          have hmI : (m : Int) < Lf.length := by omega
          have hm0 : (0 : Int) ≤ m := by omega
          clear hx
          go_upto_region 23 with fail
          go_region_held3 (fun w' : World => w'.cell? ⟨gl, m * 5, none⟩ = some (.int .i64 x.id.t) ∧ w'.cell? ⟨gl, m * 5 + 1, none⟩ = some (.int .i64 x.id.s) ∧ w'.cell? ⟨gl, m * 5 + 2, none⟩ = some (.int .i64 x.ref.t) ∧ w'.cell? ⟨gl, m * 5 + 3, none⟩ = some (.int .i64 x.ref.s) ∧ w'.cell? ⟨gl, m * 5 + 4, none⟩ = some (.string x.text)) (first | exact ROW.out m x HX.out _ OA4.out | go_keep) (first | (go_at_call 13; refine INS1.out.mono ?_; rintro e W4 ⟨rfl, hk4, ho4⟩; have DT4 := Lib.hid hk4; have OA4 := Lib.hid ho4; clear hk4 ho4))
          clear INS1 r0 r1 r2 r3 r4
          go_wp2_with fail
          go_loopw [16, 17, 18] (fun kv ev tv wx => ∃ (m tr : Nat) (y : Lad), kv = .int .i64 m ∧ ev = .int .i64 (insXE L y) ∧ tv = .int .i64 tr ∧ Lf[m]? = some y ∧ (m = 0 ∨ tr ≤ m) ∧ OwnAt ladE wx 52 gl cap Lf ∧ D2 W1 (fun b => (Value.slice (some ⟨gl, 0, none⟩) Lf.length cap).ownBlock = some b) g (g + 1) (insM M) (insX L y) wx) (fun _ _ tv _ => Lf.length + 1 - (intOf tv).toNat)
          case atStart => exact ⟨m, 0, x, rfl, rfl, rfl, HX.out, .inr (Nat.zero_le _), OA4.out, DT4.out⟩
          case round =>
            clear OA4 DT4 HX hmI hm0 hm
            obtain ⟨m, tr, y, rfl, rfl, rfl, hy, hmt, hoa, hd⟩ := hrel
            have hml := (List.getElem?_eq_some_iff.1 hy).1
            have hyl : y ∈ Lf := List.mem_of_getElem? hy
            have HOA := Lib.hid hoa
            have hmI : (m : Int) < Lf.length := by omega
            have hm0 : (0 : Int) ≤ m := by omega
            have htr0 : (0 : Int) ≤ tr := by omega
            rcases ERR.out y hyl with he | he
            case inr =>
              rw [insX_no (by rw [he]; decide)] at hd
              have hmz : m ≠ 0 := by
                rintro rfl
                rw [HS.out.first OK.out.1 (by omega) hy] at he
                cases he
              have htr : (tr : Int) ≤ Lf.length := by omega
              have HTR : Hid (tr ≤ m ∧ tr < Lf.length) := Lib.hid (by omega)
              have hne0 : ((Lf.length : Int) == 0) = false := by rw [beq_eq_false_iff_ne]; omega
              have ewm : IntKind.i64.wrap ((m : Int) + 1) = (m : Int) + 1 := IntWalk.i64_in _ (by omega)
              obtain ⟨m', hq, hm', hm2⟩ : ∃ m' : Nat, ((m : Int) + 1).tmod Lf.length = m' ∧ m' < Lf.length ∧ (m' = 0 ∨ m' = m + 1) := by
                by_cases hl : m + 1 = Lf.length
                · exact ⟨0, by rw [show ((m : Int) + 1) = Lf.length by omega, Int.tmod_self]; rfl, hlf, .inl rfl⟩
                · exact ⟨m + 1, by rw [Int.tmod_eq_emod_of_nonneg (by omega), Int.emod_eq_of_lt (by omega) (by omega)]; omega, by omega, .inr rfl⟩
              obtain ⟨z, hz⟩ := get_of_lt hm'
              have HZ := Lib.hid hz
              have HM2 : Hid (m' = 0 ∨ tr + 1 ≤ m') := Lib.hid (by omega)
              have INS1 := Lib.hid (INS.out z wr.drew (List.mem_of_getElem? hz) (hoa.keep ((Kept.refl (fun _ => False) wr).drew) (fun h => h)) (hd.still ((Kept.refl (fun _ => False) wr).drew)))
              obtain ⟨r0, r1, r2, r3, r4⟩ := ROW.out m' z hz wr hoa
              have hmI' : (m' : Int) < Lf.length := by omega
              have hm0' : (0 : Int) ≤ m' := by omega
              rw [he]
              clear hy hmt hoa hd hyl he hmz hz hm2 hm'
              go_upto_region 28 with fail
              go_region_held3 (fun w' : World => w'.cell? ⟨gl, m' * 5, none⟩ = some (.int .i64 z.id.t) ∧ w'.cell? ⟨gl, m' * 5 + 1, none⟩ = some (.int .i64 z.id.s) ∧ w'.cell? ⟨gl, m' * 5 + 2, none⟩ = some (.int .i64 z.ref.t) ∧ w'.cell? ⟨gl, m' * 5 + 3, none⟩ = some (.int .i64 z.ref.s) ∧ w'.cell? ⟨gl, m' * 5 + 4, none⟩ = some (.string z.text)) (first | exact ROW.out m' z HZ.out _ OA4.out | go_keep) (first | (go_at_call 13; refine INS1.out.mono ?_; rintro e W4 ⟨rfl, hk4, ho4⟩; have DT4 := Lib.hid hk4; have OA4 := Lib.hid ho4; clear hk4 ho4))
              go_wp2_with fail
              go_roundw
              case rel => exact ⟨m', tr + 1, z, rfl, rfl, by go_num, HZ.out, HM2.out, OA4.out, DT4.out⟩
              case measure => have := HTR.out.2; simp [intOf]; omega
            case inl =>
              have STK := Lib.hid (HS.out.take OK.out.1 (by omega) hy he)
              have HD4 := Lib.hid hd
              rw [he]
              obtain ⟨n, hn⟩ : ∃ n, m + 1 = n := ⟨_, rfl⟩
              have hw1 : IntKind.i64.wrap ((m : Int) + 1) = (n : Int) := by rw [IntWalk.i64_in _ (by omega)]; omega
              rw [hn] at STK
              have hn0 : (0 : Int) ≤ n := by omega
              have hnL : (n : Int) ≤ Lf.length := by omega
              have hnc : (n : Int) ≤ cap := by omega
              have hnL2 : n ≤ Lf.length := by omega
              have hic : (m : Int) ≤ cap := by omega
              have hiL : (m : Int) ≤ Lf.length := by omega
              have hcL : (Lf.length : Int) ≤ cap := by omega
              have hcap63 : (cap : Int) ≤ 9223372036854775807 := by omega
              have PRE := Lib.hid (own_pre hoa (Nat.le_of_lt hml))
              have SIZ : Hid (Lf.length ≤ 60 ∧ (Lf.take m).length ≤ Lf.length ∧ (Lf.drop n).length ≤ Lf.length ∧ (Lf.take m ++ Lf.drop n).length + 1 = Lf.length) := Lib.hid ⟨by omega, by rw [List.length_take]; omega, by rw [List.length_drop]; omega, by rw [List.length_append, List.length_take, List.length_drop]; omega⟩
              have NW : Hid (wr.ownsRow wr.heap.size 52 ladE.k (.slice none 0 0) ([] : List Lad).length (ladE.flat [])) := Lib.hid (World.ownsRow_nil _ _ _ _)
              have hil' := Lib.hid hil
              clear hy hmt hoa hd hyl he hn hml
              by_cases hcn : cap = n
              case' pos =>
                subst hcn
                have hWn : Lf.length - cap = 0 := by omega
                have SUF : Hid (∀ w', Kept (fun _ => False) wr w' → SlAt ladE w' (.slice (some ⟨gl, 0, none⟩) 0 0) (Lf.drop cap)) := Lib.hid (fun w' _ => by rw [List.drop_of_length_le (by omega)]; exact sl_void _ (Nat.zero_le _))
              case' neg =>
                have hcn2 : n < cap := by omega
                have SUF : Hid (∀ w', Kept (fun _ => False) wr w' → SlAt ladE w' (.slice (some ⟨gl, n * 5, none⟩) (Lf.length - n) (cap - n)) (Lf.drop n)) := Lib.hid (fun w' hk => own_suf (HOA.out.keep hk (fun h => h)) hnL2)
              all_goals
                go_upto_region 34 with (first
                  | (at_builtin; refine wpList_append_row ladE rfl (.tmp 151) (.tmp 155) 47 rfl wr.heap.size 52 _ 48 Try.underlying47 info_laid rfl rfl rfl O2.out (SUF.out _ K2.out) (by have := SIZ.out; unfold maxLen; omega) (by have := SIZ.out; omega) K2.out.size ?_; intro v3 w3 ho3 hk3; have O3 := Lib.hid ho3; have DT3 := Lib.hid (HD4.out.rows (X' := fun b => v3.ownBlock = some b) (K2.out.over hk3 N2.out) (fun b hb => hb.elim) (fun b hb => ⟨(owns_lt ho3 b hb).2, fun h9 => by have := (owns_lt ho3 b hb).1; omega⟩)); clear ho3 hk3)
                  | (at_builtin; refine wpList_append_row ladE rfl (.tmp 146) (.tmp 149) 47 rfl wr.heap.size 52 _ 48 Try.underlying47 info_laid rfl (D := []) rfl rfl NW.out PRE.out (by have := SIZ.out; unfold maxLen; simp; omega) (by have := SIZ.out; simp; omega) (Nat.le_refl _) ?_; intro v2 w2 ho2 hk2; rw [List.nil_append] at ho2; have K2 : Hid (Kept (fun _ => False) wr w2) := Lib.hid (hk2.mono (fun b _ e => by have e : (Value.slice none 0 0).ownBlock = some b := e; cases e)); have O2 := Lib.hid ho2; have N2 := Lib.hid (owns_new ho2); clear ho2 hk2))
                by_cases hat : (i : Int) = at_
                · have hatb : ((i : Int) == at_) = true := by rw [hat]; simp
                  have DEL := Lib.hid (DT3.out.delB (by have := STK.out.len; have := HAL.out; omega) HG2.out GI.out (by omega) HGB.out)
                  subst hat
                  go_wp2_with (go_at_call 14; refine DEL.out.mono ?_; rintro e W5 ⟨rfl, hd5, hk5⟩; have DT5 := Lib.hid hd5; have O5 := Lib.hid (owns_keep O3.out hk5 fun b hb h9 => h9.2 hb); clear hd5 hk5)
                  go_roundw
                  case rel => exact ⟨i + 1, _, _, by go_num, by have := SIZ.out; have := hil'.out; omega, owns_lower8 O5.out (Nat.zero_le _), STK.out.delete, DT5.out⟩
                  case measure => have := hil'.out; simp [intOf]; omega
                · have hatb : ((i : Int) == at_) = false := by simp [hat]
                  go_wp2_with fail
                  go_roundw
                  case rel => exact ⟨i + 1, _, _, by go_num, by have := SIZ.out; have := hil'.out; omega, owns_lower8 O3.out (Nat.zero_le _), STK.out, DT3.out⟩
                  case measure => have := hil'.out; simp [intOf]; omega
        case neg =>
          obtain rfl : Lf = [] := List.length_eq_zero_iff.1 (by omega)
          obtain ⟨la, lc, rfl⟩ := owns_sl hO
          have hDn := Lib.hid (hS.done OK.out.1 (by omega))
          obtain ⟨LL, hLL⟩ : ∃ LL, (insM M).map (turnF G 1 2) = LL := ⟨_, rfl⟩
          have hll : LL.length ≤ 12000 := by rw [← hLL, List.length_map]; exact HL0.out
          have hlb : L.length ≤ 12000 := by have := hS.len; have := HAL.out; omega
          obtain ⟨tx, htx⟩ : ∃ tx, runeText ((shL LL).map Nd.rune) = tx := ⟨_, rfl⟩
          rw [hLL] at hDn
          obtain ⟨X, hX⟩ : ∃ X : Nat → Prop, (fun b => (Value.slice la ([] : List Lad).length lc).ownBlock = some b) = X := ⟨_, rfl⟩
          rw [hX] at HD
          have DELA := Lib.hid (HD.out.delA (by have := HL0.out; omega) HG2.out GI.out (by omega) HGB.out)
          rw [hLL] at DELA
          have DELB : Hid (∀ W, D2 W1 X g (g + 1) LL L W → Calls Try.prog 14 #[.pointer (some ⟨g + 1, 0, none⟩), .slice ra G.length rc] W fun e w' => (∃ k : Int, e = .returned (.int .i64 k)) ∧ D2 W1 X g (g + 1) LL LL w') := Lib.hid fun W hW =>
            (hW.delB (by omega) HG2.out GI.out (by omega) HGB.out).mono fun e w' ⟨he, h1, _⟩ => ⟨⟨_, he⟩, by have h9 := h1; rw [hDn.out] at h9; exact h9⟩
          have NA : Hid (∀ W, D2 W1 X g (g + 1) LL LL W → Calls Try.prog 20 #[.pointer (some ⟨g, 0, none⟩)] W fun e w' => ∃ a c, e = .returned (.slice a LL.length c) ∧ SlAt nodeE w' (.slice a LL.length c) LL ∧ D2 W1 X g (g + 1) LL LL w' ∧ Kept (fun _ => False) W w') := Lib.hid fun W hW => hW.nodesA (by omega)
          have NB : Hid (∀ W, D2 W1 X g (g + 1) LL LL W → Calls Try.prog 20 #[.pointer (some ⟨g + 1, 0, none⟩)] W fun e w' => ∃ a c, e = .returned (.slice a LL.length c) ∧ SlAt nodeE w' (.slice a LL.length c) LL ∧ D2 W1 X g (g + 1) LL LL w' ∧ Kept (fun _ => False) W w') := Lib.hid fun W hW => hW.nodesB (by omega)
          have TA : Hid (∀ W, D2 W1 X g (g + 1) LL LL W → Calls Try.prog 17 #[.pointer (some ⟨g, 0, none⟩)] W fun e w' => e = .returned (.string tx) ∧ D2 W1 X g (g + 1) LL LL w') := Lib.hid fun W hW => by have h9 := hW.textA (by omega); rw [htx] at h9; exact h9
          have TB : Hid (∀ W, D2 W1 X g (g + 1) LL LL W → Calls Try.prog 17 #[.pointer (some ⟨g + 1, 0, none⟩)] W fun e w' => e = .returned (.string tx) ∧ D2 W1 X g (g + 1) LL LL w') := Lib.hid fun W hW => by have h9 := hW.textB (by omega); rw [htx] at h9; exact h9
          have NX : Hid (∀ W (a : Option Addr) (c : Nat) (b : Option Addr) (d : Nat), SlAt nodeE W (.slice a LL.length c) LL → SlAt nodeE W (.slice b LL.length d) LL → Calls Try.prog 24 #[.slice a LL.length c, .slice b LL.length d] W fun e w' => e = .returned (.bool true) ∧ Kept (fun _ => False) W w') := Lib.hid fun W a c b d h1 h2 => by
            refine (lnodes_eq h1 h2 (by omega)).mono ?_
            rintro e w' ⟨rfl, q', rfl⟩
            exact ⟨by rw [decide_eq_true rfl], (Kept.refl _ _).drewN q'⟩
          clear hO hS hD HS HD hDn hLL hll hlb htx hX
          go_wp2_with (first
            | (go_at_call 14; with_reducible refine (DELB.out _ D5.out).mono ?_; rintro e W6 ⟨⟨k6, rfl⟩, hd⟩; have D6 := Lib.hid hd; clear hd)
            | (go_at_call 14; with_reducible refine DELA.out.mono ?_; rintro e W5 ⟨rfl, hd, _⟩; have D5 := Lib.hid hd; clear hd)
            | (go_at_call 20; with_reducible refine (NB.out _ D7.out).mono ?_; rintro e W8 ⟨a8, c8, rfl, hs, hd, hk⟩; have D8 := Lib.hid hd; have R8 := Lib.hid hs; have R7b := Lib.hid (R7.out.kept hk); clear hd hs hk)
            | (go_at_call 20; with_reducible refine (NA.out _ D6.out).mono ?_; rintro e W7 ⟨a7, c7, rfl, hs, hd, _⟩; have D7 := Lib.hid hd; have R7 := Lib.hid hs; clear hd hs)
            | (go_at_call 24; refine (NX.out _ _ _ _ _ R7b.out R8.out).mono ?_; rintro e W9 ⟨rfl, hk⟩; have D9 := Lib.hid (D8.out.still hk); clear hk)
            | (go_at_call 17; with_reducible refine (TB.out _ D10.out).mono ?_; rintro e W11 ⟨rfl, hd⟩; have D11 := Lib.hid hd; clear hd)
            | (go_at_call 17; with_reducible refine (TA.out _ D9.out).mono ?_; rintro e W10 ⟨rfl, hd⟩; have D10 := Lib.hid hd; clear hd)
            | (go_at_call 9; refine (KN.out _).mono ?_; rintro e W12 ⟨rfl, hk⟩; have K12 := Lib.hid hk; clear hk))
          go_ret
          exact ⟨rfl, (K1.out.trans D11.out.kept fun _ _ h => h).trans K12.out fun _ _ h => h⟩
end Go.Proofs.Ytlafodnaifghcaa.Tr
