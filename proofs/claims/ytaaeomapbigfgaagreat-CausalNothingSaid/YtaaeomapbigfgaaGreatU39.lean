/- QrTwo, the parts. -/
import Derived.Test.YtaaeomapbigfgaaGreatU38
namespace Go.Proofs.YtaaeomapbigfgaaGreat
open Go.RowKit Go.Proofs.YtaaeomapbigfgaaGreat.St
namespace causalTwo
theorem new_ok3 {hold : Int} {V : List Dot} (h : newC hold V = 0) : 0 ≤ hold ∧ hold ≤ 256 := by
  unfold newC at h
  by_cases h1 : hold < 0 ∨ 256 < hold
  · rw [if_pos h1] at h; exact absurd h (by decide)
  · omega
set_option maxRecDepth 100000 in
set_option maxHeartbeats 16000000 in
theorem small1 : small0.1 := by
  intro w hold L1 L2 hl1 hl2 a1 c1 zQrTwo_1 zQrTwo_2 a2 c2 zQrTwo_3 zQrTwo_4 HL1 HL2 HS1 HS2 wm w0 KW0 zQrTwo_5 zQrTwo_6 HN3 HR3 NC
  obtain ⟨hh0, hh1⟩ := new_ok3 NC.out
  have HN := Lib.hid (new_box (w := w0) (hold := hold) (SlAt.nil w0) (by simp) NC.out)
  go_upto_region 4 with (go_at_call 9; refine HN.out.mono ?_; rintro r w1 ⟨hk1, gp, vp, rfl, hp1⟩)
  go_upto_region 5 with (go_at_call 9; refine (HN3.out w1).mono ?_; rintro r w2 ⟨hk2, gq, vq, rfl, hq2⟩)
  have HR := Lib.hid (rnew_box (w := w2) (hold := hold) (SlAt.nil w2) (by simp) NC.out)
  go_upto_region 6 with (go_at_call 10; refine HR.out.mono ?_; rintro r w3 ⟨hk3, gu, vu, rfl, hgu, hb3, ho3⟩)
  go_upto_region 7 with (go_at_call 10; refine (HR3.out w3).mono ?_; rintro r w4 ⟨hk4, gw, vw, rfl, hgw, hb4, ho4⟩)
  have z1 := hk1.size
  have z2 := hk2.size
  have z3 := hk3.size
  have z4 := hk4.size
  have zw := KW0.out.size
  have kw2 := (KW0.out.trans hk1 (fun _ _ h => h)).trans hk2 (fun _ _ h => h)
  have kw3 := kw2.trans hk3 (fun _ _ h => h)
  have D1 := Lib.hid (Duo.make (w0 := w) (((hp1.keep hk2 (fun _ _ h => h)).keep hk3 (fun _ _ h => h)).keep hk4 (fun _ _ h => h)) ((rbox_new hb3 ho3 hgu (kw2.mono (fun _ _ h => h.elim)) hk3 (by simp)).keep hk4 (fun _ _ h => h) (fun _ h => h.elim)) (fun b hb hm => by have := hm.2; omega) (fun b hb => by have := hb.1; omega))
  have D2 := Lib.hid (Duo.make (w0 := w) ((hq2.keep hk3 (fun _ _ h => h)).keep hk4 (fun _ _ h => h)) (rbox_new hb4 ho4 hgw (kw3.mono (fun _ _ h => h.elim)) hk4 (by simp)) (fun b hb hm => by have := hm.2; omega) (fun b hb => by have := hb.1; omega))
  have FD := Lib.hid (show ∀ b, (newB w0 w1 b ∨ (w2.heap.size ≤ b ∧ b < w3.heap.size)) → ¬ (newB w1 w2 b ∨ (w3.heap.size ≤ b ∧ b < w4.heap.size)) from fun b h h' => by unfold newB at h h'; omega)
  have KW := Lib.hid (kw3.trans hk4 (fun _ _ h => h))
  clear hk1 hk2 hk3 hk4 hp1 hq2 hb3 hb4 ho3 ho4 hgu hgw kw2 kw3 HN HN3 HR HR3 KW0
  go_wp2_with fail
  go_loopw [15] (fun iv wr => ∃ (m : Nat) (C1 : CQ) (F1 : Nat → Prop) (C2 : CQ) (F2 : Nat → Prop), iv = .int .i64 m ∧ m ≤ L1.length + L2.length ∧ Duo w wr gp gu hold C1 C1 F1 ∧ Duo w wr gq gw 3 C2 C2 F2 ∧ COk hold C1 ∧ COk 3 C2 ∧ C1.W.length + C1.O.length ≤ m ∧ C2.W.length + C2.O.length ≤ m ∧ (∀ b, F1 b → w.heap.size ≤ b) ∧ (∀ b, F2 b → w.heap.size ≤ b) ∧ (∀ b, F1 b → ¬ F2 b) ∧ Kept (fun _ => False) w wr) (fun iv _ => L1.length + L2.length - (intOf iv).toNat)
  case atStart => exact ⟨0, _, _, _, _, rfl, Nat.zero_le _, D1.out, D2.out, COk.first hh0 rfl, COk.first (by decide) rfl, Nat.le_refl _, Nat.le_refl _, fun b hb => (D1.out.fresh b hb).1, fun b hb => (D2.out.fresh b hb).1, FD.out, KW.out⟩
  case round =>
    clear D1 D2 FD KW
    obtain ⟨m, C1, F1, C2, F2, rfl, hm, hd1, hd2, hok1, hok2, hc1, hc2, hF1, hF2, hdis, hk⟩ := hrel
    have hm0 : (0 : Int) ≤ m := by omega
    have KR := Lib.hid hk
    have HF1 := Lib.hid hF1
    have HF2 := Lib.hid hF2
    have DIS := Lib.hid hdis
    have OK1 := Lib.hid hok1
    have OK2 := Lib.hid hok2
    have FR1 := Lib.hid hd1.fresh
    have FR2 := Lib.hid hd2.fresh
    have DU1 := Lib.hid hd1
    have DU2 := Lib.hid hd2
    clear hk hF1 hF2 hdis hok1 hok2 hd1 hd2
    by_cases h1 : m < L1.length
    case neg =>
      have h1I : ¬ (m : Int) < L1.length := by omega
      by_cases h2 : m < L2.length
      case neg =>
        have h2I : ¬ (m : Int) < L2.length := by omega
        go_wp2_with (go_at_call 8; refine (known_any _).mono ?_; rintro r w9 ⟨rfl, hk9⟩)
        go_ret
        exact ⟨rfl, KR.out.trans hk9 (fun _ _ h => h)⟩
      case pos =>
        obtain ⟨x2, hx2⟩ := get_of_lt h2
        have hxm2 := List.mem_of_getElem? hx2
        obtain ⟨g2, o2, c2, e1, hcs2⟩ := SlAt.stepc (HL2.out) (by omega)
        injection e1 with e2 _ e3
        subst e2 e3
        have CS2 := Lib.hid (hcs2 m x2 hx2)
        have HX2 := Lib.hid (HS2.out x2 hxm2)
        have h2I : (m : Int) < L2.length := by omega
        clear hcs2 hx2 hxm2
        have b0 : wr.cell? ⟨g2, o2 + m * 13, none⟩ = some (.int .i64 x2.e.v.dot.site) := (fun j u h => KR.out.cell (CS2.out j u h)) 0 _ rfl
        have b1 : wr.cell? ⟨g2, o2 + m * 13 + 1, none⟩ = some (.int .i64 x2.e.v.dot.seq) := (fun j u h => KR.out.cell (CS2.out j u h)) 1 _ rfl
        have b2 : wr.cell? ⟨g2, o2 + m * 13 + 2, none⟩ = some (.slice x2.e.v.deps.a x2.e.v.deps.n x2.e.v.deps.c) := (fun j u h => KR.out.cell (CS2.out j u h)) 2 _ rfl
        have b3 : wr.cell? ⟨g2, o2 + m * 13 + 3, none⟩ = some (.int .i64 x2.e.v.kind) := (fun j u h => KR.out.cell (CS2.out j u h)) 3 _ rfl
        have b4 : wr.cell? ⟨g2, o2 + m * 13 + 4, none⟩ = some (.int .i64 x2.e.v.id.t) := (fun j u h => KR.out.cell (CS2.out j u h)) 4 _ rfl
        have b5 : wr.cell? ⟨g2, o2 + m * 13 + 5, none⟩ = some (.int .i64 x2.e.v.id.s) := (fun j u h => KR.out.cell (CS2.out j u h)) 5 _ rfl
        have b6 : wr.cell? ⟨g2, o2 + m * 13 + 6, none⟩ = some (.int .i64 x2.e.v.ref.t) := (fun j u h => KR.out.cell (CS2.out j u h)) 6 _ rfl
        have b7 : wr.cell? ⟨g2, o2 + m * 13 + 7, none⟩ = some (.int .i64 x2.e.v.ref.s) := (fun j u h => KR.out.cell (CS2.out j u h)) 7 _ rfl
        have b8 : wr.cell? ⟨g2, o2 + m * 13 + 8, none⟩ = some (.string x2.e.v.text) := (fun j u h => KR.out.cell (CS2.out j u h)) 8 _ rfl
        have b9 : wr.cell? ⟨g2, o2 + m * 13 + 9, none⟩ = some (.slice x2.e.v.gone.a x2.e.v.gone.n x2.e.v.gone.c) := (fun j u h => KR.out.cell (CS2.out j u h)) 9 _ rfl
        have b10 : wr.cell? ⟨g2, o2 + m * 13 + 10, none⟩ = some (.int .i64 x2.e.v.site) := (fun j u h => KR.out.cell (CS2.out j u h)) 10 _ rfl
        have b11 : wr.cell? ⟨g2, o2 + m * 13 + 11, none⟩ = some (.bool x2.no) := (fun j u h => KR.out.cell (CS2.out j u h)) 11 _ rfl
        have b12 : wr.cell? ⟨g2, o2 + m * 13 + 12, none⟩ = some (.int .i64 x2.tk) := (fun j u h => KR.out.cell (CS2.out j u h)) 12 _ rfl
        have HD2 : Hid (Calls Tryz.prog 12 #[.pointer (some ⟨gq, 0, none⟩), .pointer (some ⟨gw, 0, none⟩), .agg #[.int .i64 x2.e.v.dot.site, .int .i64 x2.e.v.dot.seq, .slice x2.e.v.deps.a x2.e.v.deps.n x2.e.v.deps.c, .int .i64 x2.e.v.kind, .int .i64 x2.e.v.id.t, .int .i64 x2.e.v.id.s, .int .i64 x2.e.v.ref.t, .int .i64 x2.e.v.ref.s, .string x2.e.v.text, .slice x2.e.v.gone.a x2.e.v.gone.n x2.e.v.gone.c, .int .i64 x2.e.v.site, .bool x2.no, .int .i64 x2.tk]] wr (DoesPost w wr gq gw 3 C2 F2)) := Lib.hid (does_any DU2.out OK2.out (by decide) (by decide) HX2.out.1 HX2.out.2 (by omega))
        go_wp2_with (go_at_call 12; refine HD2.out.mono ?_; rintro r w8 ⟨rfl, C2', F2', hd8, ok8, k8, f8, l8⟩)
        go_roundw
        case rel => exact ⟨m + 1, C1, F1, C2', F2', by go_num, by omega, DU1.out.keep k8 (fun b hb h => DIS.out b hb h) HF2.out, hd8, OK1.out, ok8, by omega, by omega, HF1.out, fun b hb => (f8 b hb).elim (HF2.out b) (fun h => Nat.le_trans KR.out.size h), fun b hb h => (f8 b h).elim (DIS.out b hb) (fun h => by have := (FR1.out b hb).2; omega), KR.out.over k8 HF2.out⟩
        case measure => simp [intOf] <;> omega
    case pos =>
      obtain ⟨x1, hx1⟩ := get_of_lt h1
      have hxm1 := List.mem_of_getElem? hx1
      obtain ⟨g1, o1, c1, e1, hcs1⟩ := SlAt.stepc (HL1.out) (by omega)
      injection e1 with e2 _ e3
      subst e2 e3
      have CS1 := Lib.hid (hcs1 m x1 hx1)
      have HX1 := Lib.hid (HS1.out x1 hxm1)
      have h1I : (m : Int) < L1.length := by omega
      clear hcs1 hx1 hxm1
      have a0 : wr.cell? ⟨g1, o1 + m * 13, none⟩ = some (.int .i64 x1.e.v.dot.site) := (fun j u h => KR.out.cell (CS1.out j u h)) 0 _ rfl
      have a1 : wr.cell? ⟨g1, o1 + m * 13 + 1, none⟩ = some (.int .i64 x1.e.v.dot.seq) := (fun j u h => KR.out.cell (CS1.out j u h)) 1 _ rfl
      have a2 : wr.cell? ⟨g1, o1 + m * 13 + 2, none⟩ = some (.slice x1.e.v.deps.a x1.e.v.deps.n x1.e.v.deps.c) := (fun j u h => KR.out.cell (CS1.out j u h)) 2 _ rfl
      have a3 : wr.cell? ⟨g1, o1 + m * 13 + 3, none⟩ = some (.int .i64 x1.e.v.kind) := (fun j u h => KR.out.cell (CS1.out j u h)) 3 _ rfl
      have a4 : wr.cell? ⟨g1, o1 + m * 13 + 4, none⟩ = some (.int .i64 x1.e.v.id.t) := (fun j u h => KR.out.cell (CS1.out j u h)) 4 _ rfl
      have a5 : wr.cell? ⟨g1, o1 + m * 13 + 5, none⟩ = some (.int .i64 x1.e.v.id.s) := (fun j u h => KR.out.cell (CS1.out j u h)) 5 _ rfl
      have a6 : wr.cell? ⟨g1, o1 + m * 13 + 6, none⟩ = some (.int .i64 x1.e.v.ref.t) := (fun j u h => KR.out.cell (CS1.out j u h)) 6 _ rfl
      have a7 : wr.cell? ⟨g1, o1 + m * 13 + 7, none⟩ = some (.int .i64 x1.e.v.ref.s) := (fun j u h => KR.out.cell (CS1.out j u h)) 7 _ rfl
      have a8 : wr.cell? ⟨g1, o1 + m * 13 + 8, none⟩ = some (.string x1.e.v.text) := (fun j u h => KR.out.cell (CS1.out j u h)) 8 _ rfl
      have a9 : wr.cell? ⟨g1, o1 + m * 13 + 9, none⟩ = some (.slice x1.e.v.gone.a x1.e.v.gone.n x1.e.v.gone.c) := (fun j u h => KR.out.cell (CS1.out j u h)) 9 _ rfl
      have a10 : wr.cell? ⟨g1, o1 + m * 13 + 10, none⟩ = some (.int .i64 x1.e.v.site) := (fun j u h => KR.out.cell (CS1.out j u h)) 10 _ rfl
      have a11 : wr.cell? ⟨g1, o1 + m * 13 + 11, none⟩ = some (.bool x1.no) := (fun j u h => KR.out.cell (CS1.out j u h)) 11 _ rfl
      have a12 : wr.cell? ⟨g1, o1 + m * 13 + 12, none⟩ = some (.int .i64 x1.tk) := (fun j u h => KR.out.cell (CS1.out j u h)) 12 _ rfl
      have HD1 : Hid (Calls Tryz.prog 12 #[.pointer (some ⟨gp, 0, none⟩), .pointer (some ⟨gu, 0, none⟩), .agg #[.int .i64 x1.e.v.dot.site, .int .i64 x1.e.v.dot.seq, .slice x1.e.v.deps.a x1.e.v.deps.n x1.e.v.deps.c, .int .i64 x1.e.v.kind, .int .i64 x1.e.v.id.t, .int .i64 x1.e.v.id.s, .int .i64 x1.e.v.ref.t, .int .i64 x1.e.v.ref.s, .string x1.e.v.text, .slice x1.e.v.gone.a x1.e.v.gone.n x1.e.v.gone.c, .int .i64 x1.e.v.site, .bool x1.no, .int .i64 x1.tk]] wr (DoesPost w wr gp gu hold C1 F1)) := Lib.hid (does_any DU1.out OK1.out hh0 hh1 HX1.out.1 HX1.out.2 (by omega))
      by_cases h2 : m < L2.length
      case neg =>
        have h2I : ¬ (m : Int) < L2.length := by omega
        go_wp2_with (go_at_call 12; refine HD1.out.mono ?_; rintro r w8 ⟨rfl, C1', F1', hd8, ok8, k8, f8, l8⟩)
        go_roundw
        case rel => exact ⟨m + 1, C1', F1', C2, F2, by go_num, by omega, hd8, DU2.out.keep k8 (fun b hb h => DIS.out b h hb) HF1.out, ok8, OK2.out, by omega, by omega, fun b hb => (f8 b hb).elim (HF1.out b) (fun h => Nat.le_trans KR.out.size h), HF2.out, fun b hb h => (f8 b hb).elim (fun h2 => DIS.out b h2 h) (fun h2 => by have := (FR2.out b h).2; omega), KR.out.over k8 HF1.out⟩
        case measure => simp [intOf] <;> omega
      case pos =>
        obtain ⟨x2, hx2⟩ := get_of_lt h2
        have hxm2 := List.mem_of_getElem? hx2
        obtain ⟨g2, o2, c2, e1, hcs2⟩ := SlAt.stepc (HL2.out) (by omega)
        injection e1 with e2 _ e3
        subst e2 e3
        have CS2 := Lib.hid (hcs2 m x2 hx2)
        have HX2 := Lib.hid (HS2.out x2 hxm2)
        have h2I : (m : Int) < L2.length := by omega
        clear hcs2 hx2 hxm2
        go_wp2_with (first
          | (go_at_call 12; refine HD2.out.mono ?_; rintro r w9 ⟨rfl, C2', F2', hd9, ok9, k9, f9, l9⟩)
          | (go_at_call 12; refine HD1.out.mono ?_; rintro r w8 ⟨rfl, C1', F1', hd8, ok8, k8, f8, l8⟩; have D18 := Lib.hid hd8; have D28 := Lib.hid (DU2.out.keep k8 (fun b hb h => DIS.out b h hb) HF1.out); have K8 := Lib.hid (KR.out.over k8 HF1.out); have OK8 := Lib.hid ok8; have FF8 : Hid (∀ b, F1' b → w.heap.size ≤ b) := Lib.hid (fun b hb => (f8 b hb).elim (HF1.out b) (fun h => Nat.le_trans KR.out.size h)); have DIS8 : Hid (∀ b, F1' b → ¬ F2 b) := Lib.hid (fun b hb h => (f8 b hb).elim (fun h2 => DIS.out b h2 h) (fun h2 => by have := (FR2.out b h).2; omega)); have b0 : w8.cell? ⟨g2, o2 + m * 13, none⟩ = some (.int .i64 x2.e.v.dot.site) := (fun j u h => K8.out.cell (CS2.out j u h)) 0 _ rfl; have b1 : w8.cell? ⟨g2, o2 + m * 13 + 1, none⟩ = some (.int .i64 x2.e.v.dot.seq) := (fun j u h => K8.out.cell (CS2.out j u h)) 1 _ rfl; have b2 : w8.cell? ⟨g2, o2 + m * 13 + 2, none⟩ = some (.slice x2.e.v.deps.a x2.e.v.deps.n x2.e.v.deps.c) := (fun j u h => K8.out.cell (CS2.out j u h)) 2 _ rfl; have b3 : w8.cell? ⟨g2, o2 + m * 13 + 3, none⟩ = some (.int .i64 x2.e.v.kind) := (fun j u h => K8.out.cell (CS2.out j u h)) 3 _ rfl; have b4 : w8.cell? ⟨g2, o2 + m * 13 + 4, none⟩ = some (.int .i64 x2.e.v.id.t) := (fun j u h => K8.out.cell (CS2.out j u h)) 4 _ rfl; have b5 : w8.cell? ⟨g2, o2 + m * 13 + 5, none⟩ = some (.int .i64 x2.e.v.id.s) := (fun j u h => K8.out.cell (CS2.out j u h)) 5 _ rfl; have b6 : w8.cell? ⟨g2, o2 + m * 13 + 6, none⟩ = some (.int .i64 x2.e.v.ref.t) := (fun j u h => K8.out.cell (CS2.out j u h)) 6 _ rfl; have b7 : w8.cell? ⟨g2, o2 + m * 13 + 7, none⟩ = some (.int .i64 x2.e.v.ref.s) := (fun j u h => K8.out.cell (CS2.out j u h)) 7 _ rfl; have b8 : w8.cell? ⟨g2, o2 + m * 13 + 8, none⟩ = some (.string x2.e.v.text) := (fun j u h => K8.out.cell (CS2.out j u h)) 8 _ rfl; have b9 : w8.cell? ⟨g2, o2 + m * 13 + 9, none⟩ = some (.slice x2.e.v.gone.a x2.e.v.gone.n x2.e.v.gone.c) := (fun j u h => K8.out.cell (CS2.out j u h)) 9 _ rfl; have b10 : w8.cell? ⟨g2, o2 + m * 13 + 10, none⟩ = some (.int .i64 x2.e.v.site) := (fun j u h => K8.out.cell (CS2.out j u h)) 10 _ rfl; have b11 : w8.cell? ⟨g2, o2 + m * 13 + 11, none⟩ = some (.bool x2.no) := (fun j u h => K8.out.cell (CS2.out j u h)) 11 _ rfl; have b12 : w8.cell? ⟨g2, o2 + m * 13 + 12, none⟩ = some (.int .i64 x2.tk) := (fun j u h => K8.out.cell (CS2.out j u h)) 12 _ rfl; clear hd8 ok8 k8 f8; have HD2 : Hid (Calls Tryz.prog 12 #[.pointer (some ⟨gq, 0, none⟩), .pointer (some ⟨gw, 0, none⟩), .agg #[.int .i64 x2.e.v.dot.site, .int .i64 x2.e.v.dot.seq, .slice x2.e.v.deps.a x2.e.v.deps.n x2.e.v.deps.c, .int .i64 x2.e.v.kind, .int .i64 x2.e.v.id.t, .int .i64 x2.e.v.id.s, .int .i64 x2.e.v.ref.t, .int .i64 x2.e.v.ref.s, .string x2.e.v.text, .slice x2.e.v.gone.a x2.e.v.gone.n x2.e.v.gone.c, .int .i64 x2.e.v.site, .bool x2.no, .int .i64 x2.tk]] w8 (DoesPost w w8 gq gw 3 C2 F2)) := Lib.hid (does_any D28.out OK2.out (by decide) (by decide) HX2.out.1 HX2.out.2 (by omega))))
        go_roundw
        case rel => exact ⟨m + 1, C1', F1', C2', F2', by go_num, by omega, D18.out.keep k9 (fun b hb h => DIS8.out b hb h) HF2.out, hd9, OK8.out, ok9, by omega, by omega, FF8.out, fun b hb => (f9 b hb).elim (HF2.out b) (fun h => Nat.le_trans K8.out.size h), fun b hb h => (f9 b h).elim (DIS8.out b hb) (fun h => by have := (D18.out.fresh b hb).2; omega), K8.out.over k9 HF2.out⟩
        case measure => simp [intOf] <;> omega
set_option maxRecDepth 100000 in
set_option maxHeartbeats 16000000 in
theorem small2 : small0.2.1 := by
  intro w hold L1 L2 hl1 hl2 a1 c1 zQrTwo_1 zQrTwo_2 a2 c2 zQrTwo_3 zQrTwo_4 HL1 HL2 HS1 HS2 wm w0 KW0 zQrTwo_5 zQrTwo_6 HN3 HR3 NC
  have HN := Lib.hid (new_both (w := w0) (hold := hold) (SlAt.nil w0) (by simp) NC.out)
  have HR := Lib.hid (fun (w2 : World) => rnew_both (w := w2) (hold := hold) (SlAt.nil w2) (by simp) NC.out)
  have hcb2 : (newC hold [] != 0) = true := by simpa using NC.out
  generalize newC hold [] = c at *
  go_upto_region 4 with (go_at_call 9; refine HN.out.mono ?_; rintro r w1 ⟨rfl, hk1⟩)
  go_upto_region 5 with (go_at_call 9; refine (HN3.out w1).mono ?_; rintro r w2 ⟨hk2, gq, vq, rfl, hq2⟩)
  go_upto_region 6 with (go_at_call 10; refine (HR.out w2).mono ?_; rintro r w3 ⟨rfl, hk3⟩)
  go_upto_region 7 with (go_at_call 10; refine (HR3.out w3).mono ?_; rintro r w4 ⟨hk4, gw, vw, rfl, hgw, hb4, ho4⟩)
  have z1 := hk1.size
  have z2 := hk2.size
  have z3 := hk3.size
  have z4 := hk4.size
  have zw := KW0.out.size
  have kw2 := (KW0.out.trans hk1 (fun _ _ h => h)).trans hk2 (fun _ _ h => h)
  have kw3 := kw2.trans hk3 (fun _ _ h => h)
  have D2 := Lib.hid (Duo.make (w0 := w) ((hq2.keep hk3 (fun _ _ h => h)).keep hk4 (fun _ _ h => h)) (rbox_new hb4 ho4 hgw (kw3.mono (fun _ _ h => h.elim)) hk4 (by simp)) (fun b hb hm => by have := hm.2; omega) (fun b hb => by have := hb.1; omega))
  have FD := Lib.hid D2.out.fresh
  have KW := Lib.hid (kw3.trans hk4 (fun _ _ h => h))
  clear hk1 hk2 hk3 hk4 hq2 hb4 ho4 hgw kw2 kw3 HN HN3 HR HR3 KW0
  go_wp2_with fail
  go_loopw [15] (fun iv wr => ∃ (m : Nat) (C2 : CQ) (F2 : Nat → Prop), iv = .int .i64 m ∧ m ≤ L1.length + L2.length ∧ Duo w wr gq gw 3 C2 C2 F2 ∧ COk 3 C2 ∧ C2.W.length + C2.O.length ≤ m ∧ (∀ b, F2 b → w.heap.size ≤ b) ∧ Kept (fun _ => False) w wr) (fun iv _ => L1.length + L2.length - (intOf iv).toNat)
  case atStart => exact ⟨0, _, _, rfl, Nat.zero_le _, D2.out, COk.first (by decide) rfl, Nat.le_refl _, fun b hb => (FD.out b hb).1, KW.out⟩
  case round =>
    clear D2 FD KW
    obtain ⟨m, C2, F2, rfl, hm, hd2, hok2, hc2, hF2, hk⟩ := hrel
    have hm0 : (0 : Int) ≤ m := by omega
    have KR := Lib.hid hk
    have HF2 := Lib.hid hF2
    have OK2 := Lib.hid hok2
    have DU2 := Lib.hid hd2
    clear hk hF2 hok2 hd2
    by_cases h2 : m < L2.length
    case neg =>
      have h2I : ¬ (m : Int) < L2.length := by omega
      by_cases h1 : m < L1.length
      case neg =>
        have h1I : ¬ (m : Int) < L1.length := by omega
        go_wp2_with (go_at_call 8; refine (known_any _).mono ?_; rintro r w9 ⟨rfl, hk9⟩)
        go_ret
        exact ⟨rfl, KR.out.trans hk9 (fun _ _ h => h)⟩
      case pos =>
        have h1I : (m : Int) < L1.length := by omega
        go_wp2_with fail
        go_roundw
        case rel => exact ⟨m + 1, C2, F2, by go_num, by omega, DU2.out, OK2.out, by omega, HF2.out, KR.out⟩
        case measure => simp [intOf] <;> omega
    case pos =>
      obtain ⟨x2, hx2⟩ := get_of_lt h2
      have hxm2 := List.mem_of_getElem? hx2
      obtain ⟨g2, o2, c2, e1, hcs2⟩ := SlAt.stepc (HL2.out) (by omega)
      injection e1 with e2 _ e3
      subst e2 e3
      have CS2 := Lib.hid (hcs2 m x2 hx2)
      have HX2 := Lib.hid (HS2.out x2 hxm2)
      have h2I : (m : Int) < L2.length := by omega
      clear hcs2 hx2 hxm2
      have b0 : wr.cell? ⟨g2, o2 + m * 13, none⟩ = some (.int .i64 x2.e.v.dot.site) := (fun j u h => KR.out.cell (CS2.out j u h)) 0 _ rfl
      have b1 : wr.cell? ⟨g2, o2 + m * 13 + 1, none⟩ = some (.int .i64 x2.e.v.dot.seq) := (fun j u h => KR.out.cell (CS2.out j u h)) 1 _ rfl
      have b2 : wr.cell? ⟨g2, o2 + m * 13 + 2, none⟩ = some (.slice x2.e.v.deps.a x2.e.v.deps.n x2.e.v.deps.c) := (fun j u h => KR.out.cell (CS2.out j u h)) 2 _ rfl
      have b3 : wr.cell? ⟨g2, o2 + m * 13 + 3, none⟩ = some (.int .i64 x2.e.v.kind) := (fun j u h => KR.out.cell (CS2.out j u h)) 3 _ rfl
      have b4 : wr.cell? ⟨g2, o2 + m * 13 + 4, none⟩ = some (.int .i64 x2.e.v.id.t) := (fun j u h => KR.out.cell (CS2.out j u h)) 4 _ rfl
      have b5 : wr.cell? ⟨g2, o2 + m * 13 + 5, none⟩ = some (.int .i64 x2.e.v.id.s) := (fun j u h => KR.out.cell (CS2.out j u h)) 5 _ rfl
      have b6 : wr.cell? ⟨g2, o2 + m * 13 + 6, none⟩ = some (.int .i64 x2.e.v.ref.t) := (fun j u h => KR.out.cell (CS2.out j u h)) 6 _ rfl
      have b7 : wr.cell? ⟨g2, o2 + m * 13 + 7, none⟩ = some (.int .i64 x2.e.v.ref.s) := (fun j u h => KR.out.cell (CS2.out j u h)) 7 _ rfl
      have b8 : wr.cell? ⟨g2, o2 + m * 13 + 8, none⟩ = some (.string x2.e.v.text) := (fun j u h => KR.out.cell (CS2.out j u h)) 8 _ rfl
      have b9 : wr.cell? ⟨g2, o2 + m * 13 + 9, none⟩ = some (.slice x2.e.v.gone.a x2.e.v.gone.n x2.e.v.gone.c) := (fun j u h => KR.out.cell (CS2.out j u h)) 9 _ rfl
      have b10 : wr.cell? ⟨g2, o2 + m * 13 + 10, none⟩ = some (.int .i64 x2.e.v.site) := (fun j u h => KR.out.cell (CS2.out j u h)) 10 _ rfl
      have b11 : wr.cell? ⟨g2, o2 + m * 13 + 11, none⟩ = some (.bool x2.no) := (fun j u h => KR.out.cell (CS2.out j u h)) 11 _ rfl
      have b12 : wr.cell? ⟨g2, o2 + m * 13 + 12, none⟩ = some (.int .i64 x2.tk) := (fun j u h => KR.out.cell (CS2.out j u h)) 12 _ rfl
      have HD2 : Hid (Calls Tryz.prog 12 #[.pointer (some ⟨gq, 0, none⟩), .pointer (some ⟨gw, 0, none⟩), .agg #[.int .i64 x2.e.v.dot.site, .int .i64 x2.e.v.dot.seq, .slice x2.e.v.deps.a x2.e.v.deps.n x2.e.v.deps.c, .int .i64 x2.e.v.kind, .int .i64 x2.e.v.id.t, .int .i64 x2.e.v.id.s, .int .i64 x2.e.v.ref.t, .int .i64 x2.e.v.ref.s, .string x2.e.v.text, .slice x2.e.v.gone.a x2.e.v.gone.n x2.e.v.gone.c, .int .i64 x2.e.v.site, .bool x2.no, .int .i64 x2.tk]] wr (DoesPost w wr gq gw 3 C2 F2)) := Lib.hid (does_any DU2.out OK2.out (by decide) (by decide) HX2.out.1 HX2.out.2 (by omega))
      by_cases h1 : m < L1.length
      case neg =>
        have h1I : ¬ (m : Int) < L1.length := by omega
        go_wp2_with (go_at_call 12; refine HD2.out.mono ?_; rintro r w8 ⟨rfl, C2', F2', hd8, ok8, k8, f8, l8⟩)
        go_roundw
        case rel => exact ⟨m + 1, C2', F2', by go_num, by omega, hd8, ok8, by omega, fun b hb => (f8 b hb).elim (HF2.out b) (fun h => Nat.le_trans KR.out.size h), KR.out.over k8 HF2.out⟩
        case measure => simp [intOf] <;> omega
      case pos =>
        have h1I : (m : Int) < L1.length := by omega
        go_wp2_with (go_at_call 12; refine HD2.out.mono ?_; rintro r w8 ⟨rfl, C2', F2', hd8, ok8, k8, f8, l8⟩)
        go_roundw
        case rel => exact ⟨m + 1, C2', F2', by go_num, by omega, hd8, ok8, by omega, fun b hb => (f8 b hb).elim (HF2.out b) (fun h => Nat.le_trans KR.out.size h), KR.out.over k8 HF2.out⟩
        case measure => simp [intOf] <;> omega
theorem small {w : World} {hold : Int} {v1 v2 : Value} {L1 L2 : List StV} (hL1 : SlAt stE w v1 L1) (hL2 : SlAt stE w v2 L2) (hS1 : ∀ s ∈ L1, OpIn w s.e ∧ ¬ bigP s.e.v) (hS2 : ∀ s ∈ L2, OpIn w s.e ∧ ¬ bigP s.e.v) (hl1 : L1.length ≤ 300) (hl2 : L2.length ≤ 300) :
    Calls Tryz.prog 4 #[.int .i64 hold, v1, v2] w (Post w) := small0.2.2 ⟨small1⟩ ⟨small2⟩ w hold v1 v2 L1 L2 hL1 hL2 hS1 hS2 hl1 hl2
end causalTwo
end Go.Proofs.YtaaeomapbigfgaaGreat
