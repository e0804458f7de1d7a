/- QrDoes, the parts. -/
import Derived.Test.YtaaeomapbigfgaaGreatU36
namespace Go.Proofs.YtaaeomapbigfgaaGreat
open Go.RowKit Go.Proofs.YtaaeomapbigfgaaGreat.St
set_option maxRecDepth 100000 in
set_option maxHeartbeats 16000000 in
theorem does1 : does0.1 := by
  intro w0 w g r hold C F x hh0 hh OK HX LE HL FR zQrDoes_1 zQrDoes_2 W DU hz BX K0 zQrDoes_3 zQrDoes_4 zQrDoes_5 zQrDoes_6 x11
  have z0 := K0.out.size
  have hw0 := DU.out.past.size
  have HLE := Lib.hid (lent_any (x := x.e.v) ((HX.out.up DU.out.past).at_.deps) ((HX.out.up DU.out.past).at_.gone) (by have := LE.out; omega) (by have := LE.out; omega))
  go_upto_region 3 with (first
    | (go_at_call 32; refine HLE.out.mono ?_; rintro e w1 ⟨gd, cd, gz, cz, rfl, hod, hoz, hgd, hgz, hne, hk1⟩; have A1 := Lib.hid (Blk.new w1 42 zeroOp))
    | (refine wpList_load_at (E := entE) (z := x.e) rfl 42 _ rfl rfl (box_op BX.out) Tryz.underlying42 rfl size_op ?_)
    | (refine wpList_store_row rfl 42 _ _ rfl w1.heap.size (opA { x.e.v with deps := ⟨some ⟨gd, 0, none⟩, x.e.D.length, cd⟩, gone := ⟨some ⟨gz, 0, none⟩, x.e.G.length, cz⟩ }) rfl rfl 42 zeroOp A1.out (by rw [opA_size]; exact size_op) (by rw [opA_size]; rfl) (opA_one _) ?_))
  have kA : Kept (fun _ => False) w1 ((w1.alloc (.cells zeroOp 42)).setRow w1.heap.size (opA { x.e.v with deps := ⟨some ⟨gd, 0, none⟩, x.e.D.length, cd⟩, gone := ⟨some ⟨gz, 0, none⟩, x.e.G.length, cz⟩ })) := ((Kept.refl _ _).alloc _).setRow (fun h => by omega) _
  have hk2 := hk1.trans kA (fun _ _ h => h)
  have OD := Lib.hid (hod.keep kA (fun h => h))
  have OZ := Lib.hid (hoz.keep kA (fun h => h))
  have DU2 := Lib.hid (DU.out.kept hk2)
  have BX2 := Lib.hid (hk2.blk (fun h => h) BX.out)
  have BO2 := Lib.hid (A1.out.row (opA { x.e.v with deps := ⟨some ⟨gd, 0, none⟩, x.e.D.length, cd⟩, gone := ⟨some ⟨gz, 0, none⟩, x.e.G.length, cz⟩ }))
  have K2 := Lib.hid (K0.out.trans hk2 (fun _ _ h => h))
  have hz1 := hk1.size
  have hdl := hod.lt
  have hzl := hoz.lt
  have NE := Lib.hid hne
  have hA := kA.size
  clear hod hoz hk1 hk2 kA A1 HLE DU BX K0 hne
  have hbo : w1.heap.size < ((w1.alloc (.cells zeroOp 42)).setRow w1.heap.size (opA { x.e.v with deps := ⟨some ⟨gd, 0, none⟩, x.e.D.length, cd⟩, gone := ⟨some ⟨gz, 0, none⟩, x.e.G.length, cz⟩ })).heap.size := BO2.out.lt
  generalize w1.heap.size = bo at *
  generalize (w1.alloc (.cells zeroOp 42)).setRow bo (opA { x.e.v with deps := ⟨some ⟨gd, 0, none⟩, x.e.D.length, cd⟩, gone := ⟨some ⟨gz, 0, none⟩, x.e.G.length, cz⟩ }) = w2 at *
  have EG : Hid (x.e.G.length = x.e.v.gone.n) := Lib.hid (by obtain ⟨_, _, he, _⟩ := HX.out.at_.gone.sl; injection he with _ e _; exact e.symm)
  have EC : Hid (opC { x.e.v with deps := ⟨some ⟨gd, 0, none⟩, x.e.D.length, cd⟩, gone := ⟨some ⟨gz, 0, none⟩, x.e.G.length, cz⟩ } x.e.D x.e.G = stK x) := Lib.hid (opC_moved _ _ _ _ _ EG.out)
  obtain ⟨a, C2, hco⟩ : ∃ a C2, coffer hold (stK x) C (stC x) = (a, C2) := ⟨_, _, rfl⟩
  have LEN2 : Hid (C2.W.length + C2.O.length ≤ C.W.length + C.O.length + 1) := Lib.hid (by have := coffer_len2 hold (stK x) C (stC x); rw [hco] at this; exact this)
  have OK2 : Hid (COk hold C2) := Lib.hid (by have := OK.out.offer (c := stK x) (e := stC x) (fun hc => show (stC x).1.dot.Ok from opC_ok2 (x := x.e.v) (D := x.e.D) (G := x.e.G) hc); rw [hco] at this; exact this)
  have HOF : Hid (Calls Tryz.prog 13 #[.pointer (some ⟨g, 0, none⟩), .agg (opA { x.e.v with deps := ⟨some ⟨gd, 0, none⟩, x.e.D.length, cd⟩, gone := ⟨some ⟨gz, 0, none⟩, x.e.G.length, cz⟩ })] w2 fun e w' => e = .returned (.tuple #[.int .i64 a, .int .i64 (stK x)]) ∧ Duo w0 w' g r hold C2 C (grown F w2 w') ∧ Kept F w2 w') := Lib.hid (by
    have := DU2.out.offer (x := { x.e.v with deps := ⟨some ⟨gd, 0, none⟩, x.e.D.length, cd⟩, gone := ⟨some ⟨gz, 0, none⟩, x.e.G.length, cz⟩ }) (D := x.e.D) (G := x.e.G) (c := stK x) (by have := OD.out.pre (n := x.e.D.length) (by simp); rwa [List.take_left' rfl] at this) (by have := OZ.out.pre (n := x.e.G.length) (by simp); rwa [List.take_left' rfl] at this) (by have := LE.out; omega) (by have := LE.out; omega) (by have := HL.out; omega) (by have := HL.out; omega)
      (fun w' hk => by
        have := check_op { x.e.v with deps := ⟨some ⟨gd, 0, none⟩, x.e.D.length, cd⟩, gone := ⟨some ⟨gz, 0, none⟩, x.e.G.length, cz⟩ } (D := x.e.D) (G := x.e.G) (by have := (OD.out.keep hk (fun h => h)).pre (n := x.e.D.length) (by simp); rwa [List.take_left' rfl] at this) (by have := (OZ.out.keep hk (fun h => h)).pre (n := x.e.G.length) (by simp); rwa [List.take_left' rfl] at this) HX.out.runs (by have := LE.out; omega) (by have := LE.out; omega) HX.out.text
        rw [EC.out] at this
        exact this) (fun hc => opC_ok2 (x := x.e.v) (D := x.e.D) (G := x.e.G) hc)
    have e1 : coffer hold (stK x) C ({ { x.e.v with deps := ⟨some ⟨gd, 0, none⟩, x.e.D.length, cd⟩, gone := ⟨some ⟨gz, 0, none⟩, x.e.G.length, cz⟩ } with deps := ⟨none, 0, 0⟩, gone := ⟨none, 0, 0⟩ }, x.e.D, x.e.G) = (a, C2) := hco
    rw [e1] at this
    exact this)
  have HRO : Hid (∀ w3, Duo w0 w3 g r hold C2 C (grown F w2 w3) → Calls Tryz.prog 33 #[.pointer (some ⟨r, 0, none⟩), .agg (opA x.e.v)] w3 fun e w' => e = .returned (.tuple #[.int .i64 a, .int .i64 (stK x)]) ∧ Duo w0 w' g r hold C2 C2 (grown (grown F w2 w3) w3 w') ∧ Kept (grown F w2 w3) w3 w') := Lib.hid (fun w3 hd3 => by
    have := hd3.roffer (x := x.e.v) (D := x.e.D) (G := x.e.G) (c := stK x) (fun hc => ⟨HX.out.at_, opC_ok2 (x := x.e.v) (D := x.e.D) (G := x.e.G) hc, by have := LE.out; show x.e.D.length ≤ _; omega, by have := LE.out; show x.e.G.length ≤ _; omega⟩) (by have := HL.out; omega) (by have := HL.out; omega) OK.out.ord.p.nodup hh
      (fun w' hk => rcheck8_any x.e.v ((HX.out.up hd3.past).at_.deps.kept hk) ((HX.out.up hd3.past).at_.gone.kept hk) HX.out.runs (by have := LE.out; omega) (by have := LE.out; omega) (by have := LE.out; omega))
    have e1 : coffer hold (stK x) C ({ x.e.v with deps := ⟨none, 0, 0⟩, gone := ⟨none, 0, 0⟩ }, x.e.D, x.e.G) = (a, C2) := hco
    rw [e1] at this
    exact this)
  generalize stK x = c at *
  clear hco
  go_upto_region 4 with (first
    | (refine wpList_load_row rfl 42 _ rfl bo rfl 42 _ (0, 0) _ BO2.out Tryz.underlying42 rfl (by rw [opA_size]; exact size_op) ?_)
    | (go_at_call 13; refine HOF.out.mono ?_; rintro e w3 ⟨rfl, hd3, hk3⟩))
  have BX3 := Lib.hid (hk3.blk (fun h => by have := (FR.out _ h).2; omega) BX2.out)
  have BO3 := Lib.hid (hk3.blk (fun h => by have := (FR.out _ h).2; omega) BO2.out)
  have OD3 := Lib.hid (OD.out.keep hk3 (fun h => by have := (FR.out _ h).2; omega))
  have OZ3 := Lib.hid (OZ.out.keep hk3 (fun h => by have := (FR.out _ h).2; omega))
  have K3 := Lib.hid ((K2.out.mono (S' := F) (fun _ _ h => h.elim)).trans hk3 (fun _ _ h => h))
  have HR3 := Lib.hid (HRO.out _ hd3)
  have hz3 := hk3.size
  clear hk3 hd3 HOF HRO OD OZ BO2 BX2 DU2
  go_upto_region 5 with (first
    | (refine wpList_load_at (E := entE) (z := x.e) rfl 42 _ rfl rfl (box_op BX3.out) Tryz.underlying42 rfl size_op ?_)
    | (go_at_call 33; refine HR3.out.mono ?_; rintro e w4 ⟨rfl, hd4, hk4⟩))
  have hgn : ∀ b, b < w2.heap.size → w.heap.size ≤ b → ¬ grown F w2 w3 b := fun b h1 h2 h => by
    rcases h with h | h
    · have := (FR.out _ h).2; omega
    · omega
  have BX4 := Lib.hid (hk4.blk (hgn _ (by omega) (by omega)) BX3.out)
  have BO4 := Lib.hid (hk4.blk (hgn _ (by omega) (by omega)) BO3.out)
  have OD4 := Lib.hid (OD3.out.keep hk4 (hgn _ (by omega) (by omega)))
  have OZ4 := Lib.hid (OZ3.out.keep hk4 (hgn _ (by omega) (by omega)))
  have K4 := Lib.hid (K3.out.trans hk4 (fun b hb h => by
    rcases h with h | h
    · exact h
    · have := K2.out.size; omega))
  have DU4 := Lib.hid hd4
  have GN : Hid (∀ b, grown (grown F w2 w3) w3 w4 b → F b ∨ w2.heap.size ≤ b) := Lib.hid (fun b h => by
    rcases h with h | h
    · rcases h with h | h
      · exact .inl h
      · exact .inr h.1
    · exact .inr (by omega))
  have hz4 := hk4.size
  have HBK := Lib.hid (back_any (x := x.e.v) OD4.out OZ4.out NE.out (d' := x.e.v.deps) (z' := x.e.v.gone) ((HX.out.up hd4.past).at_.deps) ((HX.out.up hd4.past).at_.gone) (by have := LE.out; omega) (by have := LE.out; omega))
  have FG : Hid (∀ b, grown (grown F w2 w3) w3 w4 b → ¬ (b = gd ∨ b = gz) ∧ b ≠ w.heap.size) := Lib.hid (fun b h => by
    rcases GN.out b h with h | h
    · have := (FR.out _ h).2; omega
    · omega)
  have LOW : Hid (∀ b, (b = gd ∨ b = gz) → w0.heap.size ≤ b) := Lib.hid (fun b h => by omega)
  clear hd4 hk4 hgn HR3 OD3 OZ3 OD4 OZ4 BX3 BO3
  have o0 : w4.cell? ⟨bo, 0, none⟩ = some (.int .i64 x.e.v.dot.site) := BO4.out.cell' (i := 0) rfl
  have o1 : w4.cell? ⟨bo, 1, none⟩ = some (.int .i64 x.e.v.dot.seq) := BO4.out.cell' (i := 1) rfl
  have o2 : w4.cell? ⟨bo, 2, none⟩ = some (.slice (some ⟨gd, 0, none⟩) x.e.D.length cd) := BO4.out.cell' (i := 2) rfl
  have o3 : w4.cell? ⟨bo, 3, none⟩ = some (.int .i64 x.e.v.kind) := BO4.out.cell' (i := 3) rfl
  have o4 : w4.cell? ⟨bo, 4, none⟩ = some (.int .i64 x.e.v.id.t) := BO4.out.cell' (i := 4) rfl
  have o5 : w4.cell? ⟨bo, 5, none⟩ = some (.int .i64 x.e.v.id.s) := BO4.out.cell' (i := 5) rfl
  have o6 : w4.cell? ⟨bo, 6, none⟩ = some (.int .i64 x.e.v.ref.t) := BO4.out.cell' (i := 6) rfl
  have o7 : w4.cell? ⟨bo, 7, none⟩ = some (.int .i64 x.e.v.ref.s) := BO4.out.cell' (i := 7) rfl
  have o8 : w4.cell? ⟨bo, 8, none⟩ = some (.string x.e.v.text) := BO4.out.cell' (i := 8) rfl
  have o9 : w4.cell? ⟨bo, 9, none⟩ = some (.slice (some ⟨gz, 0, none⟩) x.e.G.length cz) := BO4.out.cell' (i := 9) rfl
  have o10 : w4.cell? ⟨bo, 10, none⟩ = some (.int .i64 x.e.v.site) := BO4.out.cell' (i := 10) rfl
  have y0 : w4.cell? ⟨w.heap.size, 0, none⟩ = some (.int .i64 x.e.v.dot.site) := BX4.out.cell' (i := 0) rfl
  have y1 : w4.cell? ⟨w.heap.size, 1, none⟩ = some (.int .i64 x.e.v.dot.seq) := BX4.out.cell' (i := 1) rfl
  have y2 : w4.cell? ⟨w.heap.size, 2, none⟩ = some (.slice x.e.v.deps.a x.e.v.deps.n x.e.v.deps.c) := BX4.out.cell' (i := 2) rfl
  have y3 : w4.cell? ⟨w.heap.size, 3, none⟩ = some (.int .i64 x.e.v.kind) := BX4.out.cell' (i := 3) rfl
  have y4 : w4.cell? ⟨w.heap.size, 4, none⟩ = some (.int .i64 x.e.v.id.t) := BX4.out.cell' (i := 4) rfl
  have y5 : w4.cell? ⟨w.heap.size, 5, none⟩ = some (.int .i64 x.e.v.id.s) := BX4.out.cell' (i := 5) rfl
  have y6 : w4.cell? ⟨w.heap.size, 6, none⟩ = some (.int .i64 x.e.v.ref.t) := BX4.out.cell' (i := 6) rfl
  have y7 : w4.cell? ⟨w.heap.size, 7, none⟩ = some (.int .i64 x.e.v.ref.s) := BX4.out.cell' (i := 7) rfl
  have y8 : w4.cell? ⟨w.heap.size, 8, none⟩ = some (.string x.e.v.text) := BX4.out.cell' (i := 8) rfl
  have y9 : w4.cell? ⟨w.heap.size, 9, none⟩ = some (.slice x.e.v.gone.a x.e.v.gone.n x.e.v.gone.c) := BX4.out.cell' (i := 9) rfl
  have y10 : w4.cell? ⟨w.heap.size, 10, none⟩ = some (.int .i64 x.e.v.site) := BX4.out.cell' (i := 10) rfl
  go_wp2_with (first
    | (go_at_call 34; refine HBK.out.mono ?_; rintro e w5 ⟨rfl, hk5⟩; have DU5 := Lib.hid (DU4.out.keep hk5 (fun b hb => (FG.out b hb).1) LOW.out); have BX5 := Lib.hid (hk5.blk (fun h => by omega) BX4.out); have K5 := Lib.hid (K4.out.trans hk5 (fun b hb h => by omega)); have HAL := Lib.hid (alike_any DU5.out OK2.out hh0 hh))
    | (go_at_call 35; refine HAL.out.mono ?_; rintro e w6 ⟨rfl, hk6⟩))
  go_meet
  case rel => exact ⟨C2, _, DU5.out.kept hk6, OK2.out, K5.out.trans hk6 (fun _ _ h => h.elim), fun b hb => (GN.out b hb).imp id (fun h => by omega), LEN2.out, hk6.blk (fun h => h) BX5.out, fun b hb => (FG.out b hb).2⟩
set_option maxRecDepth 100000 in
set_option maxHeartbeats 16000000 in
theorem does2 : does0.2.1 := by
  intro w0 w g r hold C F x hh0 hh HL FR zQrDoes_1 zQrDoes_2 W hz no wc u6 u7 u8 u9 u10 u11 u19 u20 u21 u22 u23 u24 u25 u26 u27 u28 u29 u30 u31 u32 u33 u34 u35 u36 u37 u38 u39 u40 u41 u42 u43 u44 u45 u46 u47 u48 u49 u50 u51 u52 u53 u54 u55 u56 u57 u58 u59 u60 u61 u62 u63 u64 u65 u66 u67 u68 u69 u70 u71 u72 u73 u74 u75 u76 u77 u78 u79 u80 u81 u82 u83 u84 u85 u86 u87 u88 u89 u90 u91 u92 u93 u94 u95 u96 u97 u98 u99 u100 u101 u102 u103 u104 u105 u106 u107 u108 u109 u110 u111 u112 u113 u114 u115 u116 C1 F1 DU1 OK1 K1 FF L1 B1 FB
  have hw0 := DU1.out.past.size
  go_wp2_with fail
  go_loopw [12] (fun iv wr => ∃ (n : Nat) (O : List Cont) (F2 : Nat → Prop), iv = .int .i64 n ∧ n ≤ 400 ∧ Duo w0 wr g r hold ⟨C1.V, C1.W, O⟩ ⟨C1.V, C1.W, O⟩ F2 ∧ (∀ b, F2 b → F b ∨ w.heap.size ≤ b) ∧ (∀ b, F2 b → b ≠ w.heap.size) ∧ O.length ≤ C1.O.length ∧ Kept F w wr ∧ Blk wr w.heap.size 44 (stE.enc x).toArray) (fun iv _ => 401 - (intOf iv).toNat)
  case atStart => exact ⟨0, C1.O, F1, rfl, Nat.zero_le _, DU1.out, FF.out, FB.out, Nat.le_refl _, K1.out, B1.out⟩
  case round =>
    clear DU1 FF FB K1 B1
    obtain ⟨n, O, F2, rfl, hn, hdu, hff, hfb, hol, hk, hb⟩ := hrel
    have hn0 : (0 : Int) ≤ n := by omega
    have hn4 : (n : Int) ≤ 400 := by omega
    have DU := Lib.hid hdu
    have FF := Lib.hid hff
    have FB := Lib.hid hfb
    have OL := Lib.hid hol
    have KR := Lib.hid hk
    have BX := Lib.hid hb
    have OK2 : Hid (∀ O, COk hold ⟨C1.V, C1.W, O⟩) := Lib.hid (fun O => ⟨OK1.out.ord, OK1.out.chk⟩)
    have x12 : wr.cell? ⟨w.heap.size, 12, none⟩ = some (.int .i64 x.tk) := hb.cell' (i := 12) rfl
    have FIN : Hid (∀ wz O F2, Duo w0 wz g r hold ⟨C1.V, C1.W, O⟩ ⟨C1.V, C1.W, O⟩ F2 → (∀ b, F2 b → F b ∨ w.heap.size ≤ b) → O.length ≤ C1.O.length → Kept F w wz → DoesPost w0 w g r hold C F (.returned (.bool true)) wz) := Lib.hid (fun wz O F2 h1 h2 h3 h4 => ⟨rfl, ⟨C1.V, C1.W, O⟩, F2, h1, OK2.out O, h4, h2, by have := L1.out; show C1.W.length + O.length ≤ _; omega⟩)
    clear hdu hff hfb hol hk hb
    have HAL := Lib.hid (alike_any DU.out (OK2.out O) hh0 hh)
    by_cases hlt : (n : Int) < x.tk
    case neg =>
      go_wp2_with (go_at_call 35; refine HAL.out.mono ?_; rintro e w6 ⟨rfl, hk6⟩)
      go_ret
      exact FIN.out _ O F2 (DU.out.kept hk6) FF.out OL.out (KR.out.trans hk6 (fun _ _ h => h.elim))
    case pos =>
    by_cases hlt4 : (n : Int) < 400
    case neg =>
      go_wp2_with (go_at_call 35; refine HAL.out.mono ?_; rintro e w6 ⟨rfl, hk6⟩)
      go_ret
      exact FIN.out _ O F2 (DU.out.kept hk6) FF.out OL.out (KR.out.trans hk6 (fun _ _ h => h.elim))
    case pos =>
      have HT := Lib.hid DU.out.takes
      have FRE := Lib.hid DU.out.fresh
      clear HAL
      go_upto_region 11 with (first
        | (go_at_call 14; refine HT.out.mono ?_; rintro er w2 ⟨e, b, O2, F3, rfl, htk, hd2, hlo2, hf3, hk2⟩; have A2 := Lib.hid (Blk.new w2 42 zeroOp))
        | (refine wpList_store_row rfl 42 _ _ rfl w2.heap.size (opA e.v) rfl rfl 42 zeroOp A2.out (by rw [opA_size]; exact size_op) (by rw [opA_size]; rfl) (opA_one _) ?_))
      have kA : Kept (fun _ => False) w2 ((w2.alloc (.cells zeroOp 42)).setRow w2.heap.size (opA e.v)) := ((Kept.refl _ _).alloc _).setRow (fun h => by omega) _
      have BA := Lib.hid (A2.out.row (opA e.v))
      have hzr := KR.out.size
      have hz2 := hk2.size
      have FBA : Hid (∀ b, F3 b → b ≠ w2.heap.size) := Lib.hid (fun b hb => by have := (hd2.fresh b hb).2; omega)
      have EB : Hid (∀ b, (e.dB = some b ∨ e.gB = some b) → ¬ F3 b ∧ (F b ∨ w.heap.size ≤ b) ∧ w0.heap.size ≤ b ∧ b ≠ w2.heap.size ∧ b ≠ w.heap.size) := Lib.hid (fun b hb => by
        have h1 : ¬ F3 b ∧ F2 b ∧ w0.heap.size ≤ b := hb.elim (hlo2.dB b) (hlo2.gB b)
        have h2 := (FRE.out b h1.2.1).2
        exact ⟨h1.1, FF.out b h1.2.1, h1.2.2, by omega, FB.out b h1.2.1⟩)
      have DU3 := Lib.hid (hd2.kept kA)
      have LO3 := Lib.hid (hlo2.kept kA (fun _ _ h => h) (fun _ _ h => h))
      have F3F := Lib.hid hf3
      have TK := Lib.hid htk
      have BX3 := Lib.hid (kA.blk (fun h => h) (hk2.blk (fun h => FB.out _ h rfl) BX.out))
      have K3 := Lib.hid ((KR.out.trans hk2 (fun b hb h => (FF.out b h).elim id (fun h => by omega))).trans kA (fun _ _ h => h.elim))
      have hA := kA.size
      clear kA A2 hd2 hlo2 hf3 htk hk2 HT DU FRE BX KR x12
      have hba : w2.heap.size < ((w2.alloc (.cells zeroOp 42)).setRow w2.heap.size (opA e.v)).heap.size := BA.out.lt
      generalize w2.heap.size = ba at *
      generalize (w2.alloc (.cells zeroOp 42)).setRow ba (opA e.v) = w3 at *
      have HR := Lib.hid DU3.out.rtakes
      go_upto_region 12 with (first
        | (go_at_call 36; refine HR.out.mono ?_; rintro er w4 ⟨f, b2, O3, rfl, htk2, hd4, hat4, hk4⟩; have A4 := Lib.hid (Blk.new w4 42 zeroOp))
        | (refine wpList_store_row rfl 42 _ _ rfl w4.heap.size (opA f.v) rfl rfl 42 zeroOp A4.out (by rw [opA_size]; exact size_op) (by rw [opA_size]; rfl) (opA_one _) ?_))
      obtain ⟨hbb, hOO, hcf⟩ := TK.out.one htk2
      subst hbb hOO
      have kB : Kept (fun _ => False) w4 ((w4.alloc (.cells zeroOp 42)).setRow w4.heap.size (opA f.v)) := ((Kept.refl _ _).alloc _).setRow (fun h => by omega) _
      have BB := Lib.hid (A4.out.row (opA f.v))
      have BA5 := Lib.hid (kB.blk (fun h => h) (hk4.blk (fun h => FBA.out _ h rfl) BA.out))
      have BX5 := Lib.hid (kB.blk (fun h => h) (hk4.blk (fun h => FB.out _ (F3F.out _ h) rfl) BX3.out))
      have DU5 := Lib.hid (hd4.kept kB)
      have LO5 := Lib.hid ((LO3.out.kept hk4 (fun b hb h => (EB.out b (.inl hb)).1 h) (fun b hb h => (EB.out b (.inr hb)).1 h)).kept kB (fun _ _ h => h) (fun _ _ h => h))
      have AT5 : Hid (f.At ((w4.alloc (.cells zeroOp 42)).setRow w4.heap.size (opA f.v))) := Lib.hid ⟨hat4.deps.kept kB, hat4.gone.kept kB⟩
      have K5 := Lib.hid ((K3.out.trans hk4 (fun b hb h => (FF.out b (F3F.out b h)).elim id (fun h => by omega))).trans kB (fun _ _ h => h.elim))
      have HCF := Lib.hid hcf
      clear kB A4 hd4 hat4 hk4 htk2 hcf DU3 LO3 BX3 K3 BA HR
      generalize w4.heap.size = bb at *
      generalize (w4.alloc (.cells zeroOp 42)).setRow bb (opA f.v) = w5 at *
      have HSA := Lib.hid (same_conts LO5.out.at_ AT5.out HCF.out LO5.out.len LO5.out.len2)
      have hne : (b != b) = false := by simp
      have p0 : w5.cell? ⟨ba, 0, none⟩ = some (.int .i64 e.v.dot.site) := BA5.out.cell' (i := 0) rfl
      have p1 : w5.cell? ⟨ba, 1, none⟩ = some (.int .i64 e.v.dot.seq) := BA5.out.cell' (i := 1) rfl
      have p2 : w5.cell? ⟨ba, 2, none⟩ = some (.slice e.v.deps.a e.v.deps.n e.v.deps.c) := BA5.out.cell' (i := 2) rfl
      have p3 : w5.cell? ⟨ba, 3, none⟩ = some (.int .i64 e.v.kind) := BA5.out.cell' (i := 3) rfl
      have p4 : w5.cell? ⟨ba, 4, none⟩ = some (.int .i64 e.v.id.t) := BA5.out.cell' (i := 4) rfl
      have p5 : w5.cell? ⟨ba, 5, none⟩ = some (.int .i64 e.v.id.s) := BA5.out.cell' (i := 5) rfl
      have p6 : w5.cell? ⟨ba, 6, none⟩ = some (.int .i64 e.v.ref.t) := BA5.out.cell' (i := 6) rfl
      have p7 : w5.cell? ⟨ba, 7, none⟩ = some (.int .i64 e.v.ref.s) := BA5.out.cell' (i := 7) rfl
      have p8 : w5.cell? ⟨ba, 8, none⟩ = some (.string e.v.text) := BA5.out.cell' (i := 8) rfl
      have p9 : w5.cell? ⟨ba, 9, none⟩ = some (.slice e.v.gone.a e.v.gone.n e.v.gone.c) := BA5.out.cell' (i := 9) rfl
      have p10 : w5.cell? ⟨ba, 10, none⟩ = some (.int .i64 e.v.site) := BA5.out.cell' (i := 10) rfl
      have q0 : w5.cell? ⟨bb, 0, none⟩ = some (.int .i64 f.v.dot.site) := BB.out.cell' (i := 0) rfl
      have q1 : w5.cell? ⟨bb, 1, none⟩ = some (.int .i64 f.v.dot.seq) := BB.out.cell' (i := 1) rfl
      have q2 : w5.cell? ⟨bb, 2, none⟩ = some (.slice f.v.deps.a f.v.deps.n f.v.deps.c) := BB.out.cell' (i := 2) rfl
      have q3 : w5.cell? ⟨bb, 3, none⟩ = some (.int .i64 f.v.kind) := BB.out.cell' (i := 3) rfl
      have q4 : w5.cell? ⟨bb, 4, none⟩ = some (.int .i64 f.v.id.t) := BB.out.cell' (i := 4) rfl
      have q5 : w5.cell? ⟨bb, 5, none⟩ = some (.int .i64 f.v.id.s) := BB.out.cell' (i := 5) rfl
      have q6 : w5.cell? ⟨bb, 6, none⟩ = some (.int .i64 f.v.ref.t) := BB.out.cell' (i := 6) rfl
      have q7 : w5.cell? ⟨bb, 7, none⟩ = some (.int .i64 f.v.ref.s) := BB.out.cell' (i := 7) rfl
      have q8 : w5.cell? ⟨bb, 8, none⟩ = some (.string f.v.text) := BB.out.cell' (i := 8) rfl
      have q9 : w5.cell? ⟨bb, 9, none⟩ = some (.slice f.v.gone.a f.v.gone.n f.v.gone.c) := BB.out.cell' (i := 9) rfl
      have q10 : w5.cell? ⟨bb, 10, none⟩ = some (.int .i64 f.v.site) := BB.out.cell' (i := 10) rfl
      go_upto_region 14 with (go_at_call 15; refine HSA.out.mono ?_; rintro er w6 ⟨rfl, hk6⟩)
      have DU6 := Lib.hid (DU5.out.kept hk6)
      have LO6 := Lib.hid (LO5.out.kept hk6 (fun _ _ h => h) (fun _ _ h => h))
      have BA6 := Lib.hid (hk6.blk (fun h => h) BA5.out)
      have BX6 := Lib.hid (hk6.blk (fun h => h) BX5.out)
      have K6 := Lib.hid (K5.out.trans hk6 (fun _ _ h => h.elim))
      clear p0 p1 p2 p3 p4 p5 p6 p7 p8 p9 p10 q0 q1 q2 q3 q4 q5 q6 q7 q8 q9 q10 hk6 DU5 LO5 BA5 BX5 K5 BB AT5 HSA HCF hne
      have hdn : e.v.deps.n = e.D.length := by obtain ⟨_, _, h⟩ := owns_sl LO6.out.deps; unfold Sl.v at h; injection h
      have hgn : e.v.gone.n = e.G.length := by obtain ⟨_, _, h⟩ := owns_sl LO6.out.gone; unfold Sl.v at h; injection h
      have RD : Hid (w6.ownsRow 0 28 dotE.k (.slice e.v.deps.a e.D.length e.v.deps.c) e.D.length (dotE.flat e.D)) := Lib.hid (by rw [← hdn]; have := LO6.out.deps; rw [← hdn] at this; exact this)
      have RG : Hid (w6.ownsRow 0 77 runE.k (.slice e.v.gone.a e.G.length e.v.gone.c) e.G.length (runE.flat e.G)) := Lib.hid (by rw [← hgn]; have := LO6.out.gone; rw [← hgn] at this; exact this)
      have EN := Lib.hid (And.intro hdn hgn)
      have LL := Lib.hid (And.intro LO6.out.len LO6.out.len2)
      have SZD := Lib.hid size_dot2
      have SZR := Lib.hid size_run2
      obtain ⟨dl, hdl⟩ : ∃ m, e.D.length = m := ⟨_, rfl⟩
      obtain ⟨gl, hgl⟩ : ∃ m, e.G.length = m := ⟨_, rfl⟩
      rw [hdl] at RD LL EN
      rw [hgl] at RG LL EN
      have DLEN := Lib.hid hdl
      have GLEN := Lib.hid hgl
      clear hdn hgn LO6 hdl hgl
      go_wp2_with fail
      generalize wr = wq at *
      go_loopw [17] (fun iv wr => ∃ (m : Nat) (L : List Dot), iv = .int .i64 m ∧ m ≤ dl ∧ L.length = dl ∧ wr.ownsRow 0 28 dotE.k (.slice e.v.deps.a dl e.v.deps.c) dl (dotE.flat L) ∧ wr.ownsRow 0 77 runE.k (.slice e.v.gone.a gl e.v.gone.c) gl (runE.flat e.G) ∧ Duo w0 wr g r hold ⟨C1.V, C1.W, O2⟩ ⟨C1.V, C1.W, O2⟩ F3 ∧ Kept F w wr ∧ Blk wr ba 42 (opA e.v) ∧ Blk wr w.heap.size 44 (stE.enc x).toArray) (fun iv _ => dl - (intOf iv).toNat)
      case atStart => exact ⟨0, e.D, rfl, Nat.zero_le _, DLEN.out, RD.out, RG.out, DU6.out, K6.out, BA6.out, BX6.out⟩
      case round =>
        clear RD RG DU6 K6 BA6 BX6
        obtain ⟨m, L, rfl, hm, hL, hrd, hrg, hdu, hk, hba6, hbx6⟩ := hrel
        have hm0 : (0 : Int) ≤ m := by omega
        have hdl1 := LL.out.1
        have LEN := Lib.hid hL
        have RD := Lib.hid hrd
        have RG := Lib.hid hrg
        have DU := Lib.hid hdu
        have KR := Lib.hid hk
        have BA := Lib.hid hba6
        have BX := Lib.hid hbx6
        have a2 : wr.cell? ⟨ba, 2, none⟩ = some (.slice e.v.deps.a dl e.v.deps.c) := (hba6.cell' (i := 2) rfl).trans (by rw [← EN.out.1]; rfl)
        clear hL hrd hrg hdu hk hba6 hbx6
        by_cases hlt2 : m < dl
        case pos =>
          have hltI : (m : Int) < dl := by omega
          obtain ⟨hl0, ⟨_, hno⟩ | ⟨gD, cap, hv, hz0, hO⟩⟩ := own_of (E := dotE) RD.out
          · have h1 := LEN.out; rw [hno] at h1; simp at h1; omega
          injection hv with ha6 hl6 hc6
          have hdB : e.dB = some gD := by show e.v.deps.v.ownBlock = _; unfold Sl.v; rw [ha6]; rfl
          have HEB := Lib.hid (EB.out gD (.inl hdB))
          have hle := hO.le
          rw [LEN.out] at hle
          have hcI : (m : Int) < cap := by omega
          rw [ha6, hc6] at a2
          have HKL := Lib.hid (show m < L.length by rw [LEN.out]; exact hlt2)
          have OW := Lib.hid hO
          have HV := Lib.hid (And.intro ha6 hc6)
          clear hl0 hO hl6 hdB ha6 hc6 hle
          go_wp2_with (refine wpList_store_elem (E := dotE) rfl 28 (.tmp 99) (.tmp 98) rfl ⟨906, 0⟩ (i := m) rfl rfl OW.out HKL.out SZD.out ?_; intro w2 hO2 hk2)
          go_roundw
          case rel =>
            have he := HEB.out
            refine ⟨m + 1, L.set m ⟨906, 0⟩, by go_num, by omega, by rw [List.length_set]; exact LEN.out, ?_, owns_keep RG.out hk2 (fun b hb h => by have h : b = gD := h; subst h; obtain ⟨cs, hc, _⟩ := OW.out; exact own_blk_ne RG.out hc (of_decide_eq_true (by kernel_rfl)) hb), DU.out.keep hk2 (fun b hb h => by have h : b = gD := h; subst h; exact he.1 hb) (fun b h => by have h : b = gD := h; subst h; exact he.2.2.1), KR.out.trans hk2 (fun b hb h => by have h : b = gD := h; subst h; exact he.2.1.elim id (fun h => by omega)), hk2.blk (fun h => by have h : ba = gD := h; exact he.2.2.2.1 h.symm) BA.out, hk2.blk (fun h => by have h : w.heap.size = gD := h; exact he.2.2.2.2 h.symm) BX.out⟩
            have := hO2.owns (Nat.zero_le gD)
            rw [List.length_set, LEN.out] at this
            rw [HV.out.1, HV.out.2]
            exact this
          case measure => simp [intOf] <;> omega
        case neg =>
          have hnl : ¬ (m : Int) < dl := by omega
          go_wp2_with fail
          clear a2
          generalize wr = wp at *
          go_loopw [18] (fun iv wr => ∃ (m : Nat) (Y : List Run), iv = .int .i64 m ∧ m ≤ gl ∧ Y.length = gl ∧ wr.ownsRow 0 77 runE.k (.slice e.v.gone.a gl e.v.gone.c) gl (runE.flat Y) ∧ Duo w0 wr g r hold ⟨C1.V, C1.W, O2⟩ ⟨C1.V, C1.W, O2⟩ F3 ∧ Kept F w wr ∧ Blk wr ba 42 (opA e.v) ∧ Blk wr w.heap.size 44 (stE.enc x).toArray) (fun iv _ => gl - (intOf iv).toNat)
          case atStart => exact ⟨0, e.G, rfl, Nat.zero_le _, GLEN.out, RG.out, DU.out, KR.out, BA.out, BX.out⟩
          case round =>
            clear RD RG DU KR BA BX LEN
            obtain ⟨i, Y, rfl, hi, hY, hrg, hdu, hk, hba6, hbx6⟩ := hrel
            have hi0 : (0 : Int) ≤ i := by omega
            have hgl1 := LL.out.2
            have LEN := Lib.hid hY
            have RG := Lib.hid hrg
            have DU := Lib.hid hdu
            have KR := Lib.hid hk
            have BA := Lib.hid hba6
            have BX := Lib.hid hbx6
            have a9 : wr.cell? ⟨ba, 9, none⟩ = some (.slice e.v.gone.a gl e.v.gone.c) := (hba6.cell' (i := 9) rfl).trans (by rw [← EN.out.2]; rfl)
            clear hY hrg hdu hk hba6 hbx6
            by_cases hlt3 : i < gl
            case pos =>
              have hltI : (i : Int) < gl := by omega
              obtain ⟨hl0, ⟨_, hno⟩ | ⟨gD, cap, hv, hz0, hO⟩⟩ := own_of (E := runE) RG.out
              · have h1 := LEN.out; rw [hno] at h1; simp at h1; omega
              injection hv with ha6 hl6 hc6
              have hdB : e.gB = some gD := by show e.v.gone.v.ownBlock = _; unfold Sl.v; rw [ha6]; rfl
              have HEB := Lib.hid (EB.out gD (.inr hdB))
              have hle := hO.le
              rw [LEN.out] at hle
              have hcI : (i : Int) < cap := by omega
              rw [ha6, hc6] at a9
              have HKL := Lib.hid (show i < Y.length by rw [LEN.out]; exact hlt3)
              have OW := Lib.hid hO
              have HV := Lib.hid (And.intro ha6 hc6)
              clear hl0 hO hl6 hdB ha6 hc6 hle
              go_wp2_with (refine wpList_store_elem (E := runE) rfl 77 (.tmp 111) (.tmp 110) rfl ⟨⟨0, 0⟩, 907⟩ (i := i) rfl rfl OW.out HKL.out SZR.out ?_; intro w2 hO2 hk2)
              go_roundw
              case rel =>
                have he := HEB.out
                refine ⟨i + 1, Y.set i ⟨⟨0, 0⟩, 907⟩, by go_num, by omega, by rw [List.length_set]; exact LEN.out, ?_, DU.out.keep hk2 (fun b hb h => by have h : b = gD := h; subst h; exact he.1 hb) (fun b h => by have h : b = gD := h; subst h; exact he.2.2.1), KR.out.trans hk2 (fun b hb h => by have h : b = gD := h; subst h; exact he.2.1.elim id (fun h => by omega)), hk2.blk (fun h => by have h : ba = gD := h; exact he.2.2.2.1 h.symm) BA.out, hk2.blk (fun h => by have h : w.heap.size = gD := h; exact he.2.2.2.2 h.symm) BX.out⟩
                have := hO2.owns (Nat.zero_le gD)
                rw [List.length_set, LEN.out] at this
                rw [HV.out.1, HV.out.2]
                exact this
              case measure => simp [intOf] <;> omega
            case neg =>
              have hnl2 : ¬ (i : Int) < gl := by omega
              have TKL := TK.out.le
              have F3A : Hid (∀ b, F3 b → F b ∨ w.heap.size ≤ b) := Lib.hid (fun b h => FF.out b (F3F.out b h))
              cases b with
              | false =>
                have HAL := Lib.hid (alike_any DU.out (OK2.out O2) hh0 hh)
                go_wp2_with (go_at_call 35; refine HAL.out.mono ?_; rintro er w7 ⟨rfl, hk7⟩)
                go_ret
                exact FIN.out _ O2 F3 (DU.out.kept hk7) F3A.out (Nat.le_trans TKL.1 OL.out) (KR.out.trans hk7 (fun _ _ h => h.elim))
              | true =>
                go_wp2_with fail
                go_roundw
                case rel => exact ⟨n + 1, O2, F3, by go_num, by omega, DU.out, F3A.out, fun b h => FB.out b (F3F.out b h), Nat.le_trans TKL.1 OL.out, KR.out, BX.out⟩
                case measure => simp [intOf] <;> omega
theorem does_any {w0 w : World} {g r : Nat} {hold : Int} {C : CQ} {F : Nat → Prop} {x : StV} (h : Duo w0 w g r hold C C F) (hc : COk hold C) (hh0 : 0 ≤ hold) (hh : hold ≤ 256) (hx : OpIn w0 x.e) (hn : ¬ bigP x.e.v) (hl : C.W.length + C.O.length ≤ 10000) :
    Calls Tryz.prog 12 #[.pointer (some ⟨g, 0, none⟩), .pointer (some ⟨r, 0, none⟩), .agg (stE.enc x).toArray] w (DoesPost w0 w g r hold C F) := does0.2.2 ⟨does1⟩ ⟨does2⟩ w0 w g r hold C F x h hc hh0 hh hx hn hl
end Go.Proofs.YtaaeomapbigfgaaGreat
