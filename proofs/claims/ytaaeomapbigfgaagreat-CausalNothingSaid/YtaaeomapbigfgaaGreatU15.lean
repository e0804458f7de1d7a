/- (*hearsayref13.Queue).Offer, where there is no room. QrOffer2, the parts. (*causal.Queue).Take. -/
import Derived.Test.YtaaeomapbigfgaaGreatU14
import Derived.Test.YtaaeomapbigfgaaGreatU7
import Derived.Laws.ResultCell
namespace Go.Proofs.YtaaeomapbigfgaaGreat
open Go.RowKit Go.Proofs.YtaaeomapbigfgaaGreat.St
open Go.Sort (grow)
set_option maxRecDepth 100000 in
set_option maxHeartbeats 16000000 in
noncomputable def roffer20 : PSigma fun Q1 : Prop => Later Q1 → roffer0.2.1 := ⟨_, fun cut1 => by
  intro w0 w P g hold s F vv ov x D G hmix LOW ND HWL HOL HH wa w1 zQrOffer_1 PE HX z1 zg nq osq w2 wa1 wc1 HQ zQrOffer_2 HP wr u4 u5 u25 u26 u27 u28 u29 u30 u31 u32 u33 u34 u35 u36 u37 u38 u39 u40 u41 u42 u43 u44 n hn hn0 KR QR BR hWl hlt hnl HNO DP CAN zQrOffer_3 zQrOffer_4 zQrOffer_5 zQrOffer_6 zQrOffer_7 zQrOffer_8 zQrOffer_9 NC
  go_upto_region 20 with (first
    | (refine wpList_load_row rfl 42 _ rfl w.heap.size rfl 42 _ (0, 0) _ BR.out Tryz.underlying42 rfl (by rw [opA_size]; exact size_op) ?_)
    | (go_at_call 55; refine CAN.out.mono ?_; rintro r w5 ⟨rfl, hg5⟩))
  have Q5 := Lib.hid (QR.out.kept hg5.kept.drew)
  have B5 := Lib.hid (hg5.kept.drew.blk (fun h => h) BR.out)
  have K5 := Lib.hid (KR.out.trans hg5.kept.drew (fun _ _ h => h))
  have q2 : w5.cell? ⟨g, 2, none⟩ = some (.slice wa1 s.W.length wc1) := Q5.out.head.cell' (i := 2) rfl
  have q0 : w5.cell? ⟨g, 0, none⟩ = some (.int .i64 hold) := Q5.out.head.cell' (i := 0) rfl
  have zw5 : w.heap.size < w5.heap.size := B5.out.lt
  clear hg5 QR BR KR CAN
  by_cases hle : (s.W.length : Int) < hold
  · have HLE : Hid ((s.W.length : Int) + 1 ≤ hold) := Lib.hid (by omega)
    go_region
    all_goals
      clear q0 q2
      generalize w5.drew = w6 at *
      have x0 : w6.cell? ⟨w.heap.size, 0, none⟩ = some (.int .i64 x.dot.site) := B5.out.cell' (i := 0) rfl
      have x1 : w6.cell? ⟨w.heap.size, 1, none⟩ = some (.int .i64 x.dot.seq) := B5.out.cell' (i := 1) rfl
      have x2 : w6.cell? ⟨w.heap.size, 2, none⟩ = some (.slice x.deps.a x.deps.n x.deps.c) := B5.out.cell' (i := 2) rfl
      have x3 : w6.cell? ⟨w.heap.size, 3, none⟩ = some (.int .i64 x.kind) := B5.out.cell' (i := 3) rfl
      have x4 : w6.cell? ⟨w.heap.size, 4, none⟩ = some (.int .i64 x.id.t) := B5.out.cell' (i := 4) rfl
      have x5 : w6.cell? ⟨w.heap.size, 5, none⟩ = some (.int .i64 x.id.s) := B5.out.cell' (i := 5) rfl
      have x6 : w6.cell? ⟨w.heap.size, 6, none⟩ = some (.int .i64 x.ref.t) := B5.out.cell' (i := 6) rfl
      have x7 : w6.cell? ⟨w.heap.size, 7, none⟩ = some (.int .i64 x.ref.s) := B5.out.cell' (i := 7) rfl
      have x8 : w6.cell? ⟨w.heap.size, 8, none⟩ = some (.string x.text) := B5.out.cell' (i := 8) rfl
      have x9 : w6.cell? ⟨w.heap.size, 9, none⟩ = some (.slice x.gone.a x.gone.n x.gone.c) := B5.out.cell' (i := 9) rfl
      have x10 : w6.cell? ⟨w.heap.size, 10, none⟩ = some (.int .i64 x.site) := B5.out.cell' (i := 10) rfl
      have q2 : w6.cell? ⟨g, 2, none⟩ = some (.slice wa1 s.W.length wc1) := Q5.out.head.cell' (i := 2) rfl
      have q2a := ((Kept.refl (fun _ => False) w6).alloc (.cells #[.int .i64 x.dot.site, .int .i64 x.dot.seq, .slice x.deps.a x.deps.n x.deps.c, .int .i64 x.kind, .int .i64 x.id.t, .int .i64 x.id.s, .int .i64 x.ref.t, .int .i64 x.ref.s, .string x.text, .slice x.gone.a x.gone.n x.gone.c, .int .i64 x.site] 42)).cell q2
      have LD := Lib.hid (lit_op w6 ⟨x, D, G⟩)
      have kL : Kept (fun _ => False) w6 ((w6.alloc (.cells #[.int .i64 x.dot.site, .int .i64 x.dot.seq, .slice x.deps.a x.deps.n x.deps.c, .int .i64 x.kind, .int .i64 x.id.t, .int .i64 x.id.s, .int .i64 x.ref.t, .int .i64 x.ref.s, .string x.text, .slice x.gone.a x.gone.n x.gone.c, .int .i64 x.site] 42)).drew) := ((Kept.refl (fun _ => False) w6).alloc _).drew
      have QL := Lib.hid (Q5.out.kept kL)
      have KL := Lib.hid (K5.out.trans kL (fun _ _ h => h))
      clear kL
      go_upto_region 21 with fail
      go_region_law (refine step_append_row (E := entE) rfl (.tmp 90) (.tmp 92) 47 rfl 0 42 _ 128 Tryz.underlying47 info_op rfl (by decide) rfl rfl QL.out.wait (LD.out.kept (Kept.refl (fun _ => False) _).drew) (by have := HWL.out; omega) (Nat.zero_le _) ?_; intro v6 w7 ho6 hg6; obtain ⟨a6, c6, rfl⟩ := owns_sl ho6; have q2 := ((grow1_kept hg6).blk (fun hb => by obtain ⟨cs, hc⟩ := QL.out.wOp g hb; exact QL.out.head.ne_ hc (of_decide_eq_true (by kernel_rfl)) rfl) QL.out.head).cell' (i := 2) rfl; have f2 := ((grow1_kept hg6).blk (fun hb => by obtain ⟨cs, hc⟩ := QL.out.wOp g hb; exact QL.out.head.ne_ hc (of_decide_eq_true (by kernel_rfl)) rfl) QL.out.head).frozen 2)
      all_goals
        obtain ⟨QP, kP⟩ := QL.out.pushed PE.out ho6 hg6 (by have := HWL.out; omega)
        have KQ := Lib.hid ((KL.out.mono (S' := QF w g F) (fun _ _ h => h.elim)).trans kP (fun b hb h => h.back KL.out hb))
        have Q7 := Lib.hid (QP.wider (F' := fun b => F b ∨ w.heap.size ≤ b) (fun b h => h.imp id (fun h => Nat.le_trans KL.out.size h)))
        clear QP kP
        go_wp2_with fail
        go_ret2
        exact ⟨2, ⟨s.V, s.W ++ [_], s.O⟩, vv, _, ov, rfl, .inr (.inr (.inr (.inl ⟨rfl, HNO.out, NC.out, HLE.out, rfl, rfl⟩))), Q7.out, KQ.out, .inl rfl⟩
  · have HLE : Hid (hold < (s.W.length : Int) + 1) := Lib.hid (by omega)
    go_region
    all_goals
      clear q0 q2
      generalize w5.drew = w6 at *
      have A6 := Lib.hid (Blk.new w6 42 zeroOp)
      go_upto_region 25 with (first
        | (refine wpList_load_row rfl 42 _ rfl w.heap.size rfl 42 _ (0, 0) _ B5.out Tryz.underlying42 rfl (by rw [opA_size]; exact size_op) ?_)
        | (refine wpList_store_row rfl 42 _ _ rfl w6.heap.size (opA x) rfl rfl 42 zeroOp A6.out (by rw [opA_size]; exact size_op) (by rw [opA_size]; rfl) (opA_one _) ?_))
      have kA : Kept (fun _ => False) w6 ((w6.alloc (.cells zeroOp 42)).setRow w6.heap.size (opA x)) := ((Kept.refl _ _).alloc _).setRow (fun h => by omega) _
      have BF := Lib.hid (A6.out.row (opA x))
      have K7 := Lib.hid (K5.out.trans kA (fun _ _ h => h))
      have B7 := Lib.hid (kA.blk (fun h => h) B5.out)
      have zb : w.heap.size < w6.heap.size := B5.out.lt
      clear A6 kA Q5 B5 K5
      generalize w6.heap.size = bf at *
      generalize (w6.alloc (.cells zeroOp 42)).setRow bf (opA x) = w7 at *
      go_wp2_with fail
      go_loopw [10, 12] (fun kv iv wr => ∃ (n : Nat) (k : Int) (f : Ent), iv = .int .i64 n ∧ kv = .int .i64 k ∧ n ≤ s.W.length ∧ FarIs P s.W ⟨x, D, G⟩ n k f ∧ Blk wr bf 42 (opA f.v) ∧ Blk wr w.heap.size 42 (opA x) ∧ Kept (fun _ => False) w wr) (fun _ iv _ => s.W.length - (intOf iv).toNat)
      case atStart => exact ⟨0, -1, ⟨x, D, G⟩, rfl, rfl, Nat.zero_le _, ⟨.inl ⟨rfl, rfl⟩, fun y hy => by simp at hy, NoFar.refl _, PE.out⟩, BF.out, B7.out, K7.out⟩
      case round =>
        clear BF B7 K7
        obtain ⟨n, k, f, rfl, rfl, hn, hf, hbf, hbo, hk⟩ := hrel
        have hn0 : (0 : Int) ≤ n := by omega
        have FI := Lib.hid hf
        have BF := Lib.hid hbf
        have BO := Lib.hid hbo
        have KR := Lib.hid hk
        have QR := Lib.hid (HQ.out.kept hk)
        have hWl := HWL.out
        have q2 : wr.cell? ⟨g, 2, none⟩ = some (.slice wa1 s.W.length wc1) := QR.out.head.cell' (i := 2) rfl
        clear hf hbf hbo hk
        by_cases hlt : n < s.W.length
        case pos =>
          have hltI : (n : Int) < s.W.length := by omega
          obtain ⟨e, he⟩ := get_of_lt hlt
          obtain ⟨hl0, ⟨_, hno⟩ | ⟨b, cap, hv, hz0, hO⟩⟩ := own_of (E := entE) QR.out.wait
          · rw [hno] at hlt; simp at hlt
          injection hv with ha6 hl6 hc6
          subst ha6
          obtain rfl : cap = wc1 := hc6.symm
          clear hl0 hz0 hl6 hc6
          have HX2 := Lib.hid he
          have OW := Lib.hid hO
          clear he hO
          have PEe := Lib.hid (QR.out.ents e (List.mem_append.2 (.inl (List.mem_of_getElem? HX2.out))))
          have kd := Lib.hid ((KR.out.drew).mono (S' := QF w g F) (fun _ _ h => h.elim))
          have HFAR := Lib.hid (rfar_any (LOW.out.deps kd.out PEe.out) (LOW.out.deps kd.out FI.out.2.2.2) (Nat.le_trans (LOW.out.ent _ PEe.out).2.2 (by decide)) (Nat.le_trans (LOW.out.ent _ FI.out.2.2.2).2.2 (by decide)))
          clear kd
          have c0 : wr.cell? ⟨b, n * 11, none⟩ = some (.int .i64 e.v.dot.site) := OwnAt.ent OW.out HX2.out (j := 0) rfl
          have c1 : wr.cell? ⟨b, n * 11 + 1, none⟩ = some (.int .i64 e.v.dot.seq) := OwnAt.ent OW.out HX2.out (j := 1) rfl
          have c2 : wr.cell? ⟨b, n * 11 + 2, none⟩ = some (.slice e.v.deps.a e.v.deps.n e.v.deps.c) := OwnAt.ent OW.out HX2.out (j := 2) rfl
          have c3 : wr.cell? ⟨b, n * 11 + 3, none⟩ = some (.int .i64 e.v.kind) := OwnAt.ent OW.out HX2.out (j := 3) rfl
          have c4 : wr.cell? ⟨b, n * 11 + 4, none⟩ = some (.int .i64 e.v.id.t) := OwnAt.ent OW.out HX2.out (j := 4) rfl
          have c5 : wr.cell? ⟨b, n * 11 + 5, none⟩ = some (.int .i64 e.v.id.s) := OwnAt.ent OW.out HX2.out (j := 5) rfl
          have c6 : wr.cell? ⟨b, n * 11 + 6, none⟩ = some (.int .i64 e.v.ref.t) := OwnAt.ent OW.out HX2.out (j := 6) rfl
          have c7 : wr.cell? ⟨b, n * 11 + 7, none⟩ = some (.int .i64 e.v.ref.s) := OwnAt.ent OW.out HX2.out (j := 7) rfl
          have c8 : wr.cell? ⟨b, n * 11 + 8, none⟩ = some (.string e.v.text) := OwnAt.ent OW.out HX2.out (j := 8) rfl
          have c9 : wr.cell? ⟨b, n * 11 + 9, none⟩ = some (.slice e.v.gone.a e.v.gone.n e.v.gone.c) := OwnAt.ent OW.out HX2.out (j := 9) rfl
          have c10 : wr.cell? ⟨b, n * 11 + 10, none⟩ = some (.int .i64 e.v.site) := OwnAt.ent OW.out HX2.out (j := 10) rfl
          have y0 : wr.cell? ⟨bf, 0, none⟩ = some (.int .i64 f.v.dot.site) := BF.out.cell' (i := 0) rfl
          have y1 : wr.cell? ⟨bf, 1, none⟩ = some (.int .i64 f.v.dot.seq) := BF.out.cell' (i := 1) rfl
          have y2 : wr.cell? ⟨bf, 2, none⟩ = some (.slice f.v.deps.a f.v.deps.n f.v.deps.c) := BF.out.cell' (i := 2) rfl
          have y3 : wr.cell? ⟨bf, 3, none⟩ = some (.int .i64 f.v.kind) := BF.out.cell' (i := 3) rfl
          have y4 : wr.cell? ⟨bf, 4, none⟩ = some (.int .i64 f.v.id.t) := BF.out.cell' (i := 4) rfl
          have y5 : wr.cell? ⟨bf, 5, none⟩ = some (.int .i64 f.v.id.s) := BF.out.cell' (i := 5) rfl
          have y6 : wr.cell? ⟨bf, 6, none⟩ = some (.int .i64 f.v.ref.t) := BF.out.cell' (i := 6) rfl
          have y7 : wr.cell? ⟨bf, 7, none⟩ = some (.int .i64 f.v.ref.s) := BF.out.cell' (i := 7) rfl
          have y8 : wr.cell? ⟨bf, 8, none⟩ = some (.string f.v.text) := BF.out.cell' (i := 8) rfl
          have y9 : wr.cell? ⟨bf, 9, none⟩ = some (.slice f.v.gone.a f.v.gone.n f.v.gone.c) := BF.out.cell' (i := 9) rfl
          have y10 : wr.cell? ⟨bf, 10, none⟩ = some (.int .i64 f.v.site) := BF.out.cell' (i := 10) rfl
          by_cases hfar : 0 < farV e.v.dot f.v.dot e.D f.D
          · rw [decide_eq_true hfar] at HFAR
            have HF := Lib.hid hfar
            clear hfar
            go_upto_region 28 with fail
            go_region_with (go_at_call 59; refine HFAR.out.mono ?_; rintro r w8 ⟨rfl, hk8⟩; have q2 := hk8.cell q2)
            all_goals
              have B8 := Lib.hid (hk8.blk (fun h => h) (((Kept.refl (fun _ => False) wr).drew).blk (fun h => h) BF.out))
              have BO8 := Lib.hid (hk8.blk (fun h => h) (((Kept.refl (fun _ => False) wr).drew).blk (fun h => h) BO.out))
              have OW8 := Lib.hid ((OW.out.keep ((Kept.refl (fun _ => False) wr).drew) (fun h => h)).keep hk8 (fun h => h))
              have K8 := Lib.hid ((KR.out.drew).trans hk8 (fun _ _ h => h))
              clear hk8 c0 c1 c2 c3 c4 c5 c6 c7 c8 c9 c10 y0 y1 y2 y3 y4 y5 y6 y7 y8 y9 y10
              go_wp2_with (first
                | (refine wpList_load_elem (E := entE) rfl 42 _ rfl (i := n) rfl OW8.out HX2.out Tryz.underlying42 rfl size_op ?_)
                | (refine wpList_store_row rfl 42 _ _ rfl bf (opA e.v) rfl rfl 42 (opA f.v) B8.out (by rw [opA_size]; exact size_op) (by rw [opA_size, opA_size]) (opA_one _) ?_))
              go_roundw
              case rel => exact ⟨n + 1, n, e, by go_num, rfl, by omega, FI.out.far HX2.out HF.out PEe.out, B8.out.row _, BO8.out.row_far (by omega) _, K8.out.over ((Kept.refl (fun x => x = bf) w8).setRow (fun _ => rfl) _) (fun b h => by have h : b = bf := h; omega)⟩
              case measure => simp [intOf] <;> omega
          · rw [decide_eq_false hfar] at HFAR
            have HF : Hid (farV e.v.dot f.v.dot e.D f.D ≤ 0) := Lib.hid (Int.not_lt.1 hfar)
            clear hfar
            go_upto_region 28 with fail
            go_region_with (go_at_call 59; refine HFAR.out.mono ?_; rintro r w8 ⟨rfl, hk8⟩; have q2 := hk8.cell q2)
            all_goals
              have B8 := Lib.hid (hk8.blk (fun h => h) (((Kept.refl (fun _ => False) wr).drew).blk (fun h => h) BF.out))
              have BO8 := Lib.hid (hk8.blk (fun h => h) (((Kept.refl (fun _ => False) wr).drew).blk (fun h => h) BO.out))
              have K8 := Lib.hid ((KR.out.drew).trans hk8 (fun _ _ h => h))
              clear hk8 c0 c1 c2 c3 c4 c5 c6 c7 c8 c9 c10 y0 y1 y2 y3 y4 y5 y6 y7 y8 y9 y10
              go_wp2_with fail
              go_roundw
              case rel => exact ⟨n + 1, k, f, by go_num, rfl, by omega, FI.out.near HX2.out (show ¬ 0 < farV e.v.dot f.v.dot e.D f.D from Int.not_lt.2 HF.out), B8.out, BO8.out, K8.out⟩
              case measure => simp [intOf] <;> omega
        case neg =>
          obtain rfl : n = s.W.length := by omega
          have hnl : ¬ (s.W.length : Int) < s.W.length := by omega
          have NDE := Lib.hid (nodup_snoc (D := D) (G := G) ND.out HNO.out)
          rcases FI.out.1 with ⟨hk1, hf⟩ | ⟨m, hk1, hm, hmf⟩
          · have hkn : k < 0 := by omega
            have ALL := Lib.hid (FI.out.all)
            subst hf
            clear hk1
            go_wp2_with fail
            go_ret2
            have hgi : grI (s.W ++ [⟨x, D, G⟩]) (s.W.length + 1) = s.W.length := by
              have := gr_one NDE.out (m := s.W.length) (f := ⟨x, D, G⟩) (by simp) ALL.out
              simpa using this
            have hE : (s.W ++ [(⟨x, D, G⟩ : Ent)]).eraseIdx s.W.length = s.W := by rw [List.eraseIdx_append_of_length_le (Nat.le_refl _)]; simp
            exact ⟨4, s, vv, _, ov, rfl, .inr (.inr (.inr (.inr ⟨rfl, HNO.out, NC.out, HLE.out, ⟨x, D, G⟩, by rw [hgi]; simp, by rw [hgi, hE], (if_pos rfl).symm⟩))), QR.out.wider (fun _ h => .inl h), KR.out.mono (fun _ _ h => h.elim), .inl rfl⟩
          · subst hk1
            have hkn : ¬ (m : Int) < 0 := by omega
            have hm0 : (0 : Int) ≤ m := by omega
            have ALL := Lib.hid (FI.out.all)
            have HMF := Lib.hid hmf
            clear hmf
            obtain ⟨hl0, ⟨_, hno⟩ | ⟨b, cap, hv, hz0, hO⟩⟩ := own_of (E := entE) QR.out.wait
            · rw [hno] at hm; simp at hm
            injection hv with ha6 hl6 hc6
            subst ha6
            obtain rfl : cap = wc1 := hc6.symm
            clear hl0 hz0 hl6 hc6
            have OW := Lib.hid hO
            have HML := Lib.hid hm
            have HCU := Lib.hid (fun (w' : World) (hk : Kept (fun _ => False) wr w') => rcut_any (OW.out.keep hk (fun h => h)) HML.out (by have := HWL.out; omega))
            have LEN : Hid ((s.W.eraseIdx m).length ≤ 10000) := Lib.hid (Nat.le_trans (List.length_eraseIdx_le s.W m) HWL.out)
            clear hO
            have x0 : wr.cell? ⟨w.heap.size, 0, none⟩ = some (.int .i64 x.dot.site) := BO.out.cell' (i := 0) rfl
            have x1 : wr.cell? ⟨w.heap.size, 1, none⟩ = some (.int .i64 x.dot.seq) := BO.out.cell' (i := 1) rfl
            have x2 : wr.cell? ⟨w.heap.size, 2, none⟩ = some (.slice x.deps.a x.deps.n x.deps.c) := BO.out.cell' (i := 2) rfl
            have x3 : wr.cell? ⟨w.heap.size, 3, none⟩ = some (.int .i64 x.kind) := BO.out.cell' (i := 3) rfl
            have x4 : wr.cell? ⟨w.heap.size, 4, none⟩ = some (.int .i64 x.id.t) := BO.out.cell' (i := 4) rfl
            have x5 : wr.cell? ⟨w.heap.size, 5, none⟩ = some (.int .i64 x.id.s) := BO.out.cell' (i := 5) rfl
            have x6 : wr.cell? ⟨w.heap.size, 6, none⟩ = some (.int .i64 x.ref.t) := BO.out.cell' (i := 6) rfl
            have x7 : wr.cell? ⟨w.heap.size, 7, none⟩ = some (.int .i64 x.ref.s) := BO.out.cell' (i := 7) rfl
            have x8 : wr.cell? ⟨w.heap.size, 8, none⟩ = some (.string x.text) := BO.out.cell' (i := 8) rfl
            have x9 : wr.cell? ⟨w.heap.size, 9, none⟩ = some (.slice x.gone.a x.gone.n x.gone.c) := BO.out.cell' (i := 9) rfl
            have x10 : wr.cell? ⟨w.heap.size, 10, none⟩ = some (.int .i64 x.site) := BO.out.cell' (i := 10) rfl
            have QH := Lib.hid QR.out.head
            have f2 := QR.out.head.frozen 2
            have LIT := Lib.hid (fun (w' : World) => lit_op w' ⟨x, D, G⟩)
            (rename_i zQrOffer2_1 zQrOffer2_2 zQrOffer2_3 zQrOffer2_4 zQrOffer2_5 zQrOffer2_6 zQrOffer2_7 zQrOffer2_8; revert w0 w P g hold s F vv ov x D G hmix LOW ND HWL HOL HH wa w1 zQrOffer_1 PE HX z1 zg nq osq w2 zQrOffer_2 HP zQrOffer2_1 u4 u5 u25 u26 u27 u28 u29 u30 u31 u32 u33 u34 u35 u36 u37 u38 u39 u40 u41 u42 u43 u44 n zQrOffer2_2 zQrOffer2_3 zQrOffer2_4 zQrOffer2_5 HNO DP zQrOffer_3 zQrOffer_4 zQrOffer_5 NC w5 zQrOffer2_6 zw5 HLE w6 zQrOffer2_7 zQrOffer2_8 bf zb w7 hle wr u97 u98 u99 u100 u101 u102 u103 u104 u105 u106 u107 u108 u109 u110 u111 u112 u113 u114 u115 u116 u117 u118 u119 u120 u121 u122 f BF BO KR hWl hn hn0 hlt hnl NDE m hm FI hkn hm0 ALL HMF b cap HQ QR q2 OW HML HCU LEN x0 x1 x2 x3 x4 x5 x6 x7 x8 x9 x10 QH f2 LIT; exact cut1.out)
  ⟩
end Go.Proofs.YtaaeomapbigfgaaGreat
namespace Go.Proofs.YtaaeomapbigfgaaGreat
open Go.RowKit Go.Proofs.YtaaeomapbigfgaaGreat.St
open Go.Sort (grow)
set_option maxRecDepth 100000 in
set_option maxHeartbeats 16000000 in
theorem roffer21 : roffer20.1 := by
  intro w0 w P g hold s F vv ov x D G hmix LOW ND HWL HOL HH wa w1 zQrOffer_1 PE HX z1 zg nq osq w2 zQrOffer_2 HP zQrOffer2_1 u4 u5 u25 u26 u27 u28 u29 u30 u31 u32 u33 u34 u35 u36 u37 u38 u39 u40 u41 u42 u43 u44 n zQrOffer2_2 zQrOffer2_3 zQrOffer2_4 zQrOffer2_5 HNO DP zQrOffer_3 zQrOffer_4 zQrOffer_5 NC w5 zQrOffer2_6 zw5 HLE w6 zQrOffer2_7 zQrOffer2_8 bf zb w7 hle wr u97 u98 u99 u100 u101 u102 u103 u104 u105 u106 u107 u108 u109 u110 u111 u112 u113 u114 u115 u116 u117 u118 u119 u120 u121 u122 f BF BO KR hWl hn hn0 hlt hnl NDE m hm FI hkn hm0 ALL HMF b cap HQ QR q2 OW HML HCU LEN x0 x1 x2 x3 x4 x5 x6 x7 x8 x9 x10 QH f2 LIT
  go_upto_region 33 with fail
  have q2a := ((Kept.refl (fun _ => False) wr).alloc (.cells #[.int .i64 x.dot.site, .int .i64 x.dot.seq, .slice x.deps.a x.deps.n x.deps.c, .int .i64 x.kind, .int .i64 x.id.t, .int .i64 x.id.s, .int .i64 x.ref.t, .int .i64 x.ref.s, .string x.text, .slice x.gone.a x.gone.n x.gone.c, .int .i64 x.site] 42)).cell q2
  go_region_law (first
    | (refine step_append_row (E := entE) rfl (.tmp 131) (.tmp 133) 47 rfl wr.heap.size 42 _ 128 Tryz.underlying47 info_op rfl (by decide) rfl rfl (OC.out _) LC.out (by have := LEN.out; omega) (by have := KA.out.size; simp; omega) ?_; intro v11 w11 ho11 hg11; obtain ⟨a11, c11, rfl⟩ := owns_sl ho11; have KK : Hid (Kept (fun _ => False) wr w11) := Lib.hid ((KA.out.alloc _).over (grow1_kept hg11) (fun b hb => N10.out b hb)); have f2 := (KK.out.blk (fun h => h) QH.out).frozen 2; have q2 := (KK.out.blk (fun h => h) QH.out).cell' (i := 2) rfl; have O11 := Lib.hid ho11)
    | (refine step_append_row (E := entE) rfl (.tmp 131) (.tmp 133) 47 rfl wr.heap.size 42 _ 128 Tryz.underlying47 info_op rfl (by decide) rfl rfl OB.out LB.out (by have := LEN.out; omega) (by have := KB.out.size; simp; omega) ?_; intro v11 w11 ho11 hg11; obtain ⟨a11, c11, rfl⟩ := owns_sl ho11; have KK : Hid (Kept (fun _ => False) wr w11) := Lib.hid (KB.out.over (grow1_kept hg11) (fun b hb => by have h := N10.out b hb; simp at h; omega)); have f2 := (KK.out.blk (fun h => h) QH.out).frozen 2; have q2 := (KK.out.blk (fun h => h) QH.out).cell' (i := 2) rfl; have O11 := Lib.hid ho11)
    | (go_simp; go_wp2_with (first
      | (go_at_call 58; refine (HCU.out _ (Kept.refl (fun _ => False) wr).drew).mono ?_; rintro r w10 ⟨v10, rfl, ho10, hk10⟩; obtain ⟨va, vc, rfl⟩ := owns_sl ho10; have KA := Lib.hid ((Kept.refl (fun _ => False) wr).drew.trans hk10 (fun _ _ h => h)); have N10 := Lib.hid (owns_new ho10); have OC : Hid (∀ (l : Obj), (w10.alloc l).ownsRow wr.heap.size 42 11 (.slice va (s.W.eraseIdx m).length vc) (s.W.eraseIdx m).length (entE.flat (s.W.eraseIdx m))) := Lib.hid (fun l => owns_keep ho10 ((Kept.refl (fun _ => False) w10).alloc l) (fun _ _ h => h)); have LC := Lib.hid (LIT.out w10); have x0 := hk10.cell x0; have x1 := hk10.cell x1; have x2 := hk10.cell x2; have x3 := hk10.cell x3; have x4 := hk10.cell x4; have x5 := hk10.cell x5; have x6 := hk10.cell x6; have x7 := hk10.cell x7; have x8 := hk10.cell x8; have x9 := hk10.cell x9; have x10 := hk10.cell x10)
      | (go_at_call 58; refine (HCU.out _ (((Kept.refl (fun _ => False) wr).alloc (.cells #[.int .i64 x.dot.site, .int .i64 x.dot.seq, .slice x.deps.a x.deps.n x.deps.c, .int .i64 x.kind, .int .i64 x.id.t, .int .i64 x.id.s, .int .i64 x.ref.t, .int .i64 x.ref.s, .string x.text, .slice x.gone.a x.gone.n x.gone.c, .int .i64 x.site] 42)).drew)).mono ?_; rintro r w10 ⟨v10, rfl, ho10, hk10⟩; obtain ⟨va, vc, rfl⟩ := owns_sl ho10; have KB := Lib.hid (((Kept.refl (fun _ => False) wr).alloc (.cells #[.int .i64 x.dot.site, .int .i64 x.dot.seq, .slice x.deps.a x.deps.n x.deps.c, .int .i64 x.kind, .int .i64 x.id.t, .int .i64 x.id.s, .int .i64 x.ref.t, .int .i64 x.ref.s, .string x.text, .slice x.gone.a x.gone.n x.gone.c, .int .i64 x.site] 42)).drew.trans hk10 (fun _ _ h => h)); have N10 := Lib.hid (owns_new ho10); have OB := Lib.hid (owns_lower (base' := wr.heap.size) ho10 (by simp)); have LB := Lib.hid ((LIT.out wr).kept ((Kept.refl (fun _ => False) _).drew.trans hk10 (fun _ _ h => h)))))))
  all_goals
    have hEm : (s.W ++ [(⟨x, D, G⟩ : Ent)]).eraseIdx m = s.W.eraseIdx m ++ [⟨x, D, G⟩] := List.eraseIdx_append_of_lt_length HML.out _
    have hgi : grI (s.W ++ [⟨x, D, G⟩]) (s.W.length + 1) = m := by
      have := gr_one NDE.out (m := m) (f := f) (by rw [List.getElem?_append_left HML.out]; exact HMF.out) ALL.out
      simpa using this
    have hne : ¬ f.v.dot = x.dot := fun h => HNO.out (.inr (List.any_eq_true.2 ⟨f, List.mem_of_getElem? HMF.out, decide_eq_true h⟩))
    obtain ⟨QG, KG⟩ := QR.out.rewait (W' := s.W.eraseIdx m ++ [⟨x, D, G⟩]) (fun y hy => by
      rcases List.mem_append.1 hy with hy | hy
      · exact QR.out.ents y (List.mem_append.2 (.inl (List.mem_of_mem_eraseIdx hy)))
      · rw [List.mem_singleton.1 hy]; exact PE.out) (by rw [show (s.W.eraseIdx m ++ [(⟨x, D, G⟩ : Ent)]).length = (s.W.eraseIdx m).length + 1 by simp]; exact O11.out) KK.out (by have h1 := LEN.out; simp at h1 ⊢; omega)
    have FIN := Lib.hid (show OfferIs hold s 0 ⟨x, D, G⟩ 2 ⟨s.V, s.W.eraseIdx m ++ [⟨x, D, G⟩], s.O⟩ from .inr (.inr (.inr (.inr ⟨rfl, HNO.out, NC.out, HLE.out, f, by rw [hgi, List.getElem?_append_left HML.out]; exact HMF.out, by rw [hgi, hEm], (if_neg hne).symm⟩))))
    have QG2 := Lib.hid (QG.wider (F' := fun b => F b ∨ w.heap.size ≤ b) (fun b h => h.imp id (fun h => Nat.le_trans KR.out.size h)))
    have KG2 := Lib.hid ((KR.out.mono (S' := QF w g F) (fun _ _ h => h.elim)).trans KG (fun b hb h => h.back KR.out hb))
    clear QG KG hEm hgi hne
    go_wp2_with fail
    go_ret2
    exact ⟨2, ⟨s.V, s.W.eraseIdx m ++ [⟨x, D, G⟩], s.O⟩, vv, _, ov, rfl, FIN.out, QG2.out, KG2.out, .inl rfl⟩
theorem roffer_any {w0 w : World} {P : Ent → Prop} {g : Nat} {hold : Int} {s : QS} {F : Nat → Prop} {vv wv ov : Value} {x : OpV} {D : List Dot} {G : List Run} {c : Int} (hq : RAt P w g hold s F vv wv ov) (hlow : Low w0 P w g F) (hP : c = 0 → P ⟨x, D, G⟩) (hWl : s.W.length ≤ 10000) (hOl : s.O.length ≤ 100000) (hnd : (s.W.map (·.v.dot)).Nodup) (hh0 : hold ≤ 256)
    (hchk : ∀ w', Kept (fun _ => False) w w' → Calls Tryz.prog 53 #[.agg (opA x)] w' fun r w'' => r = .returned (.int .i64 c) ∧ Kept (fun _ => False) w' w'') :
    Calls Tryz.prog 33 #[.pointer (some ⟨g, 0, none⟩), .agg (opA x)] w fun r w' => ROffer P w w' g hold s F vv ⟨x, D, G⟩ c r :=
  roffer0.2.2 ⟨roffer1⟩ ⟨roffer20.2 ⟨roffer21⟩⟩ w0 w P g hold s F vv wv ov x D G c hq hlow hP hWl hOl hnd hh0 hchk
end Go.Proofs.YtaaeomapbigfgaaGreat
namespace Go.Proofs.YtaaeomapbigfgaaGreat
open Go.RowKit Go.Proofs.YtaaeomapbigfgaaGreat.St
open Go.Sort (grow)
theorem Blk.result2 {P : Program} {w : World} {g : Nat} {t : TypeId} {cs : Array Value} {fn : Func} {p u : Tmp} {ty : TypeId} {d : TypeDesc} (hr : fn.results = #[.cell p ty, .tmp u]) (tmps : Array Value) (h : Blk w g t cs) (hp : tmps.getD p undef = .pointer (some ⟨g, 0, none⟩))
    (hu : P.underlying ty = some d) (hd : (match d with | .struct _ | .array _ _ => true | _ => false) = true) (hi : (P.info? ty).map (·.size) = some cs.size) : (results fn tmps).run P w = .ok (.tuple #[.agg cs, tmps.getD u undef]) w := by
  rw [results_cell_tmp hr, hp]
  simp [asAddr, run_loadVar_row w g t ty cs (0, 0) d h hu hd hi, Result.andThen]
theorem OutAt.cut {w' : World} {t : TypeId} {g cap : Nat} {R : List Ent} {e : Ent} {O : List Ent} (hO : OwnAt entE w' t g cap (R ++ e :: O)) (hc : R.length < cap) (o' : Nat) (ho : (R.length + 1 < cap ∧ o' = R.length * 11 + 11) ∨ cap = R.length + 1) :
    OutAt entE w' t (.slice (some ⟨g, o', none⟩) O.length (cap - R.length - 1)) O := by
  have hle := hO.le.1
  simp at hle
  rcases ho with ⟨h1, rfl⟩ | h1
  · refine .inr ⟨g, cap, R ++ [e], ?_, by simpa using h1, by simpa using hO⟩
    have hl : (R ++ [e]).length = R.length + 1 := by simp
    rw [hl]
    rw [show cap - R.length - 1 = cap - (R.length + 1) by omega]
    show Value.slice (some ⟨g, R.length * 11 + 11, none⟩) _ _ = .slice (some ⟨g, (R.length + 1) * 11, none⟩) _ _
    rw [show R.length * 11 + 11 = (R.length + 1) * 11 by omega]
  · have hle' : R.length + (O.length + 1) ≤ cap := by simpa using hle
    have h0 : O.length = 0 := by omega
    obtain rfl : O = [] := List.eq_nil_of_length_eq_zero h0
    exact .inl ⟨some ⟨g, o', none⟩, by subst h1; simp, rfl⟩
set_option maxRecDepth 100000 in
set_option maxHeartbeats 4000000 in
theorem take_any {w : World} {g : Nat} {h0 vv wv ov : Value} {O : List Ent} (hq : Blk w g 49 #[h0, vv, wv, ov]) (hO : OutAt entE w 42 ov O) (hl : O.length ≤ 1000000) :
    Calls Tryz.prog 14 #[.pointer (some ⟨g, 0, none⟩)] w fun r w' => (O = [] ∧ r = .returned (.tuple #[.agg zeroOp, .bool false]) ∧ Kept (fun _ => False) w w') ∨
      ∃ e O' ov', O = e :: O' ∧ r = .returned (.tuple #[.agg (opA e.v), .bool true]) ∧ Blk w' g 49 #[h0, vv, wv, ov'] ∧ OutAt entE w' 42 ov' O' ∧ ov'.ownBlock = ov.ownBlock ∧ Kept (fun x => x = g) w w' := by
  have hB := Blk.new w 42 zeroOp
  have k0 : Kept (fun _ => False) w (w.alloc (.cells zeroOp 42)) := (Kept.refl _ _).alloc _
  have hgw := hq.lt
  have HQ := Lib.hid (k0.blk (fun h => h) hq)
  have HO := Lib.hid (hO.keep k0 (fun _ _ _ h => h))
  have OLT := Lib.hid (fun (hn : O ≠ []) => OutAt.lt_of hO hn)
  obtain ⟨oa, oc, rfl⟩ := hO.len
  clear hq hO
  go_enter Tryz.func14, Tryz.ntmps14
  go_upto_region 1 with fail
  have K0 := Lib.hid k0
  generalize w.alloc (.cells zeroOp 42) = w0 at *
  have B0 := Lib.hid hB
  have q3 : w0.cell? ⟨g, 3, none⟩ = some (.slice oa O.length oc) := HQ.out.cell' (i := 3) rfl
  clear k0 hB
  cases O with
  | nil =>
    have q3' : w0.cell? ⟨g, 3, none⟩ = some (.slice oa 0 oc) := q3
    clear q3
    go_wp2_with (first
      | (refine wpList_store_row rfl 42 _ _ rfl w.heap.size zeroOp rfl rfl 42 zeroOp B0.out size_op rfl (by simp [zeroOp, Value.oneCell']) ?_))
    exact bodyPost_ret (Blk.result2 rfl _ (B0.out.row _) rfl Tryz.underlying42 rfl size_op) rfl ⟨rfl, K0.out.setRow (fun h => by omega) _⟩
  | cons e O =>
    rcases HO.out with ⟨_, _, h⟩ | ⟨b, cap, R, hv, hRc, hOw⟩
    · cases h
    injection hv with e1 e0 e2
    subst e1 e2
    clear e0
    have hob := hOw.lt
    have BLT := Lib.hid (OLT.out (by simp) b rfl)
    have hle := hOw.le
    have hll : (R ++ e :: O).length = R.length + O.length + 1 := by simp; omega
    rw [hll] at hle
    have hx : (R ++ e :: O)[R.length]? = some e := by simp
    have c0 : w0.cell? ⟨b, R.length * 11, none⟩ = some (.int .i64 e.v.dot.site) := OwnAt.ent hOw hx (j := 0) rfl
    have c1 : w0.cell? ⟨b, R.length * 11 + 1, none⟩ = some (.int .i64 e.v.dot.seq) := OwnAt.ent hOw hx (j := 1) rfl
    have c2 : w0.cell? ⟨b, R.length * 11 + 2, none⟩ = some (.slice e.v.deps.a e.v.deps.n e.v.deps.c) := OwnAt.ent hOw hx (j := 2) rfl
    have c3 : w0.cell? ⟨b, R.length * 11 + 3, none⟩ = some (.int .i64 e.v.kind) := OwnAt.ent hOw hx (j := 3) rfl
    have c4 : w0.cell? ⟨b, R.length * 11 + 4, none⟩ = some (.int .i64 e.v.id.t) := OwnAt.ent hOw hx (j := 4) rfl
    have c5 : w0.cell? ⟨b, R.length * 11 + 5, none⟩ = some (.int .i64 e.v.id.s) := OwnAt.ent hOw hx (j := 5) rfl
    have c6 : w0.cell? ⟨b, R.length * 11 + 6, none⟩ = some (.int .i64 e.v.ref.t) := OwnAt.ent hOw hx (j := 6) rfl
    have c7 : w0.cell? ⟨b, R.length * 11 + 7, none⟩ = some (.int .i64 e.v.ref.s) := OwnAt.ent hOw hx (j := 7) rfl
    have c8 : w0.cell? ⟨b, R.length * 11 + 8, none⟩ = some (.string e.v.text) := OwnAt.ent hOw hx (j := 8) rfl
    have c9 : w0.cell? ⟨b, R.length * 11 + 9, none⟩ = some (.slice e.v.gone.a e.v.gone.n e.v.gone.c) := OwnAt.ent hOw hx (j := 9) rfl
    have c10 : w0.cell? ⟨b, R.length * 11 + 10, none⟩ = some (.int .i64 e.v.site) := OwnAt.ent hOw hx (j := 10) rfl
    have HR := Lib.hid hRc
    have HOW := Lib.hid hOw
    have HL := Lib.hid hle
    have hol : (e :: O).length = O.length + 1 := rfl
    rw [hol] at q3
    have B1 := Lib.hid (Blk.new w0 42 (opA e.v))
    have k1 : Kept (fun _ => False) w0 (w0.alloc (.cells (opA e.v) 42)) := (Kept.refl _ _).alloc _
    obtain ⟨m, hm⟩ : ∃ m, cap - R.length = m + 1 := ⟨cap - R.length - 1, by omega⟩
    have HM := Lib.hid hm
    obtain ⟨o, ho⟩ : ∃ o, R.length * 11 = o := ⟨_, rfl⟩
    have HOO := Lib.hid ho
    have ho2 : R.length * entE.k = o := ho
    rw [hm, ho2] at q3
    rw [ho] at c0 c1 c2 c3 c4 c5 c6 c7 c8 c9 c10
    have hml : (O.length : Int) + 1 ≤ m + 1 := by omega
    have hm63 : (m : Int) + 1 ≤ 9223372036854775807 := by have := hle.2; unfold maxLen at this; omega
    have hoL : (0 : Int) ≤ O.length := by omega
    clear hx hOw hRc hll hm ho ho2 hle hol hob
    have hne : ((O.length : Int) + 1 == 0) = false := beq_eq_false_iff_ne.2 (by omega)
    clear hl
    go_upto_region 4 with fail
    have e1 : w0.alloc (.cells #[.int .i64 e.v.dot.site, .int .i64 e.v.dot.seq, .slice e.v.deps.a e.v.deps.n e.v.deps.c, .int .i64 e.v.kind, .int .i64 e.v.id.t, .int .i64 e.v.id.s, .int .i64 e.v.ref.t, .int .i64 e.v.ref.s, .string e.v.text, .slice e.v.gone.a e.v.gone.n e.v.gone.c, .int .i64 e.v.site] 42) = w0.alloc (.cells (opA e.v) 42) := rfl
    rw [e1]
    have hs0 := K0.out.size
    have HQ1 := Lib.hid (k1.blk (fun h => h) HQ.out)
    have B01 := Lib.hid (k1.blk (fun h => h) B0.out)
    have HOW1 := Lib.hid (HOW.out.keep k1 (fun h => h))
    have K1 := Lib.hid (K0.out.trans k1 (fun _ _ h => h))
    have hz0 : w.heap.size < w0.heap.size := B0.out.lt
    have hgb : g ≠ b := by
      obtain ⟨cs, h1, _⟩ := HOW.out
      exact HQ.out.ne_ h1 (of_decide_eq_true (by kernel_rfl))
    clear c0 c1 c2 c3 c4 c5 c6 c7 c8 c9 c10 q3 e1 HQ K0 HO
    generalize w0.alloc (.cells (opA e.v) 42) = w1 at *
    have q3 : w1.cell? ⟨g, 3, none⟩ = some (.slice (some ⟨b, o, none⟩) (O.length + 1) (m + 1)) := by
      have h := HQ1.out.cell' (i := 3) rfl
      rw [HM.out, show R.length * entE.k = o from HOO.out] at h
      exact h
    have f3 := HQ1.out.frozen 3
    have fin : ∀ o' : Nat, (R.length + 1 < cap ∧ o' = R.length * 11 + 11) ∨ cap = R.length + 1 → ∀ w2, w2 = w1.setCell ⟨g, 3, none⟩ (.slice (some ⟨b, o', none⟩) O.length m) → (Hid (Blk w2 w.heap.size 42 zeroOp) ∧ Hid (Blk w2 w0.heap.size 42 (opA e.v))) ∧
        Hid (Blk (w2.setRow w.heap.size (opA e.v)) g 49 #[h0, vv, wv, .slice (some ⟨b, o', none⟩) O.length m] ∧ OutAt entE (w2.setRow w.heap.size (opA e.v)) 42 (.slice (some ⟨b, o', none⟩) O.length m) O ∧ Kept (fun x => x = g) w (w2.setRow w.heap.size (opA e.v))) := by
      rintro o' ho' w2 rfl
      have k2 : Kept (fun x => x = g) w1 (w1.setCell ⟨g, 3, none⟩ (.slice (some ⟨b, o', none⟩) O.length m)) := (Kept.refl (fun x => x = g) w1).setCell (p := ⟨g, 3, none⟩) (fun _ => rfl) _
      have hQ2 := HQ1.out.set_ 3 (.slice (some ⟨b, o', none⟩) O.length m)
      have hO2 := HOW1.out.keep k2 (fun h => hgb h.symm)
      have hB2 := k2.blk (fun h => by have h : w.heap.size = g := h; omega) B01.out
      have hB3 := k2.blk (fun h => by have h : w0.heap.size = g := h; omega) B1.out
      have k3 : Kept (fun x => x = w.heap.size) (w1.setCell ⟨g, 3, none⟩ (.slice (some ⟨b, o', none⟩) O.length m)) ((w1.setCell ⟨g, 3, none⟩ (.slice (some ⟨b, o', none⟩) O.length m)).setRow w.heap.size (opA e.v)) := (Kept.refl (fun x => x = w.heap.size) _).setRow (g := w.heap.size) (fun _ => rfl) (opA e.v)
      have hbw : b ≠ w.heap.size := fun h => by
        obtain ⟨cs, h1, _⟩ := HOW.out
        have : b < w.heap.size := BLT.out
        omega
      refine ⟨⟨Lib.hid hB2, Lib.hid hB3⟩, Lib.hid ⟨hQ2.row_far (by omega) _, ?_, ((K1.out.mono (S' := fun x => x = g) (fun _ _ h => h.elim)).trans k2 (fun _ _ h => h)).trans k3 (fun x hx h => by have h : x = w.heap.size := h; omega)⟩⟩
      have := OutAt.cut (hO2.keep k3 (fun h => hbw h)) HR.out o' ho'
      rw [HM.out] at this
      exact this
    by_cases hm0 : m = 0
    · subst hm0
      obtain ⟨⟨hB2, hB3⟩, FIN⟩ := fin o (.inr (by have := HM.out; have := HR.out; omega)) _ rfl
      clear fin
      go_upto_region 5 with fail
      clear q3 f3
      go_wp2_with (first
        | (refine wpList_load_row rfl 42 _ rfl w0.heap.size rfl 42 _ (0, 0) _ hB3.out Tryz.underlying42 rfl (by rw [opA_size]; exact size_op) ?_)
        | (refine wpList_store_row rfl 42 _ _ rfl w.heap.size (opA e.v) rfl rfl 42 zeroOp hB2.out (by rw [opA_size]; exact size_op) (by rw [opA_size]; rfl) (opA_one _) ?_))
      exact bodyPost_ret (Blk.result2 rfl _ (hB2.out.row _) rfl Tryz.underlying42 rfl (by rw [opA_size]; exact size_op)) rfl (.inr ⟨e, O, _, rfl, rfl, FIN.out.1, FIN.out.2.1, rfl, FIN.out.2.2⟩)
    · obtain ⟨⟨hB2, hB3⟩, FIN⟩ := fin (o + 11) (.inl ⟨by have := HM.out; omega, by rw [HOO.out]⟩) _ rfl
      clear fin
      have hmn : (m : Int) ≠ 0 := by omega
      go_upto_region 5 with fail
      clear q3 f3
      go_wp2_with (first
        | (refine wpList_load_row rfl 42 _ rfl w0.heap.size rfl 42 _ (0, 0) _ hB3.out Tryz.underlying42 rfl (by rw [opA_size]; exact size_op) ?_)
        | (refine wpList_store_row rfl 42 _ _ rfl w.heap.size (opA e.v) rfl rfl 42 zeroOp hB2.out (by rw [opA_size]; exact size_op) (by rw [opA_size]; rfl) (opA_one _) ?_))
      exact bodyPost_ret (Blk.result2 rfl _ (hB2.out.row _) rfl Tryz.underlying42 rfl (by rw [opA_size]; exact size_op)) rfl (.inr ⟨e, O, _, rfl, rfl, FIN.out.1, FIN.out.2.1, rfl, FIN.out.2.2⟩)
end Go.Proofs.YtaaeomapbigfgaaGreat
