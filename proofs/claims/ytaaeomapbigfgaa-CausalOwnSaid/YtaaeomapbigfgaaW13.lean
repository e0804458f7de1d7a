/- (*causal.Queue).deliver. causal.greatest, by far. -/
import Derived.Test.YtaaeomapbigfgaaW11
import Derived.Test.YtaaeomapbigfgaaW12
import Derived.Test.YtaaeomapbigfgaaW9
namespace Go.Proofs.Ytaaeomapbigfgaa
open Go.RowKit Go.Proofs.Ytaaeomapbigfgaa.St
theorem lit_op (w : World) (e : Ent) : SlAt entE (w.alloc (.cells #[.int .i64 e.v.dot.site, .int .i64 e.v.dot.seq, .slice e.v.deps.a e.v.deps.n e.v.deps.c, .int .i64 e.v.kind, .int .i64 e.v.id.t, .int .i64 e.v.id.s, .int .i64 e.v.ref.t, .int .i64 e.v.ref.s, .string e.v.text, .slice e.v.gone.a e.v.gone.n e.v.gone.c, .int .i64 e.v.site] 34)) (.slice (some ⟨w.heap.size, 0, none⟩) 1 1) [e] := SlAt.lit (E := entE) [e] _ rfl (by show 1 ≤ maxLen; decide)
set_option maxRecDepth 100000 in
set_option maxHeartbeats 8000000 in
theorem deliver_any {w : World} {g : Nat} {h0 v wv ov : Value} {V : List Dot} {O : List Ent} {e : Ent} (hq : Blk w g 67 #[h0, v, wv, ov]) (hv : SlAt dotE w v V) (hVl : V.length ≤ 1000000000) (hO : OutAt entE w 34 ov O) (hOl : O.length ≤ 1000000) (hadd : whyAdd V e.v.dot = 0) :
    Calls Try.prog 33 #[.pointer (some ⟨g, 0, none⟩), .agg (opA e.v)] w fun r w' => r = .returned (.tuple #[]) ∧ ∃ v' ov', Blk w' g 67 #[h0, v', wv, ov'] ∧
      w'.ownsRow w.heap.size 27 2 v' (addV V e.v.dot).length (dotE.flat (addV V e.v.dot)) ∧ OutAt entE w' 34 ov' (O ++ [e]) ∧ (ov'.ownBlock = ov.ownBlock ∨ ∃ b, ov'.ownBlock = some b ∧ w.heap.size ≤ b) ∧ Kept (fun x => x = g ∨ ov.ownBlock = some x ∧ ∃ cs, Blk w x 34 cs) w w' := by
  have B0 := Blk.new w 34 (opA e.v)
  have k0 : Kept (fun _ => False) w (w.alloc (.cells (opA e.v) 34)) := (Kept.refl _ _).alloc _
  have hgw := hq.lt
  have HQ := Lib.hid (k0.blk (fun h => h) hq)
  have HV := Lib.hid (hv.kept k0)
  have HO := Lib.hid (hO.keep k0 (fun _ _ _ h => h))
  have s0 : (w.alloc (.cells (opA e.v) 34)).heap.size = w.heap.size + 1 := by simp
  clear hq hv hO
  go_enter Try.func33, Try.ntmps33
  go_upto_region 1 with fail
  have K0 := Lib.hid k0
  generalize w.alloc (.cells (opA e.v) 34) = w0 at *
  have C0 := Lib.hid B0
  have x0 : w0.cell? ⟨w.heap.size, 0, none⟩ = some (.int .i64 e.v.dot.site) := B0.cell' (i := 0) rfl
  have x1 : w0.cell? ⟨w.heap.size, 1, none⟩ = some (.int .i64 e.v.dot.seq) := B0.cell' (i := 1) rfl
  have q1 : w0.cell? ⟨g, 1, none⟩ = some v := HQ.out.cell' (i := 1) rfl
  have f1 := HQ.out.frozen 1
  have HADD := Lib.hid (add_any (HV.out.kept ((Kept.refl (fun _ => False) w0).drew)) hVl e.v.dot)
  have AD := Lib.hid hadd
  clear k0 B0 hadd
  go_wp2_with fail
  go_region_with (go_at_call 48; refine HADD.out.mono ?_; rintro r w1 ⟨v1, rfl, ha1, hk1⟩; have O1 := Lib.hid (ha1.2 AD.out); obtain ⟨va, vc, rfl⟩ := owns_sl O1.out; have q1 := hk1.cell q1; have f1 := (hk1.blk (fun h => h) HQ.out).frozen 1)
  all_goals
    have V1 : Hid (∀ b, (Value.slice va (addV V e.v.dot).length vc).ownBlock = some b → w0.drew.heap.size ≤ b) := Lib.hid (owns_new O1.out)
    have s01 : w0.drew.heap.size = w.heap.size + 1 := s0
    have k1 : Kept (fun _ => False) w0 w1 := (Kept.refl (fun _ => False) w0).drew.trans hk1 (fun _ _ h => h)
    have HQ2 := Lib.hid ((k1.blk (fun h => h) HQ.out).set_ 1 (.slice va (addV V e.v.dot).length vc))
    have k2 : Kept (fun x => x = g) w1 (w1.setCell ⟨g, 1, none⟩ (.slice va (addV V e.v.dot).length vc)) := (Kept.refl (fun x => x = g) w1).setCell (p := ⟨g, 1, none⟩) (fun _ => rfl) _
    have O2 := Lib.hid (owns_keep O1.out k2 (fun b hb e => by have := V1.out b hb; omega))
    have C2 := Lib.hid (k2.blk (fun e => by have e : w.heap.size = g := e; omega) (k1.blk (fun h => h) C0.out))
    have U2 := Lib.hid ((HO.out.keep k1 (fun _ _ _ h => h)).keep k2 (fun b hb ⟨cs, hc⟩ e => (k1.blk (fun h => h) HQ.out).ne_ hc (of_decide_eq_true (by kernel_rfl)) e.symm))
    have K2 := Lib.hid ((K0.out.trans k1 (fun _ _ h => h)).mono (S' := fun x => x = g) (fun _ _ h => h.elim) |>.trans k2 (fun _ _ h => h))
    have z1 := (K0.out.trans k1 (fun _ _ h => h)).size
    have z01 := k1.size
    clear q1 f1 x0 x1 k1 k2 hk1 ha1
    generalize w1.setCell ⟨g, 1, none⟩ (.slice va (addV V e.v.dot).length vc) = w2 at *
    have zw2 := C2.out.lt
    have x0 : w2.cell? ⟨w.heap.size, 0, none⟩ = some (.int .i64 e.v.dot.site) := C2.out.cell' (i := 0) rfl
    have x1 : w2.cell? ⟨w.heap.size, 1, none⟩ = some (.int .i64 e.v.dot.seq) := C2.out.cell' (i := 1) rfl
    have x2 : w2.cell? ⟨w.heap.size, 2, none⟩ = some (.slice e.v.deps.a e.v.deps.n e.v.deps.c) := C2.out.cell' (i := 2) rfl
    have x3 : w2.cell? ⟨w.heap.size, 3, none⟩ = some (.int .i64 e.v.kind) := C2.out.cell' (i := 3) rfl
    have x4 : w2.cell? ⟨w.heap.size, 4, none⟩ = some (.int .i64 e.v.id.t) := C2.out.cell' (i := 4) rfl
    have x5 : w2.cell? ⟨w.heap.size, 5, none⟩ = some (.int .i64 e.v.id.s) := C2.out.cell' (i := 5) rfl
    have x6 : w2.cell? ⟨w.heap.size, 6, none⟩ = some (.int .i64 e.v.ref.t) := C2.out.cell' (i := 6) rfl
    have x7 : w2.cell? ⟨w.heap.size, 7, none⟩ = some (.int .i64 e.v.ref.s) := C2.out.cell' (i := 7) rfl
    have x8 : w2.cell? ⟨w.heap.size, 8, none⟩ = some (.string e.v.text) := C2.out.cell' (i := 8) rfl
    have x9 : w2.cell? ⟨w.heap.size, 9, none⟩ = some (.slice e.v.gone.a e.v.gone.n e.v.gone.c) := C2.out.cell' (i := 9) rfl
    have x10 : w2.cell? ⟨w.heap.size, 10, none⟩ = some (.int .i64 e.v.site) := C2.out.cell' (i := 10) rfl
    have q3 : w2.cell? ⟨g, 3, none⟩ = some ov := HQ2.out.cell' (i := 3) rfl
    have f3 := HQ2.out.frozen 3
    have q3a := ((Kept.refl (fun _ => False) w2).alloc (.cells #[.int .i64 e.v.dot.site, .int .i64 e.v.dot.seq, .slice e.v.deps.a e.v.deps.n e.v.deps.c, .int .i64 e.v.kind, .int .i64 e.v.id.t, .int .i64 e.v.id.s, .int .i64 e.v.ref.t, .int .i64 e.v.ref.s, .string e.v.text, .slice e.v.gone.a e.v.gone.n e.v.gone.c, .int .i64 e.v.site] 34)).cell q3
    have LD := Lib.hid (lit_op w2 e)
    go_wp2_with fail
    go_region_law (refine step_append_out (E := entE) rfl (.tmp 21) (.tmp 23) 24 34 rfl Try.underlying24 info_op rfl (by decide) rfl rfl (U2.out.keep ((Kept.refl (fun _ => False) w2).alloc _).drew (fun _ _ _ h => h)) (LD.out.kept (Kept.refl (fun _ => False) _).drew) hOl ?_; intro v3 w3 ho3 hg3; obtain ⟨a3, c3, rfl⟩ := ho3.len; have HQ3 := Lib.hid (hg3.1.blk (fun ⟨e1, cs, e2⟩ => (((Kept.refl (fun _ => False) w2).alloc _).drew.blk (fun h => h) HQ2.out).ne_ e2 (of_decide_eq_true (by kernel_rfl)) rfl) (((Kept.refl (fun _ => False) w2).alloc _).drew.blk (fun h => h) HQ2.out)); have q3 := HQ3.out.cell' (i := 3) rfl; have f3 := HQ3.out.frozen 3)
    all_goals
      rw [show (O ++ [e]).length = O.length + 1 by simp] at ho3 hg3
      have kA : Kept (fun x => x = g) w w2 := K2.out
      have kB := kA.trans (((Kept.refl (fun _ => False) w2).alloc (.cells #[.int .i64 e.v.dot.site, .int .i64 e.v.dot.seq, .slice e.v.deps.a e.v.deps.n e.v.deps.c, .int .i64 e.v.kind, .int .i64 e.v.id.t, .int .i64 e.v.id.s, .int .i64 e.v.ref.t, .int .i64 e.v.ref.s, .string e.v.text, .slice e.v.gone.a e.v.gone.n e.v.gone.c, .int .i64 e.v.site] 34)).drew) (fun _ _ h => h.elim)
      have O3 := owns_keep (owns_keep O2.out (((Kept.refl (fun _ => False) w2).alloc (.cells #[.int .i64 e.v.dot.site, .int .i64 e.v.dot.seq, .slice e.v.deps.a e.v.deps.n e.v.deps.c, .int .i64 e.v.kind, .int .i64 e.v.id.t, .int .i64 e.v.id.s, .int .i64 e.v.ref.t, .int .i64 e.v.ref.s, .string e.v.text, .slice e.v.gone.a e.v.gone.n e.v.gone.c, .int .i64 e.v.site] 34)).drew) (fun _ _ h => h)) hg3.1 (fun b hb ⟨_, cs, hc⟩ => own_blk_ne (owns_keep O2.out (((Kept.refl (fun _ => False) w2).alloc (.cells #[.int .i64 e.v.dot.site, .int .i64 e.v.dot.seq, .slice e.v.deps.a e.v.deps.n e.v.deps.c, .int .i64 e.v.kind, .int .i64 e.v.id.t, .int .i64 e.v.id.s, .int .i64 e.v.ref.t, .int .i64 e.v.ref.s, .string e.v.text, .slice e.v.gone.a e.v.gone.n e.v.gone.c, .int .i64 e.v.site] 34)).drew) (fun _ _ h => h)) hc (of_decide_eq_true (by kernel_rfl)) hb)
      have kC := (kB.mono (S' := fun x => x = g ∨ ov.ownBlock = some x ∧ ∃ cs, Blk w x 34 cs) (fun _ _ h => .inl h)).trans hg3.1 (fun x hx ⟨e1, cs, e2⟩ => by
        by_cases hxg : x = g
        · exact .inl hxg
        · exact .inr ⟨e1, cs, (kB.block x hx hxg).symm.trans e2⟩)
      have kD : Kept (fun x => x = g) w3 (w3.setCell ⟨g, 3, none⟩ (.slice a3 (O.length + 1) c3)) := (Kept.refl (fun x => x = g) w3).setCell (p := ⟨g, 3, none⟩) (fun _ => rfl) _
      have O4 := Lib.hid (owns_keep O3 kD (fun b hb e => own_blk_ne O3 HQ3.out (of_decide_eq_true (by kernel_rfl)) (e ▸ hb)))
      have U4 := Lib.hid (ho3.keep kD (fun b hb ⟨cs, hc⟩ e => HQ3.out.ne_ hc (of_decide_eq_true (by kernel_rfl)) e.symm))
      have Q4 := Lib.hid (HQ3.out.set_ 3 (.slice a3 (O.length + 1) c3))
      have K4 := Lib.hid (kC.trans kD (fun _ _ h => .inl h))
      have G4 := Lib.hid hg3.2
      have zB := kB.size
      go_end0
      refine ⟨rfl, _, _, Q4.out, owns_lower O4.out (by omega), U4.out, G4.out.imp id (fun h => ⟨_, h, zB⟩), K4.out⟩
end Go.Proofs.Ytaaeomapbigfgaa
namespace Go.Proofs.Ytaaeomapbigfgaa
open Go.RowKit Go.Proofs.Ytaaeomapbigfgaa.St
open Go.Sort (grow)
set_option maxRecDepth 100000 in
set_option maxHeartbeats 8000000 in
theorem greatest_any {w : World} {v : Value} {W : List Ent} (h : SlAt entE w v W) (hW : ∀ e ∈ W, e.At w) (hD : ∀ e ∈ W, e.D.length ≤ 1000000000) (hWl : W.length ≤ 1000000000) :
    Calls Try.prog 30 #[v, .func (.func 31) #[] #[]] w fun e w' => e = .returned (.int .i64 (grI W W.length)) ∧ Grew w w' := by
  have hmix : Try.prog.follows .mixedOrders = true := by kernel_rfl
  obtain ⟨a, c, rfl, _, _⟩ := h.sl
  have HS := Lib.hid h
  have HW := Lib.hid hW
  have HD := Lib.hid hD
  clear h hW hD
  go_enter Try.func30, Try.ntmps30
  go_wp2_with fail
  go_loopw [5, 9] (fun kv iv wr => ∃ n : Nat, iv = .int .i64 n ∧ n ≤ W.length ∧ kv = .int .i64 (grI W n) ∧ Grew w wr) (fun _ iv _ => W.length - (intOf iv).toNat)
  case atStart => exact ⟨0, rfl, Nat.zero_le _, rfl, Grew.refl _⟩
  case round =>
    obtain ⟨n, rfl, hn, rfl, hg⟩ := hrel
    have hn0 : (0 : Int) ≤ n := by omega
    by_cases hlt : n < W.length
    case neg =>
      have hnl : ¬ (n : Int) < W.length := by omega
      obtain rfl : n = W.length := by omega
      go_wp2_with fail
      go_ret
      exact ⟨rfl, hg⟩
    case pos =>
      have hltI : (n : Int) < W.length := by omega
      have hkl := grI_lt W n hn (by omega)
      obtain ⟨e, he⟩ := get_of_lt hlt
      obtain ⟨f, hf⟩ := get_of_lt hkl
      have hsucc := Lib.hid (grI_succ he hf)
      have hkI : ((grI W n : Nat) : Int) < W.length := by omega
      have hk0 : (0 : Int) ≤ (grI W n : Nat) := by omega
      generalize grI W n = k at *
      obtain ⟨g, o, c', hv, _, _, hglt, hc⟩ := SlAt.ent (HS.out.kept hg.kept) (by omega)
      cases hv
      have HC := Lib.hid hc
      have HE := Lib.hid he
      have HF := Lib.hid hf
      clear hc
      have EM := List.mem_of_getElem? he
      have FM := List.mem_of_getElem? hf
      have HFAR := Lib.hid (fun (w' : World) (hk : Grew wr w') => far_any ((HW.out e EM).deps.kept (hg.trans hk).kept) ((HW.out f FM).deps.kept (hg.trans hk).kept) (HD.out e EM) (HD.out f FM))
      have ce0 := cell_grown (w := wr) (by show g < _; omega) (show wr.cell? ⟨g, o + n * 11, none⟩ = some (.int .i64 e.v.dot.site) from HC.out n _ HE.out 0 _ rfl)
      have ce1 := cell_grown (w := wr) (by show g < _; omega) (show wr.cell? ⟨g, o + n * 11 + 1, none⟩ = some (.int .i64 e.v.dot.seq) from HC.out n _ HE.out 1 _ rfl)
      have ce2 := cell_grown (w := wr) (by show g < _; omega) (show wr.cell? ⟨g, o + n * 11 + 2, none⟩ = some (e.v.deps.v) from HC.out n _ HE.out 2 _ rfl)
      have ce3 := cell_grown (w := wr) (by show g < _; omega) (show wr.cell? ⟨g, o + n * 11 + 3, none⟩ = some (.int .i64 e.v.kind) from HC.out n _ HE.out 3 _ rfl)
      have ce4 := cell_grown (w := wr) (by show g < _; omega) (show wr.cell? ⟨g, o + n * 11 + 4, none⟩ = some (.int .i64 e.v.id.t) from HC.out n _ HE.out 4 _ rfl)
      have ce5 := cell_grown (w := wr) (by show g < _; omega) (show wr.cell? ⟨g, o + n * 11 + 5, none⟩ = some (.int .i64 e.v.id.s) from HC.out n _ HE.out 5 _ rfl)
      have ce6 := cell_grown (w := wr) (by show g < _; omega) (show wr.cell? ⟨g, o + n * 11 + 6, none⟩ = some (.int .i64 e.v.ref.t) from HC.out n _ HE.out 6 _ rfl)
      have ce7 := cell_grown (w := wr) (by show g < _; omega) (show wr.cell? ⟨g, o + n * 11 + 7, none⟩ = some (.int .i64 e.v.ref.s) from HC.out n _ HE.out 7 _ rfl)
      have ce8 := cell_grown (w := wr) (by show g < _; omega) (show wr.cell? ⟨g, o + n * 11 + 8, none⟩ = some (.string e.v.text) from HC.out n _ HE.out 8 _ rfl)
      have ce9 := cell_grown (w := wr) (by show g < _; omega) (show wr.cell? ⟨g, o + n * 11 + 9, none⟩ = some (e.v.gone.v) from HC.out n _ HE.out 9 _ rfl)
      have ce10 := cell_grown (w := wr) (by show g < _; omega) (show wr.cell? ⟨g, o + n * 11 + 10, none⟩ = some (.int .i64 e.v.site) from HC.out n _ HE.out 10 _ rfl)
      have cf0 := cell_grown (w := wr) (by show g < _; omega) (show wr.cell? ⟨g, o + k * 11, none⟩ = some (.int .i64 f.v.dot.site) from HC.out k _ HF.out 0 _ rfl)
      have cf1 := cell_grown (w := wr) (by show g < _; omega) (show wr.cell? ⟨g, o + k * 11 + 1, none⟩ = some (.int .i64 f.v.dot.seq) from HC.out k _ HF.out 1 _ rfl)
      have cf2 := cell_grown (w := wr) (by show g < _; omega) (show wr.cell? ⟨g, o + k * 11 + 2, none⟩ = some (f.v.deps.v) from HC.out k _ HF.out 2 _ rfl)
      have cf3 := cell_grown (w := wr) (by show g < _; omega) (show wr.cell? ⟨g, o + k * 11 + 3, none⟩ = some (.int .i64 f.v.kind) from HC.out k _ HF.out 3 _ rfl)
      have cf4 := cell_grown (w := wr) (by show g < _; omega) (show wr.cell? ⟨g, o + k * 11 + 4, none⟩ = some (.int .i64 f.v.id.t) from HC.out k _ HF.out 4 _ rfl)
      have cf5 := cell_grown (w := wr) (by show g < _; omega) (show wr.cell? ⟨g, o + k * 11 + 5, none⟩ = some (.int .i64 f.v.id.s) from HC.out k _ HF.out 5 _ rfl)
      have cf6 := cell_grown (w := wr) (by show g < _; omega) (show wr.cell? ⟨g, o + k * 11 + 6, none⟩ = some (.int .i64 f.v.ref.t) from HC.out k _ HF.out 6 _ rfl)
      have cf7 := cell_grown (w := wr) (by show g < _; omega) (show wr.cell? ⟨g, o + k * 11 + 7, none⟩ = some (.int .i64 f.v.ref.s) from HC.out k _ HF.out 7 _ rfl)
      have cf8 := cell_grown (w := wr) (by show g < _; omega) (show wr.cell? ⟨g, o + k * 11 + 8, none⟩ = some (.string f.v.text) from HC.out k _ HF.out 8 _ rfl)
      have cf9 := cell_grown (w := wr) (by show g < _; omega) (show wr.cell? ⟨g, o + k * 11 + 9, none⟩ = some (f.v.gone.v) from HC.out k _ HF.out 9 _ rfl)
      have cf10 := cell_grown (w := wr) (by show g < _; omega) (show wr.cell? ⟨g, o + k * 11 + 10, none⟩ = some (.int .i64 f.v.site) from HC.out k _ HF.out 10 _ rfl)
      have HG := Lib.hid hg
      clear he hf hg EM FM hkl
      generalize farV e.v.dot f.v.dot e.D f.D = fv at *
      by_cases hpos : 0 < fv
      · go_wp2_with fail
        go_quiet_grown (first
          | (go_at_call 31; exact grown_call HFAR.out _ _))
        go_wp2_with fail
        go_roundw
        case rel => exact ⟨n + 1, by go_num, by omega, by rw [hsucc.out, if_pos hpos], HG.out.trans (Grew.grown _ _)⟩
        case measure => simp [intOf] <;> omega
      · go_wp2_with fail
        go_quiet_grown (first
          | (go_at_call 31; exact grown_call HFAR.out _ _))
        go_wp2_with fail
        go_roundw
        case rel => exact ⟨n + 1, by go_num, by omega, by rw [hsucc.out, if_neg (by omega)], HG.out.trans (Grew.grown _ _)⟩
        case measure => simp [intOf] <;> omega
end Go.Proofs.Ytaaeomapbigfgaa
