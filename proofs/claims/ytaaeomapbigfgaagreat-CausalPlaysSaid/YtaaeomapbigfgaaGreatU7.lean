/- (*causal.Queue).deliver. causal.greatest, by far. A Queue in memory. -/
import Derived.Test.YtaaeomapbigfgaaGreatU6
import Derived.Test.YtaaeomapbigfgaaGreatU5
namespace Go.Proofs.YtaaeomapbigfgaaGreat
open Go.RowKit Go.Proofs.YtaaeomapbigfgaaGreat.St
theorem lit_op (w : World) (e : Ent) : SlAt entE (w.alloc (.cells #[.int .i64 e.v.dot.site, .int .i64 e.v.dot.seq, .slice e.v.deps.a e.v.deps.n e.v.deps.c, .int .i64 e.v.kind, .int .i64 e.v.id.t, .int .i64 e.v.id.s, .int .i64 e.v.ref.t, .int .i64 e.v.ref.s, .string e.v.text, .slice e.v.gone.a e.v.gone.n e.v.gone.c, .int .i64 e.v.site] 42)) (.slice (some ⟨w.heap.size, 0, none⟩) 1 1) [e] := SlAt.lit (E := entE) [e] _ rfl (by show 1 ≤ maxLen; decide)
set_option maxRecDepth 100000 in
set_option maxHeartbeats 8000000 in
theorem deliver_any {w : World} {g : Nat} {h0 v wv ov : Value} {V : List Dot} {O : List Ent} {e : Ent} (hq : Blk w g 49 #[h0, v, wv, ov]) (hv : SlAt dotE w v V) (hVl : V.length ≤ 1000000000) (hO : OutAt entE w 42 ov O) (hOl : O.length ≤ 1000000) (hadd : whyAdd V e.v.dot = 0) :
    Calls Tryz.prog 46 #[.pointer (some ⟨g, 0, none⟩), .agg (opA e.v)] w fun r w' => r = .returned (.tuple #[]) ∧ ∃ v' ov', Blk w' g 49 #[h0, v', wv, ov'] ∧
      w'.ownsRow w.heap.size 28 2 v' (addV V e.v.dot).length (dotE.flat (addV V e.v.dot)) ∧ OutAt entE w' 42 ov' (O ++ [e]) ∧ (ov'.ownBlock = ov.ownBlock ∨ ∃ b, ov'.ownBlock = some b ∧ w.heap.size ≤ b) ∧ Kept (fun x => x = g ∨ ov.ownBlock = some x ∧ ∃ cs, Blk w x 42 cs) w w' := by
  have B0 := Blk.new w 42 (opA e.v)
  have k0 : Kept (fun _ => False) w (w.alloc (.cells (opA e.v) 42)) := (Kept.refl _ _).alloc _
  have hgw := hq.lt
  have HQ := Lib.hid (k0.blk (fun h => h) hq)
  have HV := Lib.hid (hv.kept k0)
  have HO := Lib.hid (hO.keep k0 (fun _ _ _ h => h))
  have s0 : (w.alloc (.cells (opA e.v) 42)).heap.size = w.heap.size + 1 := by simp
  clear hq hv hO
  go_enter Tryz.func46, Tryz.ntmps46
  go_upto_region 1 with fail
  have K0 := Lib.hid k0
  generalize w.alloc (.cells (opA e.v) 42) = w0 at *
  have C0 := Lib.hid B0
  have x0 : w0.cell? ⟨w.heap.size, 0, none⟩ = some (.int .i64 e.v.dot.site) := B0.cell' (i := 0) rfl
  have x1 : w0.cell? ⟨w.heap.size, 1, none⟩ = some (.int .i64 e.v.dot.seq) := B0.cell' (i := 1) rfl
  have q1 : w0.cell? ⟨g, 1, none⟩ = some v := HQ.out.cell' (i := 1) rfl
  have f1 := HQ.out.frozen 1
  have HADD := Lib.hid (add_any (HV.out.kept ((Kept.refl (fun _ => False) w0).drew)) hVl e.v.dot)
  have AD := Lib.hid hadd
  clear k0 B0 hadd
  go_wp2_with fail
  go_region_with (go_at_call 69; refine HADD.out.mono ?_; rintro r w1 ⟨v1, rfl, ha1, hk1⟩; have O1 := Lib.hid (ha1.2 AD.out); obtain ⟨va, vc, rfl⟩ := owns_sl O1.out; have q1 := hk1.cell q1; have f1 := (hk1.blk (fun h => h) HQ.out).frozen 1)
  all_goals
    have V1 : Hid (∀ b, (Value.slice va (addV V e.v.dot).length vc).ownBlock = some b → w0.drew.heap.size ≤ b) := Lib.hid (owns_new O1.out)
    have s01 : w0.drew.heap.size = w.heap.size + 1 := s0
    have k1 : Kept (fun _ => False) w0 w1 := (Kept.refl (fun _ => False) w0).drew.trans hk1 (fun _ _ h => h)
    have HQ2 := Lib.hid ((k1.blk (fun h => h) HQ.out).set_ 1 (.slice va (addV V e.v.dot).length vc))
    have k2 : Kept (fun x => x = g) w1 (w1.setCell ⟨g, 1, none⟩ (.slice va (addV V e.v.dot).length vc)) := (Kept.refl (fun x => x = g) w1).setCell (p := ⟨g, 1, none⟩) (fun _ => rfl) _
    have O2 := Lib.hid (owns_keep O1.out k2 (fun b hb e => by have := V1.out b hb; omega))
    have C2 := Lib.hid (k2.blk (fun e => by have e : w.heap.size = g := e; omega) (k1.blk (fun h => h) C0.out))
    have U2 := Lib.hid ((HO.out.keep k1 (fun _ _ _ h => h)).keep k2 (fun b hb ⟨cs, hc⟩ e => (k1.blk (fun h => h) HQ.out).ne_ hc (of_decide_eq_true (by kernel_rfl)) e.symm))
    have K2 := Lib.hid ((K0.out.trans k1 (fun _ _ h => h)).mono (S' := fun x => x = g) (fun _ _ h => h.elim) |>.trans k2 (fun _ _ h => h))
    have z1 := (K0.out.trans k1 (fun _ _ h => h)).size
    have z01 := k1.size
    clear q1 f1 x0 x1 k1 k2 hk1 ha1
    generalize w1.setCell ⟨g, 1, none⟩ (.slice va (addV V e.v.dot).length vc) = w2 at *
    have zw2 := C2.out.lt
    have x0 : w2.cell? ⟨w.heap.size, 0, none⟩ = some (.int .i64 e.v.dot.site) := C2.out.cell' (i := 0) rfl
    have x1 : w2.cell? ⟨w.heap.size, 1, none⟩ = some (.int .i64 e.v.dot.seq) := C2.out.cell' (i := 1) rfl
    have x2 : w2.cell? ⟨w.heap.size, 2, none⟩ = some (.slice e.v.deps.a e.v.deps.n e.v.deps.c) := C2.out.cell' (i := 2) rfl
    have x3 : w2.cell? ⟨w.heap.size, 3, none⟩ = some (.int .i64 e.v.kind) := C2.out.cell' (i := 3) rfl
    have x4 : w2.cell? ⟨w.heap.size, 4, none⟩ = some (.int .i64 e.v.id.t) := C2.out.cell' (i := 4) rfl
    have x5 : w2.cell? ⟨w.heap.size, 5, none⟩ = some (.int .i64 e.v.id.s) := C2.out.cell' (i := 5) rfl
    have x6 : w2.cell? ⟨w.heap.size, 6, none⟩ = some (.int .i64 e.v.ref.t) := C2.out.cell' (i := 6) rfl
    have x7 : w2.cell? ⟨w.heap.size, 7, none⟩ = some (.int .i64 e.v.ref.s) := C2.out.cell' (i := 7) rfl
    have x8 : w2.cell? ⟨w.heap.size, 8, none⟩ = some (.string e.v.text) := C2.out.cell' (i := 8) rfl
    have x9 : w2.cell? ⟨w.heap.size, 9, none⟩ = some (.slice e.v.gone.a e.v.gone.n e.v.gone.c) := C2.out.cell' (i := 9) rfl
    have x10 : w2.cell? ⟨w.heap.size, 10, none⟩ = some (.int .i64 e.v.site) := C2.out.cell' (i := 10) rfl
    have q3 : w2.cell? ⟨g, 3, none⟩ = some ov := HQ2.out.cell' (i := 3) rfl
    have f3 := HQ2.out.frozen 3
    have q3a := ((Kept.refl (fun _ => False) w2).alloc (.cells #[.int .i64 e.v.dot.site, .int .i64 e.v.dot.seq, .slice e.v.deps.a e.v.deps.n e.v.deps.c, .int .i64 e.v.kind, .int .i64 e.v.id.t, .int .i64 e.v.id.s, .int .i64 e.v.ref.t, .int .i64 e.v.ref.s, .string e.v.text, .slice e.v.gone.a e.v.gone.n e.v.gone.c, .int .i64 e.v.site] 42)).cell q3
    have LD := Lib.hid (lit_op w2 e)
    go_wp2_with fail
    go_region_law (refine step_append_out (E := entE) rfl (.tmp 21) (.tmp 23) 47 42 rfl Tryz.underlying47 info_op rfl (by decide) rfl rfl (U2.out.keep ((Kept.refl (fun _ => False) w2).alloc _).drew (fun _ _ _ h => h)) (LD.out.kept (Kept.refl (fun _ => False) _).drew) hOl ?_; intro v3 w3 ho3 hg3; obtain ⟨a3, c3, rfl⟩ := ho3.len; have HQ3 := Lib.hid (hg3.1.blk (fun ⟨e1, cs, e2⟩ => (((Kept.refl (fun _ => False) w2).alloc _).drew.blk (fun h => h) HQ2.out).ne_ e2 (of_decide_eq_true (by kernel_rfl)) rfl) (((Kept.refl (fun _ => False) w2).alloc _).drew.blk (fun h => h) HQ2.out)); have q3 := HQ3.out.cell' (i := 3) rfl; have f3 := HQ3.out.frozen 3)
    all_goals
      rw [show (O ++ [e]).length = O.length + 1 by simp] at ho3 hg3
      have kA : Kept (fun x => x = g) w w2 := K2.out
      have kB := kA.trans (((Kept.refl (fun _ => False) w2).alloc (.cells #[.int .i64 e.v.dot.site, .int .i64 e.v.dot.seq, .slice e.v.deps.a e.v.deps.n e.v.deps.c, .int .i64 e.v.kind, .int .i64 e.v.id.t, .int .i64 e.v.id.s, .int .i64 e.v.ref.t, .int .i64 e.v.ref.s, .string e.v.text, .slice e.v.gone.a e.v.gone.n e.v.gone.c, .int .i64 e.v.site] 42)).drew) (fun _ _ h => h.elim)
      have O3 := owns_keep (owns_keep O2.out (((Kept.refl (fun _ => False) w2).alloc (.cells #[.int .i64 e.v.dot.site, .int .i64 e.v.dot.seq, .slice e.v.deps.a e.v.deps.n e.v.deps.c, .int .i64 e.v.kind, .int .i64 e.v.id.t, .int .i64 e.v.id.s, .int .i64 e.v.ref.t, .int .i64 e.v.ref.s, .string e.v.text, .slice e.v.gone.a e.v.gone.n e.v.gone.c, .int .i64 e.v.site] 42)).drew) (fun _ _ h => h)) hg3.1 (fun b hb ⟨_, cs, hc⟩ => own_blk_ne (owns_keep O2.out (((Kept.refl (fun _ => False) w2).alloc (.cells #[.int .i64 e.v.dot.site, .int .i64 e.v.dot.seq, .slice e.v.deps.a e.v.deps.n e.v.deps.c, .int .i64 e.v.kind, .int .i64 e.v.id.t, .int .i64 e.v.id.s, .int .i64 e.v.ref.t, .int .i64 e.v.ref.s, .string e.v.text, .slice e.v.gone.a e.v.gone.n e.v.gone.c, .int .i64 e.v.site] 42)).drew) (fun _ _ h => h)) hc (of_decide_eq_true (by kernel_rfl)) hb)
      have kC := (kB.mono (S' := fun x => x = g ∨ ov.ownBlock = some x ∧ ∃ cs, Blk w x 42 cs) (fun _ _ h => .inl h)).trans hg3.1 (fun x hx ⟨e1, cs, e2⟩ => by
        by_cases hxg : x = g
        · exact .inl hxg
        · exact .inr ⟨e1, cs, (kB.block x hx hxg).symm.trans e2⟩)
      have kD : Kept (fun x => x = g) w3 (w3.setCell ⟨g, 3, none⟩ (.slice a3 (O.length + 1) c3)) := (Kept.refl (fun x => x = g) w3).setCell (p := ⟨g, 3, none⟩) (fun _ => rfl) _
      have O4 := Lib.hid (owns_keep O3 kD (fun b hb e => own_blk_ne O3 HQ3.out (of_decide_eq_true (by kernel_rfl)) (e ▸ hb)))
      have U4 := Lib.hid (ho3.keep kD (fun b hb ⟨cs, hc⟩ e => HQ3.out.ne_ hc (of_decide_eq_true (by kernel_rfl)) e.symm))
      have Q4 := Lib.hid (HQ3.out.set_ 3 (.slice a3 (O.length + 1) c3))
      have K4 := Lib.hid (kC.trans kD (fun _ _ h => .inl h))
      have G4 := Lib.hid hg3.2
      have zB := kB.size
      go_end0
      refine ⟨rfl, _, _, Q4.out, owns_lower O4.out (by omega), U4.out, G4.out.imp id (fun h => ⟨_, h, zB⟩), K4.out⟩
end Go.Proofs.YtaaeomapbigfgaaGreat
namespace Go.Proofs.YtaaeomapbigfgaaGreat
open Go.RowKit Go.Proofs.YtaaeomapbigfgaaGreat.St
open Go.Sort (grow)
set_option maxRecDepth 100000 in
set_option maxHeartbeats 8000000 in
theorem greatest_any {w : World} {v : Value} {W : List Ent} (h : SlAt entE w v W) (hW : ∀ e ∈ W, e.At w) (hD : ∀ e ∈ W, e.D.length ≤ 1000000000) (hWl : W.length ≤ 1000000000) :
    Calls Tryz.prog 43 #[v, .func (.func 44) #[] #[]] w fun e w' => e = .returned (.int .i64 (grI W W.length)) ∧ Grew w w' := by
  have hmix : Tryz.prog.follows .mixedOrders = true := by kernel_rfl
  obtain ⟨a, c, rfl, _, _⟩ := h.sl
  have HS := Lib.hid h
  have HW := Lib.hid hW
  have HD := Lib.hid hD
  clear h hW hD
  go_enter Tryz.func43, Tryz.ntmps43
  go_wp2_with fail
  go_loopw [5, 9] (fun kv iv wr => ∃ n : Nat, iv = .int .i64 n ∧ n ≤ W.length ∧ kv = .int .i64 (grI W n) ∧ Grew w wr) (fun _ iv _ => W.length - (intOf iv).toNat)
  case atStart => exact ⟨0, rfl, Nat.zero_le _, rfl, Grew.refl _⟩
  case round =>
    obtain ⟨n, rfl, hn, rfl, hg⟩ := hrel
    have hn0 : (0 : Int) ≤ n := by omega
    by_cases hlt : n < W.length
    case neg =>
      have hnl : ¬ (n : Int) < W.length := by omega
      obtain rfl : n = W.length := by omega
      go_wp2_with fail
      go_ret
      exact ⟨rfl, hg⟩
    case pos =>
      have hltI : (n : Int) < W.length := by omega
      have hkl := grI_lt W n hn (by omega)
      obtain ⟨e, he⟩ := get_of_lt hlt
      obtain ⟨f, hf⟩ := get_of_lt hkl
      have hsucc := Lib.hid (grI_succ he hf)
      have hkI : ((grI W n : Nat) : Int) < W.length := by omega
      have hk0 : (0 : Int) ≤ (grI W n : Nat) := by omega
      generalize grI W n = k at *
      obtain ⟨g, o, c', hv, _, _, hglt, hc⟩ := SlAt.ent (HS.out.kept hg.kept) (by omega)
      cases hv
      have HC := Lib.hid hc
      have HE := Lib.hid he
      have HF := Lib.hid hf
      clear hc
      have EM := List.mem_of_getElem? he
      have FM := List.mem_of_getElem? hf
      have HFAR := Lib.hid (fun (w' : World) (hk : Grew wr w') => far_any ((HW.out e EM).deps.kept (hg.trans hk).kept) ((HW.out f FM).deps.kept (hg.trans hk).kept) (HD.out e EM) (HD.out f FM))
      have ce0 := cell_grown (w := wr) (by show g < _; omega) (show wr.cell? ⟨g, o + n * 11, none⟩ = some (.int .i64 e.v.dot.site) from HC.out n _ HE.out 0 _ rfl)
      have ce1 := cell_grown (w := wr) (by show g < _; omega) (show wr.cell? ⟨g, o + n * 11 + 1, none⟩ = some (.int .i64 e.v.dot.seq) from HC.out n _ HE.out 1 _ rfl)
      have ce2 := cell_grown (w := wr) (by show g < _; omega) (show wr.cell? ⟨g, o + n * 11 + 2, none⟩ = some (e.v.deps.v) from HC.out n _ HE.out 2 _ rfl)
      have ce3 := cell_grown (w := wr) (by show g < _; omega) (show wr.cell? ⟨g, o + n * 11 + 3, none⟩ = some (.int .i64 e.v.kind) from HC.out n _ HE.out 3 _ rfl)
      have ce4 := cell_grown (w := wr) (by show g < _; omega) (show wr.cell? ⟨g, o + n * 11 + 4, none⟩ = some (.int .i64 e.v.id.t) from HC.out n _ HE.out 4 _ rfl)
      have ce5 := cell_grown (w := wr) (by show g < _; omega) (show wr.cell? ⟨g, o + n * 11 + 5, none⟩ = some (.int .i64 e.v.id.s) from HC.out n _ HE.out 5 _ rfl)
      have ce6 := cell_grown (w := wr) (by show g < _; omega) (show wr.cell? ⟨g, o + n * 11 + 6, none⟩ = some (.int .i64 e.v.ref.t) from HC.out n _ HE.out 6 _ rfl)
      have ce7 := cell_grown (w := wr) (by show g < _; omega) (show wr.cell? ⟨g, o + n * 11 + 7, none⟩ = some (.int .i64 e.v.ref.s) from HC.out n _ HE.out 7 _ rfl)
      have ce8 := cell_grown (w := wr) (by show g < _; omega) (show wr.cell? ⟨g, o + n * 11 + 8, none⟩ = some (.string e.v.text) from HC.out n _ HE.out 8 _ rfl)
      have ce9 := cell_grown (w := wr) (by show g < _; omega) (show wr.cell? ⟨g, o + n * 11 + 9, none⟩ = some (e.v.gone.v) from HC.out n _ HE.out 9 _ rfl)
      have ce10 := cell_grown (w := wr) (by show g < _; omega) (show wr.cell? ⟨g, o + n * 11 + 10, none⟩ = some (.int .i64 e.v.site) from HC.out n _ HE.out 10 _ rfl)
      have cf0 := cell_grown (w := wr) (by show g < _; omega) (show wr.cell? ⟨g, o + k * 11, none⟩ = some (.int .i64 f.v.dot.site) from HC.out k _ HF.out 0 _ rfl)
      have cf1 := cell_grown (w := wr) (by show g < _; omega) (show wr.cell? ⟨g, o + k * 11 + 1, none⟩ = some (.int .i64 f.v.dot.seq) from HC.out k _ HF.out 1 _ rfl)
      have cf2 := cell_grown (w := wr) (by show g < _; omega) (show wr.cell? ⟨g, o + k * 11 + 2, none⟩ = some (f.v.deps.v) from HC.out k _ HF.out 2 _ rfl)
      have cf3 := cell_grown (w := wr) (by show g < _; omega) (show wr.cell? ⟨g, o + k * 11 + 3, none⟩ = some (.int .i64 f.v.kind) from HC.out k _ HF.out 3 _ rfl)
      have cf4 := cell_grown (w := wr) (by show g < _; omega) (show wr.cell? ⟨g, o + k * 11 + 4, none⟩ = some (.int .i64 f.v.id.t) from HC.out k _ HF.out 4 _ rfl)
      have cf5 := cell_grown (w := wr) (by show g < _; omega) (show wr.cell? ⟨g, o + k * 11 + 5, none⟩ = some (.int .i64 f.v.id.s) from HC.out k _ HF.out 5 _ rfl)
      have cf6 := cell_grown (w := wr) (by show g < _; omega) (show wr.cell? ⟨g, o + k * 11 + 6, none⟩ = some (.int .i64 f.v.ref.t) from HC.out k _ HF.out 6 _ rfl)
      have cf7 := cell_grown (w := wr) (by show g < _; omega) (show wr.cell? ⟨g, o + k * 11 + 7, none⟩ = some (.int .i64 f.v.ref.s) from HC.out k _ HF.out 7 _ rfl)
      have cf8 := cell_grown (w := wr) (by show g < _; omega) (show wr.cell? ⟨g, o + k * 11 + 8, none⟩ = some (.string f.v.text) from HC.out k _ HF.out 8 _ rfl)
      have cf9 := cell_grown (w := wr) (by show g < _; omega) (show wr.cell? ⟨g, o + k * 11 + 9, none⟩ = some (f.v.gone.v) from HC.out k _ HF.out 9 _ rfl)
      have cf10 := cell_grown (w := wr) (by show g < _; omega) (show wr.cell? ⟨g, o + k * 11 + 10, none⟩ = some (.int .i64 f.v.site) from HC.out k _ HF.out 10 _ rfl)
      have HG := Lib.hid hg
      clear he hf hg EM FM hkl
      generalize farV e.v.dot f.v.dot e.D f.D = fv at *
      by_cases hpos : 0 < fv
      · go_wp2_with fail
        go_quiet_grown (first
          | (go_at_call 44; exact grown_call HFAR.out _ _))
        go_wp2_with fail
        go_roundw
        case rel => exact ⟨n + 1, by go_num, by omega, by rw [hsucc.out, if_pos hpos], HG.out.trans (Grew.grown _ _)⟩
        case measure => simp [intOf] <;> omega
      · go_wp2_with fail
        go_quiet_grown (first
          | (go_at_call 44; exact grown_call HFAR.out _ _))
        go_wp2_with fail
        go_roundw
        case rel => exact ⟨n + 1, by go_num, by omega, by rw [hsucc.out, if_neg (by omega)], HG.out.trans (Grew.grown _ _)⟩
        case measure => simp [intOf] <;> omega
end Go.Proofs.YtaaeomapbigfgaaGreat
namespace Go.Proofs.YtaaeomapbigfgaaGreat
open Go.RowKit Go.Proofs.YtaaeomapbigfgaaGreat.St
/-- what was delivered, what waits, what was not taken -/
structure QS where
  V : List Dot
  W : List Ent
  O : List Ent
def Ent.canB (V : List Dot) (e : Ent) : Bool := decide (Ent.can V e.v.dot e.D)
/-- the operation at a place of those that wait is delivered -/
def QS.take (s : QS) (i : Nat) (e : Ent) : QS := ⟨addV s.V e.v.dot, s.W.eraseIdx i, s.O ++ [e]⟩
/-- all that can be delivered, is -/
def drain : Nat → QS → QS
  | 0, s => s
  | n + 1, s => match s.W.findIdx? (Ent.canB s.V) with
    | none => s
    | some i => match s.W[i]? with
      | none => s
      | some e => drain n (s.take i e)
theorem drain_none {n : Nat} {s : QS} (h : ∀ e ∈ s.W, ¬ Ent.can s.V e.v.dot e.D) : drain n s = s := by
  cases n with
  | zero => rfl
  | succ n =>
    have : s.W.findIdx? (Ent.canB s.V) = none := List.findIdx?_eq_none_iff.2 fun e he => decide_eq_false (h e he)
    unfold drain
    rw [this]
theorem drain_some {n i : Nat} {s : QS} {e : Ent} (hn : s.W.length = n + 1) (he : s.W[i]? = some e) (hc : Ent.can s.V e.v.dot e.D) (hno : ∀ e ∈ s.W.take i, ¬ Ent.can s.V e.v.dot e.D) : drain s.W.length s = drain (s.take i e).W.length (s.take i e) := by
  obtain ⟨hi, rfl⟩ := List.getElem?_eq_some_iff.1 he
  have : s.W.findIdx? (Ent.canB s.V) = some i := by
    rw [List.findIdx?_eq_some_iff_getElem]
    refine ⟨hi, decide_eq_true hc, fun j hj => ?_⟩
    have hm : s.W[j] ∈ s.W.take i := List.mem_of_getElem? (i := j) (by rw [List.getElem?_take, if_pos hj]; exact List.getElem?_eq_getElem _)
    simp only [Ent.canB, decide_eq_true_eq]
    exact hno _ hm
  have hl : (s.take i s.W[i]).W.length = n := by show (s.W.eraseIdx i).length = n; rw [List.length_eraseIdx, if_pos hi]; omega
  rw [hn, hl]
  show (match s.W.findIdx? (Ent.canB s.V) with
    | none => s
    | some i => match s.W[i]? with
      | none => s
      | some e => drain n (s.take i e)) = _
  rw [this]
  show (match s.W[i]? with
      | none => s
      | some e => drain n (s.take i e)) = _
  rw [he]
/-- an operation's lists lie in rows of their own -/
structure Ent.Own (w : World) (e : Ent) : Prop where
  deps : w.ownsRow 0 28 2 e.v.deps.v e.D.length (dotE.flat e.D)
  gone : w.ownsRow 0 77 3 e.v.gone.v e.G.length (runE.flat e.G)
  ok : e.v.dot.Ok
  len : e.D.length ≤ 1000000
  len2 : e.G.length ≤ 1000000
theorem Ent.Own.at_ {w : World} {e : Ent} (h : e.Own w) : e.At w := ⟨owns_slAt (E := dotE) h.deps, owns_slAt (E := runE) h.gone⟩
/-- a frame that touches no rows of Dots and of runs -/
def Spares (w : World) (S : Nat → Prop) : Prop := ∀ b cs, S b → ¬ Blk w b 28 cs ∧ ¬ Blk w b 77 cs
theorem owns_spared {w : World} {base n size : Nat} {e : TypeId} {v : Value} {xs : List Value} (h : w.ownsRow base e size v n xs) : ∀ b, v.ownBlock = some b → ∃ cs, Blk w b e cs := fun b hb => by
  rcases h.2 with ⟨e2, _⟩ | ⟨g3, c2, cur, e2, h1, h2, _⟩
  · rw [e2] at hb; cases hb
  · rw [e2] at hb
    have hb : some g3 = some b := hb
    injection hb with hb
    subst hb
    exact ⟨_, h2⟩
theorem Ent.Own.keep {w w' : World} {S : Nat → Prop} {e : Ent} (h : e.Own w) (hk : Kept S w w') (hs : Spares w S) : e.Own w' :=
  ⟨owns_keep h.deps hk fun b hb hS => by obtain ⟨cs, hc⟩ := owns_spared h.deps b hb; exact (hs b cs hS).1 hc, owns_keep h.gone hk fun b hb hS => by obtain ⟨cs, hc⟩ := owns_spared h.gone b hb; exact (hs b cs hS).2 hc, h.ok, h.len, h.len2⟩
/-- the Queue at g; its rows of operations lie in F -/
structure QAt (w : World) (g : Nat) (hold : Int) (s : QS) (F : Nat → Prop) (vv wv ov : Value) : Prop where
  head : Blk w g 49 #[.int .i64 hold, vv, wv, ov]
  vec : w.ownsRow 0 28 2 vv s.V.length (dotE.flat s.V)
  vlen : s.V.length ≤ 1000
  wait : w.ownsRow 0 42 11 wv s.W.length (entE.flat s.W)
  wlen : s.W.length ≤ 100000
  out : OutAt entE w 42 ov s.O
  olen : s.O.length ≤ 500000
  wF : ∀ b, wv.ownBlock = some b → F b
  oF : ∀ b, ov.ownBlock = some b → F b
  apart : ∀ b, wv.ownBlock = some b → ov.ownBlock ≠ some b
  oB : ∀ b, ov.ownBlock = some b → b < w.heap.size
  ents : ∀ e ∈ s.W ++ s.O, e.Own w
/-- what Offer may write -/
def QF (w : World) (g : Nat) (F : Nat → Prop) (b : Nat) : Prop := b = g ∨ F b ∧ ∃ cs, Blk w b 42 cs
theorem QF.back {w w' : World} {g : Nat} {F : Nat → Prop} (hk : Kept (fun _ => False) w w') {b : Nat} (hb : b < w.heap.size) (h : QF w' g F b) : QF w g F b := by
  rcases h with h | ⟨h, cs, hc⟩
  · exact .inl h
  · exact .inr ⟨h, cs, (hk.block b hb (fun h => h)).symm.trans hc⟩
theorem QAt.spares {w : World} {g : Nat} {hold : Int} {s : QS} {F : Nat → Prop} {vv wv ov : Value} (h : QAt w g hold s F vv wv ov) : Spares w (QF w g F) := by
  rintro b cs (rfl | ⟨_, cs2, hc⟩)
  · exact ⟨fun hb => h.head.ne_ hb (of_decide_eq_true (by kernel_rfl)) rfl, fun hb => h.head.ne_ hb (of_decide_eq_true (by kernel_rfl)) rfl⟩
  · exact ⟨fun hb => hc.ne_ hb (of_decide_eq_true (by kernel_rfl)) rfl, fun hb => hc.ne_ hb (of_decide_eq_true (by kernel_rfl)) rfl⟩
theorem QAt.wider {w : World} {g : Nat} {hold : Int} {s : QS} {F F' : Nat → Prop} {vv wv ov : Value} (h : QAt w g hold s F vv wv ov) (hf : ∀ b, F b → F' b) : QAt w g hold s F' vv wv ov :=
  { h with wF := fun b hb => hf b (h.wF b hb), oF := fun b hb => hf b (h.oF b hb) }
theorem QAt.kept {w w' : World} {g : Nat} {hold : Int} {s : QS} {F : Nat → Prop} {vv wv ov : Value} (h : QAt w g hold s F vv wv ov) (hk : Kept (fun _ => False) w w') : QAt w' g hold s F vv wv ov :=
  ⟨hk.blk (fun h => h) h.head, owns_keep h.vec hk (fun _ _ h => h), h.vlen, owns_keep h.wait hk (fun _ _ h => h), h.wlen, h.out.keep hk (fun _ _ _ h => h), h.olen, h.wF, h.oF, h.apart, fun b hb => Nat.lt_of_lt_of_le (h.oB b hb) hk.size, fun e he => (h.ents e he).keep hk (fun _ _ h => h.elim)⟩
theorem owns_far {w : World} {base n size : Nat} {e : TypeId} {v : Value} {xs : List Value} (h : w.ownsRow base e size v n xs) {g : Nat} {t : TypeId} {cs : Array Value} (hg : Blk w g t cs) (hne : e ≠ t) : ∀ b, v.ownBlock = some b → ¬ b = g := fun b hb e2 => by subst e2; exact own_blk_ne h hg hne hb
theorem grow1_kept {w w' : World} {v v' : Value} (h : Grow1 w w' v v') : Kept (fun b => v.ownBlock = some b) w w' := by
  rcases h with ⟨_, h⟩ | ⟨_, h⟩
  · exact h
  · exact h.mono (fun _ _ h => h.elim)
section
variable {w w' : World} {g : Nat} {hold : Int} {s : QS} {F : Nat → Prop} {vv wv ov : Value} {e : Ent}
theorem QAt.wOp (h : QAt w g hold s F vv wv ov) : ∀ b, wv.ownBlock = some b → ∃ cs, Blk w b 42 cs := owns_spared h.wait
/-- one waits more -/
theorem QAt.pushed (h : QAt w g hold s F vv wv ov) (he : e.Own w) {v' : Value} (ho : w'.ownsRow 0 42 11 v' (s.W.length + 1) (entE.flat (s.W ++ [e]))) (hg : Grow1 w w' wv v') (hl : s.W.length + 1 ≤ 100000) :
    QAt (w'.setCell ⟨g, 2, none⟩ v') g hold ⟨s.V, s.W ++ [e], s.O⟩ (fun b => F b ∨ w.heap.size ≤ b) vv v' ov ∧ Kept (QF w g F) w (w'.setCell ⟨g, 2, none⟩ v') := by
  have hk := grow1_kept hg
  have hgw : ¬ wv.ownBlock = some g := fun hb => by obtain ⟨cs, hc⟩ := h.wOp g hb; exact h.head.ne_ hc (of_decide_eq_true (by kernel_rfl)) rfl
  have h1 : Blk w' g 49 #[.int .i64 hold, vv, wv, ov] := hk.blk hgw h.head
  have kS : Kept (fun x => x = g) w' (w'.setCell ⟨g, 2, none⟩ v') := (Kept.refl (fun x => x = g) w').setCell (p := ⟨g, 2, none⟩) (fun _ => rfl) _
  have kA : Kept (QF w g F) w (w'.setCell ⟨g, 2, none⟩ v') := (hk.mono (S' := QF w g F) (fun b _ hb => .inr ⟨h.wF b hb, h.wOp b hb⟩)).trans kS (fun _ _ e => .inl e)
  have v1 := owns_keep h.vec hk (fun b hb e => by obtain ⟨cs, hc⟩ := owns_spared h.vec b hb; obtain ⟨cs2, hc2⟩ := h.wOp b e; exact hc.ne_ hc2 (of_decide_eq_true (by kernel_rfl)) rfl)
  have o1 := h.out.keep hk (fun b hb _ e => h.apart b e hb)
  refine ⟨⟨h1.set_ 2 v', owns_keep v1 kS (owns_far v1 h1 (of_decide_eq_true (by kernel_rfl))), h.vlen, ?_, by simpa using hl, o1.keep kS (fun b _ ⟨cs, hc⟩ e => h1.ne_ hc (of_decide_eq_true (by kernel_rfl)) e.symm), h.olen, ?_, fun b hb => .inl (h.oF b hb), ?_, fun b hb => Nat.lt_of_lt_of_le (h.oB b hb) (kA.size), ?_⟩, kA⟩
  · have := owns_keep ho kS (owns_far ho h1 (of_decide_eq_true (by kernel_rfl)))
    simpa using this
  · intro b hb
    rcases hg with ⟨e1, _⟩ | ⟨e1, _⟩
    · exact .inl (h.wF b (e1 ▸ hb))
    · rw [e1] at hb; injection hb with hb; exact .inr (by omega)
  · intro b hb hb2
    rcases hg with ⟨e1, _⟩ | ⟨e1, _⟩
    · exact h.apart b (e1 ▸ hb) hb2
    · rw [e1] at hb; injection hb with hb; have := h.oB b hb2; omega
  · intro y hy
    have hy' : y ∈ s.W ++ s.O ∨ y = e := by
      have hy : y ∈ (s.W ++ [e]) ++ s.O := hy
      rcases List.mem_append.1 hy with hy | hy
      · rcases List.mem_append.1 hy with hy | hy
        · exact .inl (List.mem_append.2 (.inl hy))
        · exact .inr (List.mem_singleton.1 hy)
      · exact .inl (List.mem_append.2 (.inr hy))
    rcases hy' with hy | rfl
    · exact (h.ents y hy).keep kA h.spares
    · exact he.keep kA h.spares
/-- one that waits was taken away -/
theorem QAt.goneAt {b cap i : Nat} (h : QAt w g hold s F vv (.slice (some ⟨b, 0, none⟩) s.W.length cap) ov) (hi : i < s.W.length) (h1 : Blk w' g 49 #[.int .i64 hold, vv, .slice (some ⟨b, 0, none⟩) (s.W.length - 1) cap, ov])
    (hO : OwnAt entE w' 42 b cap (s.W.eraseIdx i)) (hk : Kept (fun x => x = g ∨ x = b) w w') : QAt w' g hold ⟨s.V, s.W.eraseIdx i, s.O⟩ F vv (.slice (some ⟨b, 0, none⟩) (s.W.length - 1) cap) ov ∧ Kept (QF w g F) w w' := by
  have hbO : ∃ cs, Blk w b 42 cs := h.wOp b rfl
  obtain ⟨csb, hcb⟩ := hbO
  have kA : Kept (QF w g F) w w' := hk.mono (fun x _ hx => by rcases hx with rfl | rfl; exact .inl rfl; exact .inr ⟨h.wF _ rfl, csb, hcb⟩)
  have hl : (s.W.eraseIdx i).length = s.W.length - 1 := by rw [List.length_eraseIdx, if_pos hi]
  refine ⟨⟨h1, owns_keep h.vec hk (fun x hx e => ?_), h.vlen, ?_, by show (s.W.eraseIdx i).length ≤ _; have := h.wlen; omega, h.out.keep hk (fun x hx hc e => ?_), h.olen, h.wF, h.oF, h.apart, fun x hx => Nat.lt_of_lt_of_le (h.oB x hx) hk.size, fun y hy => ?_⟩, kA⟩
  · obtain ⟨cs, hc⟩ := owns_spared h.vec x hx
    rcases e with rfl | rfl
    · exact h.head.ne_ hc (of_decide_eq_true (by kernel_rfl)) rfl
    · exact hc.ne_ hcb (of_decide_eq_true (by kernel_rfl)) rfl
  · have := hO.owns (Nat.zero_le b)
    rw [hl] at this
    show w'.ownsRow 0 _ 11 _ (s.W.eraseIdx i).length _
    rw [hl]
    exact this
  · obtain ⟨cs, hc⟩ := hc
    rcases e with rfl | rfl
    · exact h.head.ne_ hc (of_decide_eq_true (by kernel_rfl)) rfl
    · exact h.apart _ rfl hx
  · have hy : y ∈ s.W.eraseIdx i ++ s.O := hy
    refine (h.ents y ?_).keep kA h.spares
    rcases List.mem_append.1 hy with hy | hy
    · exact List.mem_append.2 (.inl (List.mem_of_mem_eraseIdx hy))
    · exact List.mem_append.2 (.inr hy)
theorem OutAt.lt_of {t : TypeId} {v : Value} {O : List Ent} (h : OutAt entE w t v O) (hn : O ≠ []) : ∀ b, v.ownBlock = some b → b < w.heap.size := fun b hb => by
  rcases h with ⟨_, _, h⟩ | ⟨g, cap, R, rfl, _, hO⟩
  · exact absurd h hn
  · have hb : some g = some b := hb
    injection hb with hb
    subst hb
    exact hO.lt
/-- one was delivered -/
theorem QAt.delivered (h : QAt w g hold s F vv wv ov) (he : e.Own w) {v' ov' : Value} (h1 : Blk w' g 49 #[.int .i64 hold, v', wv, ov']) (hv : w'.ownsRow w.heap.size 28 2 v' (addV s.V e.v.dot).length (dotE.flat (addV s.V e.v.dot)))
    (hO : OutAt entE w' 42 ov' (s.O ++ [e])) (hb : ov'.ownBlock = ov.ownBlock ∨ ∃ b, ov'.ownBlock = some b ∧ w.heap.size ≤ b) (hk : Kept (fun x => x = g ∨ ov.ownBlock = some x ∧ ∃ cs, Blk w x 42 cs) w w') (hl : s.O.length + 1 ≤ 500000) :
    QAt w' g hold ⟨addV s.V e.v.dot, s.W, s.O ++ [e]⟩ (fun b => F b ∨ w.heap.size ≤ b) v' wv ov' ∧ Kept (QF w g F) w w' := by
  have kA : Kept (QF w g F) w w' := hk.mono (fun x _ hx => by rcases hx with rfl | ⟨hx, hc⟩; exact .inl rfl; exact .inr ⟨h.oF _ hx, hc⟩)
  refine ⟨⟨h1, owns_lower hv (Nat.zero_le _), ?_, owns_keep h.wait hk (fun x hx e => ?_), h.wlen, hO, by simpa using hl, fun b hb => .inl (h.wF b hb), ?_, ?_, OutAt.lt_of hO (by simp), fun y hy => ?_⟩, kA⟩
  · show (addV s.V e.v.dot).length ≤ 1000
    have := vecOf_len (fun i => if (i : Int) = e.v.dot.site then e.v.dot.seq else says s.V i) 17
    unfold addV
    omega
  · rcases e with rfl | ⟨e, _⟩
    · obtain ⟨cs, hc⟩ := owns_spared h.wait _ hx
      exact h.head.ne_ hc (of_decide_eq_true (by kernel_rfl)) rfl
    · exact h.apart x hx e
  · intro b hb2
    rcases hb with hb | ⟨b2, hb, hlt⟩
    · exact .inl (h.oF b (hb ▸ hb2))
    · rw [hb] at hb2; injection hb2 with hb2; exact .inr (by omega)
  · intro b hw hb2
    rcases hb with hb | ⟨b2, hb, hlt⟩
    · exact h.apart b hw (hb ▸ hb2)
    · rw [hb] at hb2
      injection hb2 with hb2
      obtain ⟨cs, hc⟩ := h.wOp b hw
      have := hc.lt
      omega
  · have hy : y ∈ s.W ++ (s.O ++ [e]) := hy
    rw [← List.append_assoc] at hy
    rcases List.mem_append.1 hy with hy | hy
    · exact (h.ents y hy).keep kA h.spares
    · rw [List.mem_singleton.1 hy]
      exact he.keep kA h.spares
end
end Go.Proofs.YtaaeomapbigfgaaGreat
