/- (*causal.Queue).gone. -/
import Derived.Test.YtaaeomapbigfgaaGreatV6
import Derived.Deep.CutBlock
namespace Go.Proofs.YtaaeomapbigfgaaGreat
open Go.RowKit Go.Proofs.YtaaeomapbigfgaaGreat.St
theorem OwnAt.ent {w : World} {t : TypeId} {g cap : Nat} {W : List Ent} (h : OwnAt entE w t g cap W) {i : Nat} {e : Ent} (he : W[i]? = some e) {j : Nat} {u : Value} (hu : (opA e.v)[j]? = some u) : w.cell? ⟨g, i * 11 + j, none⟩ = some u := by
  have hu' : e.v.cells[j]? = some u := by simpa [opA] using hu
  exact h.cell he hu'
abbrev zeroOp : Array Value := #[.int .i64 0, .int .i64 0, .slice none 0 0, .int .i64 0, .int .i64 0, .int .i64 0, .int .i64 0, .int .i64 0, .string ⟨#[]⟩, .slice none 0 0, .int .i64 0]
theorem zero_op : ∀ w, (zeroValue 42).run Tryz.prog w = .ok (.agg zeroOp) w := fun _ => by kernel_rfl
theorem zeroOp_one : ∀ u ∈ (Value.agg zeroOp).cells.toList, u.oneCell' = true := fun u hu => (Array.all_eq_true_iff_forall_mem.1 (show zeroOp.all (·.oneCell') = true by simp [zeroOp, Value.oneCell'])) u (by simpa [Value.cells] using hu)
theorem size_op : (Tryz.prog.info? 42).map (·.size) = some 11 := by kernel_rfl
set_option maxRecDepth 100000 in
set_option maxHeartbeats 8000000 in
theorem gone_any {w : World} {g b cap i : Nat} {h0 v ov : Value} {W : List Ent} {e : Ent} (hq : Blk w g 49 #[h0, v, .slice (some ⟨b, 0, none⟩) W.length cap, ov]) (hO : OwnAt entE w 42 b cap W) (hx : W[i]? = some e) (hb : W.length ≤ 1000000) :
    Calls Tryz.prog 45 #[.pointer (some ⟨g, 0, none⟩), .int .i64 i] w fun r w' => r = .returned (.agg (opA e.v)) ∧ Blk w' g 49 #[h0, v, .slice (some ⟨b, 0, none⟩) (W.length - 1) cap, ov] ∧ OwnAt entE w' 42 b cap (W.eraseIdx i) ∧ Kept (fun x => x = g ∨ x = b) w w' := by
  have hi : i < W.length := (List.getElem?_eq_some_iff.1 hx).1
  have hle := hO.le
  have hiI : (i : Int) < W.length := by omega
  have hi0 : (0 : Int) ≤ i := by omega
  have B0 := Lib.hid (Blk.new w 42 zeroOp)
  have k0 : Kept (fun _ => False) w (w.alloc (.cells zeroOp 42)) := (Kept.refl _ _).alloc _
  have HO := Lib.hid (hO.keep k0 (fun h => h))
  have HQ := Lib.hid (k0.blk (fun h => h) hq)
  have K0 := Lib.hid k0
  have HX := Lib.hid hx
  have hbw := hO.lt
  have hgw := hq.lt
  have hgb : g ≠ b := by
    obtain ⟨cs, h1, _⟩ := hO
    exact hq.ne_ h1 (of_decide_eq_true (by kernel_rfl))
  clear hq hO hx k0
  go_enter Tryz.func45, Tryz.ntmps45
  go_upto_region 1 with fail
  generalize w.alloc (.cells zeroOp 42) = w0 at *
  have hs0 := K0.out.size
  have B0L := Lib.hid B0.out.lt
  have q2 : w0.cell? ⟨g, 2, none⟩ = some (.slice (some ⟨b, 0, none⟩) W.length cap) := HQ.out.cell' (i := 2) rfl
  have c0 : w0.cell? ⟨b, i * 11, none⟩ = some (.int .i64 e.v.dot.site) := OwnAt.ent HO.out HX.out (j := 0) rfl
  have c1 : w0.cell? ⟨b, i * 11 + 1, none⟩ = some (.int .i64 e.v.dot.seq) := OwnAt.ent HO.out HX.out (j := 1) rfl
  have c2 : w0.cell? ⟨b, i * 11 + 2, none⟩ = some (.slice e.v.deps.a e.v.deps.n e.v.deps.c) := OwnAt.ent HO.out HX.out (j := 2) rfl
  have c3 : w0.cell? ⟨b, i * 11 + 3, none⟩ = some (.int .i64 e.v.kind) := OwnAt.ent HO.out HX.out (j := 3) rfl
  have c4 : w0.cell? ⟨b, i * 11 + 4, none⟩ = some (.int .i64 e.v.id.t) := OwnAt.ent HO.out HX.out (j := 4) rfl
  have c5 : w0.cell? ⟨b, i * 11 + 5, none⟩ = some (.int .i64 e.v.id.s) := OwnAt.ent HO.out HX.out (j := 5) rfl
  have c6 : w0.cell? ⟨b, i * 11 + 6, none⟩ = some (.int .i64 e.v.ref.t) := OwnAt.ent HO.out HX.out (j := 6) rfl
  have c7 : w0.cell? ⟨b, i * 11 + 7, none⟩ = some (.int .i64 e.v.ref.s) := OwnAt.ent HO.out HX.out (j := 7) rfl
  have c8 : w0.cell? ⟨b, i * 11 + 8, none⟩ = some (.string e.v.text) := OwnAt.ent HO.out HX.out (j := 8) rfl
  have c9 : w0.cell? ⟨b, i * 11 + 9, none⟩ = some (.slice e.v.gone.a e.v.gone.n e.v.gone.c) := OwnAt.ent HO.out HX.out (j := 9) rfl
  have c10 : w0.cell? ⟨b, i * 11 + 10, none⟩ = some (.int .i64 e.v.site) := OwnAt.ent HO.out HX.out (j := 10) rfl
  have B1 := Lib.hid (Blk.new w0 42 (opA e.v))
  have k1 : Kept (fun _ => False) w0 (w0.alloc (.cells (opA e.v) 42)) := (Kept.refl _ _).alloc _
  go_upto_region 2 with fail
  have e1 : w0.alloc (.cells #[.int .i64 e.v.dot.site, .int .i64 e.v.dot.seq, .slice e.v.deps.a e.v.deps.n e.v.deps.c, .int .i64 e.v.kind, .int .i64 e.v.id.t, .int .i64 e.v.id.s, .int .i64 e.v.ref.t, .int .i64 e.v.ref.s, .string e.v.text, .slice e.v.gone.a e.v.gone.n e.v.gone.c, .int .i64 e.v.site] 42) = w0.alloc (.cells (opA e.v) 42) := rfl
  rw [e1]
  have HO1 := Lib.hid (HO.out.keep k1 (fun h => h))
  have HQ1 := Lib.hid (k1.blk (fun h => h) HQ.out)
  have B01 := Lib.hid (k1.blk (fun h => h) B0.out)
  have K1 := Lib.hid (K0.out.trans k1 (fun _ _ h => h))
  clear c0 c1 c2 c3 c4 c5 c6 c7 c8 c9 c10 q2 e1 HO HQ K0 B0
  have zx : w0.heap.size ≠ b := by omega
  generalize hw1 : w0.alloc (.cells (opA e.v) 42) = w1 at *
  have q2 : w1.cell? ⟨g, 2, none⟩ = some (.slice (some ⟨b, 0, none⟩) W.length cap) := HQ1.out.cell' (i := 2) rfl
  have hw1' : IntKind.i64.wrap ((i : Int) + 1) = (i : Int) + 1 := IntWalk.i64_in _ (by omega)
  have hi10 : (0 : Int) ≤ (i : Int) + 1 := by omega
  have hcap : (W.length : Int) ≤ cap := by omega
  have hcap63 : (cap : Int) ≤ 9223372036854775807 := by have := hle.2; unfold maxLen at this; omega
  have hic : (i : Int) ≤ cap := by omega
  have hicn : i < cap := by omega
  have hiL : (i : Int) ≤ W.length := by omega
  have h1L : (i : Int) + 1 ≤ W.length := by omega
  have hce : ¬ cap = i := by omega
  obtain ⟨lm, hlm⟩ : ∃ lm, W.length = lm + 1 := ⟨W.length - 1, by omega⟩
  have LM := Lib.hid hlm
  have hlm0 : (0 : Int) ≤ lm := by omega
  have hlmL : (lm : Int) ≤ W.length := by omega
  have hlmc : (lm : Int) ≤ cap := by omega
  have hlmn : ¬ cap = lm := by omega
  have hsz0 : w.heap.size < w0.heap.size := B0L.out
  by_cases hlast : i + 1 < W.length
  · have h1I : (i : Int) + 1 ≤ cap := by omega
    have h1n : i + 1 < cap := by omega
    have hce1 : ¬ cap = i + 1 := by omega
    obtain ⟨w2, hcp, hO2, hk2⟩ := run_copy_erase (HO1.out.keep ((Kept.refl (fun _ => False) w1).drew) (fun h => h)) 47 47 3 42 Tryz.underlying47 size_op hlast (cap - i) (cap - (i + 1))
    have CP := Lib.hid hcp
    have hel : (W.eraseIdx i).length = lm := by rw [List.length_eraseIdx, if_pos hi]; omega
    obtain ⟨w3, hcl, hO3, hk3⟩ := run_clear_own (P := Tryz.prog) hO2 0 Tryz.underlying47 zero_op rfl zeroOp_one (i := lm) (n := W.length - lm) (c := cap - lm) (by omega)
    have hcl2 : (Builtin.clear_ #[47] 0 #[.slice (some ⟨b, lm * 11, none⟩) (W.length - lm) (cap - lm)]).run Tryz.prog w2 = .ok (.tuple #[]) w3 := hcl
    rw [List.take_of_length_le (by omega)] at hO3
    have k2 : Kept (· = b) w1 w2 := (Kept.refl (· = b) w1).drew.trans hk2 (fun _ _ h => h)
    have HQ2 := Lib.hid (k2.blk (fun e => hgb e) HQ1.out)
    have HQ3 := Lib.hid (hk3.blk (fun e => hgb e) HQ2.out)
    have k3 := k2.trans hk3 (fun _ _ h => h)
    have B03 := Lib.hid (k3.blk (fun e => by have e : w.heap.size = b := e; omega) B01.out)
    have B13 := Lib.hid (k3.blk (fun e => by have e : w0.heap.size = b := e; omega) B1.out)
    have K3 : Hid (Kept (fun x => x = g ∨ x = b) w w3) := Lib.hid ((K1.out.mono (fun _ _ h => h.elim)).trans k3 (fun _ _ e => .inr e))
    have HO3 := Lib.hid hO3
    clear hcp hO2 hk2 hO3 hk3 hcl k2 k3 hlm hel
    go_wp2_with fail
    go_region_law (refine step_copy rfl (.tmp 19) (.tmp 26) 47 47 rfl rfl rfl CP.out ?_)
    all_goals
      have hlm := LM.out
      have hsum : IntKind.i64.wrap ((i : Int) + ((W.length - (i + 1) : Nat) : Int)) = (lm : Int) := by rw [show (i : Int) + ((W.length - (i + 1) : Nat) : Int) = (lm : Int) by omega]; exact IntWalk.i64_in _ (by omega)
      have q2 : w2.cell? ⟨g, 2, none⟩ = some (.slice (some ⟨b, 0, none⟩) W.length cap) := HQ2.out.cell' (i := 2) rfl
      clear hlm hi10 hw1' hcap hic hicn hiL h1L hce hiI
      go_upto_region 4 with fail
      have q2 : w3.cell? ⟨g, 2, none⟩ = some (.slice (some ⟨b, 0, none⟩) W.length cap) := HQ3.out.cell' (i := 2) rfl
      have f2 := HQ3.out.frozen 2
      clear hcl2
      have HQ4 : Hid (Blk (w3.setCell ⟨g, 2, none⟩ (.slice (some ⟨b, 0, none⟩) lm cap)) g 49 #[h0, v, .slice (some ⟨b, 0, none⟩) lm cap, ov]) := Lib.hid (HQ3.out.set_ 2 _)
      have k4 : Kept (fun x => x = g ∨ x = b) w3 (w3.setCell ⟨g, 2, none⟩ (.slice (some ⟨b, 0, none⟩) lm cap)) := (Kept.refl _ _).setCell (fun _ => .inl rfl) _
      have HO4 := Lib.hid (HO3.out.keep (S := fun x => x = g) ((Kept.refl (fun x => x = g) w3).setCell (p := ⟨g, 2, none⟩) (fun _ => rfl) (.slice (some ⟨b, 0, none⟩) lm cap)) (fun e => hgb e.symm))
      have B04 := Lib.hid (k4.blk (fun e => by rcases e with e | e <;> omega) B03.out)
      have B14 := Lib.hid (k4.blk (fun e => by rcases e with e | e <;> omega) B13.out)
      have K4 := Lib.hid (K3.out.trans k4 (fun _ _ h => h))
      go_upto_region 5 with fail
      clear q2 f2 k4
      generalize w3.setCell ⟨g, 2, none⟩ (.slice (some ⟨b, 0, none⟩) lm cap) = w4 at *
      have K5 := Lib.hid (K4.out.setRow (g := w.heap.size) (fun h => by omega) (opA e.v))
      have HO5 := Lib.hid (HO4.out.keep (S := fun x => x = w.heap.size) ((Kept.refl (fun x => x = w.heap.size) w4).setRow (g := w.heap.size) (fun _ => rfl) (opA e.v)) (fun e => by omega))
      have HQ5 := Lib.hid (HQ4.out.row_far (g := w.heap.size) (by omega) (opA e.v))
      go_wp2_with (first
        | (refine wpList_load_row rfl 42 _ rfl w0.heap.size rfl 42 _ (0, 0) _ B14.out Tryz.underlying42 rfl (by rw [opA_size]; exact size_op) ?_)
        | (refine wpList_store_row rfl 42 _ _ rfl w.heap.size (opA e.v) rfl rfl 42 zeroOp B04.out (by rw [opA_size]; exact size_op) (by rw [opA_size]; rfl) (opA_one _) ?_))
      exact bodyPost_ret (Blk.result rfl _ (B04.out.row _) rfl Tryz.underlying42 rfl (by rw [opA_size]; exact size_op)) rfl ⟨rfl, by rw [show W.length - 1 = lm by have := LM.out; omega]; exact HQ5.out, HO5.out, K5.out⟩

  · obtain rfl : i = lm := by omega
    have hw0 : IntKind.i64.wrap (i : Int) = (i : Int) := IntWalk.i64_in _ (by omega)
    have herase : W.take i = W.eraseIdx i := by rw [List.eraseIdx_eq_take_drop_succ, List.drop_of_length_le (by omega), List.append_nil]
    have h1I : (i : Int) + 1 ≤ cap := by omega
    have hmin : Nat.min (W.length - (i + 1)) (W.length - i) = 0 := by rw [show W.length - (i + 1) = 0 by omega]; exact Nat.zero_min _
    by_cases hce1 : cap = i + 1
    · have CP := Lib.hid (run_copy_noneK (P := Tryz.prog) w1.drew 47 47 3 42 (some ⟨b, i * 11, none⟩) (some ⟨b, 0, none⟩) (W.length - i) 1 0 0 Tryz.underlying47 size_op (Nat.zero_min _))
      subst hce1
      obtain ⟨w3, hcl, hO3, hk3⟩ := run_clear_own (P := Tryz.prog) (HO1.out.keep ((Kept.refl (fun _ => False) w1).drew) (fun h => h)) 0 Tryz.underlying47 zero_op rfl zeroOp_one (i := i) (n := W.length - i) (c := 1) (by omega)
      rw [herase] at hO3
      have k2 : Kept (· = b) w1 w1.drew := (Kept.refl (· = b) w1).drew
      have HQ2 := Lib.hid (k2.blk (fun e => hgb e) HQ1.out)
      have HQ3 := Lib.hid (hk3.blk (fun e => hgb e) HQ2.out)
      have k3 := k2.trans hk3 (fun _ _ h => h)
      have B03 := Lib.hid (k3.blk (fun e => by have e : w.heap.size = b := e; omega) B01.out)
      have B13 := Lib.hid (k3.blk (fun e => by have e : w0.heap.size = b := e; omega) B1.out)
      have K3 : Hid (Kept (fun x => x = g ∨ x = b) w w3) := Lib.hid ((K1.out.mono (fun _ _ h => h.elim)).trans k3 (fun _ _ e => .inr e))
      have HO3 := Lib.hid hO3
      have HCL := Lib.hid hcl
      clear hO3 hk3 hcl k2 k3 hlm herase hmin
      go_wp2_with fail
      go_region_law (refine step_copy rfl (.tmp 19) (.tmp 26) 47 47 rfl rfl rfl CP.out ?_)
      all_goals
        generalize w1.drew = w2 at *
        have hcl2 : (Builtin.clear_ #[47] 0 #[.slice (some ⟨b, i * 11, none⟩) (W.length - i) 1]).run Tryz.prog w2 = .ok (.tuple #[]) w3 := HCL.out
        have q2 : w2.cell? ⟨g, 2, none⟩ = some (.slice (some ⟨b, 0, none⟩) W.length (i + 1)) := HQ2.out.cell' (i := 2) rfl
        clear hi10 hw1' hcap hic hicn hiL h1L hce hiI hlast
        go_upto_region 4 with fail
        have q2 : w3.cell? ⟨g, 2, none⟩ = some (.slice (some ⟨b, 0, none⟩) W.length (i + 1)) := HQ3.out.cell' (i := 2) rfl
        have f2 := HQ3.out.frozen 2
        clear hcl2
        have HQ4 : Hid (Blk (w3.setCell ⟨g, 2, none⟩ (.slice (some ⟨b, 0, none⟩) i (i + 1))) g 49 #[h0, v, .slice (some ⟨b, 0, none⟩) i (i + 1), ov]) := Lib.hid (HQ3.out.set_ 2 _)
        have k4 : Kept (fun x => x = g ∨ x = b) w3 (w3.setCell ⟨g, 2, none⟩ (.slice (some ⟨b, 0, none⟩) i (i + 1))) := (Kept.refl _ _).setCell (fun _ => .inl rfl) _
        have HO4 := Lib.hid (HO3.out.keep (S := fun x => x = g) ((Kept.refl (fun x => x = g) w3).setCell (p := ⟨g, 2, none⟩) (fun _ => rfl) (.slice (some ⟨b, 0, none⟩) i (i + 1))) (fun e => hgb e.symm))
        have B04 := Lib.hid (k4.blk (fun e => by rcases e with e | e <;> omega) B03.out)
        have B14 := Lib.hid (k4.blk (fun e => by rcases e with e | e <;> omega) B13.out)
        have K4 := Lib.hid (K3.out.trans k4 (fun _ _ h => h))
        go_upto_region 5 with fail
        clear q2 f2 k4
        generalize w3.setCell ⟨g, 2, none⟩ (.slice (some ⟨b, 0, none⟩) i (i + 1)) = w4 at *
        have K5 := Lib.hid (K4.out.setRow (g := w.heap.size) (fun h => by omega) (opA e.v))
        have HO5 := Lib.hid (HO4.out.keep (S := fun x => x = w.heap.size) ((Kept.refl (fun x => x = w.heap.size) w4).setRow (g := w.heap.size) (fun _ => rfl) (opA e.v)) (fun e => by omega))
        have HQ5 := Lib.hid (HQ4.out.row_far (g := w.heap.size) (by omega) (opA e.v))
        go_wp2_with (first
          | (refine wpList_load_row rfl 42 _ rfl w0.heap.size rfl 42 _ (0, 0) _ B14.out Tryz.underlying42 rfl (by rw [opA_size]; exact size_op) ?_)
          | (refine wpList_store_row rfl 42 _ _ rfl w.heap.size (opA e.v) rfl rfl 42 zeroOp B04.out (by rw [opA_size]; exact size_op) (by rw [opA_size]; rfl) (opA_one _) ?_))
        exact bodyPost_ret (Blk.result rfl _ (B04.out.row _) rfl Tryz.underlying42 rfl (by rw [opA_size]; exact size_op)) rfl ⟨rfl, by rw [show W.length - 1 = i by have := LM.out; omega]; exact HQ5.out, HO5.out, K5.out⟩
    · have CP0 := hmin
      obtain ⟨w3, hcl, hO3, hk3⟩ := run_clear_own (P := Tryz.prog) (HO1.out.keep ((Kept.refl (fun _ => False) w1).drew) (fun h => h)) 0 Tryz.underlying47 zero_op rfl zeroOp_one (i := i) (n := W.length - i) (c := cap - i) (by omega)
      rw [herase] at hO3
      have k2 : Kept (· = b) w1 w1.drew := (Kept.refl (· = b) w1).drew
      have HQ2 := Lib.hid (k2.blk (fun e => hgb e) HQ1.out)
      have HQ3 := Lib.hid (hk3.blk (fun e => hgb e) HQ2.out)
      have k3 := k2.trans hk3 (fun _ _ h => h)
      have B03 := Lib.hid (k3.blk (fun e => by have e : w.heap.size = b := e; omega) B01.out)
      have B13 := Lib.hid (k3.blk (fun e => by have e : w0.heap.size = b := e; omega) B1.out)
      have K3 : Hid (Kept (fun x => x = g ∨ x = b) w w3) := Lib.hid ((K1.out.mono (fun _ _ h => h.elim)).trans k3 (fun _ _ e => .inr e))
      have HO3 := Lib.hid hO3
      have HCL := Lib.hid hcl
      have HMIN := Lib.hid hmin
      clear hO3 hk3 hcl k2 k3 hlm herase hmin
      have CP := Lib.hid (run_copy_noneK (P := Tryz.prog) w1.drew 47 47 3 42 (some ⟨b, i * 11, none⟩) (some ⟨b, (i + 1) * 11, none⟩) (W.length - i) (cap - i) (W.length - (i + 1)) (cap - (i + 1)) Tryz.underlying47 size_op HMIN.out)
      clear CP0
      go_wp2_with fail
      go_region_law (refine step_copy rfl (.tmp 19) (.tmp 26) 47 47 rfl rfl rfl CP.out ?_)
      all_goals
        generalize w1.drew = w2 at *
        have hcl2 : (Builtin.clear_ #[47] 0 #[.slice (some ⟨b, i * 11, none⟩) (W.length - i) (cap - i)]).run Tryz.prog w2 = .ok (.tuple #[]) w3 := HCL.out
        have q2 : w2.cell? ⟨g, 2, none⟩ = some (.slice (some ⟨b, 0, none⟩) W.length cap) := HQ2.out.cell' (i := 2) rfl
        clear hi10 hw1' hcap hic hicn hiL h1L hce hiI hlast
        go_upto_region 4 with fail
        have q2 : w3.cell? ⟨g, 2, none⟩ = some (.slice (some ⟨b, 0, none⟩) W.length cap) := HQ3.out.cell' (i := 2) rfl
        have f2 := HQ3.out.frozen 2
        clear hcl2
        have HQ4 : Hid (Blk (w3.setCell ⟨g, 2, none⟩ (.slice (some ⟨b, 0, none⟩) i cap)) g 49 #[h0, v, .slice (some ⟨b, 0, none⟩) i cap, ov]) := Lib.hid (HQ3.out.set_ 2 _)
        have k4 : Kept (fun x => x = g ∨ x = b) w3 (w3.setCell ⟨g, 2, none⟩ (.slice (some ⟨b, 0, none⟩) i cap)) := (Kept.refl _ _).setCell (fun _ => .inl rfl) _
        have HO4 := Lib.hid (HO3.out.keep (S := fun x => x = g) ((Kept.refl (fun x => x = g) w3).setCell (p := ⟨g, 2, none⟩) (fun _ => rfl) (.slice (some ⟨b, 0, none⟩) i cap)) (fun e => hgb e.symm))
        have B04 := Lib.hid (k4.blk (fun e => by rcases e with e | e <;> omega) B03.out)
        have B14 := Lib.hid (k4.blk (fun e => by rcases e with e | e <;> omega) B13.out)
        have K4 := Lib.hid (K3.out.trans k4 (fun _ _ h => h))
        go_upto_region 5 with fail
        clear q2 f2 k4
        generalize w3.setCell ⟨g, 2, none⟩ (.slice (some ⟨b, 0, none⟩) i cap) = w4 at *
        have K5 := Lib.hid (K4.out.setRow (g := w.heap.size) (fun h => by omega) (opA e.v))
        have HO5 := Lib.hid (HO4.out.keep (S := fun x => x = w.heap.size) ((Kept.refl (fun x => x = w.heap.size) w4).setRow (g := w.heap.size) (fun _ => rfl) (opA e.v)) (fun e => by omega))
        have HQ5 := Lib.hid (HQ4.out.row_far (g := w.heap.size) (by omega) (opA e.v))
        go_wp2_with (first
          | (refine wpList_load_row rfl 42 _ rfl w0.heap.size rfl 42 _ (0, 0) _ B14.out Tryz.underlying42 rfl (by rw [opA_size]; exact size_op) ?_)
          | (refine wpList_store_row rfl 42 _ _ rfl w.heap.size (opA e.v) rfl rfl 42 zeroOp B04.out (by rw [opA_size]; exact size_op) (by rw [opA_size]; rfl) (opA_one _) ?_))
        exact bodyPost_ret (Blk.result rfl _ (B04.out.row _) rfl Tryz.underlying42 rfl (by rw [opA_size]; exact size_op)) rfl ⟨rfl, by rw [show W.length - 1 = i by have := LM.out; omega]; exact HQ5.out, HO5.out, K5.out⟩
end Go.Proofs.YtaaeomapbigfgaaGreat
