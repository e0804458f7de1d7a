/- (*causal.Queue).gone. append of one element to a row of the call's own: what becomes of the old row. A row whose head may have been cut off, appended to by one. It speaks of no program of its own. -/
import Derived.Test.YtaaeomapbigfgaaGreatU5
import Derived.Deep.CutBlock
import Derived.Test.YtaaeomapbigfgaaGreatU4
import Derived.Maps.AppendAt
import Derived.Deep.AppendSrc
namespace Go.Proofs.YtaaeomapbigfgaaGreat
open Go.RowKit Go.Proofs.YtaaeomapbigfgaaGreat.St
theorem OwnAt.ent {w : World} {t : TypeId} {g cap : Nat} {W : List Ent} (h : OwnAt entE w t g cap W) {i : Nat} {e : Ent} (he : W[i]? = some e) {j : Nat} {u : Value} (hu : (opA e.v)[j]? = some u) : w.cell? ⟨g, i * 11 + j, none⟩ = some u := by
  have hu' : e.v.cells[j]? = some u := by simpa [opA] using hu
  exact h.cell he hu'
abbrev zeroOp : Array Value := #[.int .i64 0, .int .i64 0, .slice none 0 0, .int .i64 0, .int .i64 0, .int .i64 0, .int .i64 0, .int .i64 0, .string ⟨#[]⟩, .slice none 0 0, .int .i64 0]
theorem zero_op : ∀ w, (zeroValue 42).run Tryz.prog w = .ok (.agg zeroOp) w := fun _ => by kernel_rfl
theorem zeroOp_one : ∀ u ∈ (Value.agg zeroOp).cells.toList, u.oneCell' = true := fun u hu => (Array.all_eq_true_iff_forall_mem.1 (show zeroOp.all (·.oneCell') = true by simp [zeroOp, Value.oneCell'])) u (by simpa [Value.cells] using hu)
theorem size_op : (Tryz.prog.info? 42).map (·.size) = some 11 := by kernel_rfl
set_option maxRecDepth 100000 in
set_option maxHeartbeats 8000000 in
theorem gone_any {w : World} {g b cap i : Nat} {h0 v ov : Value} {W : List Ent} {e : Ent} (hq : Blk w g 49 #[h0, v, .slice (some ⟨b, 0, none⟩) W.length cap, ov]) (hO : OwnAt entE w 42 b cap W) (hx : W[i]? = some e) (hb : W.length ≤ 1000000) :
    Calls Tryz.prog 45 #[.pointer (some ⟨g, 0, none⟩), .int .i64 i] w fun r w' => r = .returned (.agg (opA e.v)) ∧ Blk w' g 49 #[h0, v, .slice (some ⟨b, 0, none⟩) (W.length - 1) cap, ov] ∧ OwnAt entE w' 42 b cap (W.eraseIdx i) ∧ Kept (fun x => x = g ∨ x = b) w w' := by
  have hi : i < W.length := (List.getElem?_eq_some_iff.1 hx).1
  have hle := hO.le
  have hiI : (i : Int) < W.length := by omega
  have hi0 : (0 : Int) ≤ i := by omega
  have B0 := Lib.hid (Blk.new w 42 zeroOp)
  have k0 : Kept (fun _ => False) w (w.alloc (.cells zeroOp 42)) := (Kept.refl _ _).alloc _
  have HO := Lib.hid (hO.keep k0 (fun h => h))
  have HQ := Lib.hid (k0.blk (fun h => h) hq)
  have K0 := Lib.hid k0
  have HX := Lib.hid hx
  have hbw := hO.lt
  have hgw := hq.lt
  have hgb : g ≠ b := by
    obtain ⟨cs, h1, _⟩ := hO
    exact hq.ne_ h1 (of_decide_eq_true (by kernel_rfl))
  clear hq hO hx k0
  go_enter Tryz.func45, Tryz.ntmps45
  go_upto_region 1 with fail
  generalize w.alloc (.cells zeroOp 42) = w0 at *
  have hs0 := K0.out.size
  have B0L := Lib.hid B0.out.lt
  have q2 : w0.cell? ⟨g, 2, none⟩ = some (.slice (some ⟨b, 0, none⟩) W.length cap) := HQ.out.cell' (i := 2) rfl
  have c0 : w0.cell? ⟨b, i * 11, none⟩ = some (.int .i64 e.v.dot.site) := OwnAt.ent HO.out HX.out (j := 0) rfl
  have c1 : w0.cell? ⟨b, i * 11 + 1, none⟩ = some (.int .i64 e.v.dot.seq) := OwnAt.ent HO.out HX.out (j := 1) rfl
  have c2 : w0.cell? ⟨b, i * 11 + 2, none⟩ = some (.slice e.v.deps.a e.v.deps.n e.v.deps.c) := OwnAt.ent HO.out HX.out (j := 2) rfl
  have c3 : w0.cell? ⟨b, i * 11 + 3, none⟩ = some (.int .i64 e.v.kind) := OwnAt.ent HO.out HX.out (j := 3) rfl
  have c4 : w0.cell? ⟨b, i * 11 + 4, none⟩ = some (.int .i64 e.v.id.t) := OwnAt.ent HO.out HX.out (j := 4) rfl
  have c5 : w0.cell? ⟨b, i * 11 + 5, none⟩ = some (.int .i64 e.v.id.s) := OwnAt.ent HO.out HX.out (j := 5) rfl
  have c6 : w0.cell? ⟨b, i * 11 + 6, none⟩ = some (.int .i64 e.v.ref.t) := OwnAt.ent HO.out HX.out (j := 6) rfl
  have c7 : w0.cell? ⟨b, i * 11 + 7, none⟩ = some (.int .i64 e.v.ref.s) := OwnAt.ent HO.out HX.out (j := 7) rfl
  have c8 : w0.cell? ⟨b, i * 11 + 8, none⟩ = some (.string e.v.text) := OwnAt.ent HO.out HX.out (j := 8) rfl
  have c9 : w0.cell? ⟨b, i * 11 + 9, none⟩ = some (.slice e.v.gone.a e.v.gone.n e.v.gone.c) := OwnAt.ent HO.out HX.out (j := 9) rfl
  have c10 : w0.cell? ⟨b, i * 11 + 10, none⟩ = some (.int .i64 e.v.site) := OwnAt.ent HO.out HX.out (j := 10) rfl
  have B1 := Lib.hid (Blk.new w0 42 (opA e.v))
  have k1 : Kept (fun _ => False) w0 (w0.alloc (.cells (opA e.v) 42)) := (Kept.refl _ _).alloc _
  go_upto_region 2 with fail
  have e1 : w0.alloc (.cells #[.int .i64 e.v.dot.site, .int .i64 e.v.dot.seq, .slice e.v.deps.a e.v.deps.n e.v.deps.c, .int .i64 e.v.kind, .int .i64 e.v.id.t, .int .i64 e.v.id.s, .int .i64 e.v.ref.t, .int .i64 e.v.ref.s, .string e.v.text, .slice e.v.gone.a e.v.gone.n e.v.gone.c, .int .i64 e.v.site] 42) = w0.alloc (.cells (opA e.v) 42) := rfl
  rw [e1]
  have HO1 := Lib.hid (HO.out.keep k1 (fun h => h))
  have HQ1 := Lib.hid (k1.blk (fun h => h) HQ.out)
  have B01 := Lib.hid (k1.blk (fun h => h) B0.out)
  have K1 := Lib.hid (K0.out.trans k1 (fun _ _ h => h))
  clear c0 c1 c2 c3 c4 c5 c6 c7 c8 c9 c10 q2 e1 HO HQ K0 B0
  have zx : w0.heap.size ≠ b := by omega
  generalize hw1 : w0.alloc (.cells (opA e.v) 42) = w1 at *
  have q2 : w1.cell? ⟨g, 2, none⟩ = some (.slice (some ⟨b, 0, none⟩) W.length cap) := HQ1.out.cell' (i := 2) rfl
  have hw1' : IntKind.i64.wrap ((i : Int) + 1) = (i : Int) + 1 := IntWalk.i64_in _ (by omega)
  have hi10 : (0 : Int) ≤ (i : Int) + 1 := by omega
  have hcap : (W.length : Int) ≤ cap := by omega
  have hcap63 : (cap : Int) ≤ 9223372036854775807 := by have := hle.2; unfold maxLen at this; omega
  have hic : (i : Int) ≤ cap := by omega
  have hicn : i < cap := by omega
  have hiL : (i : Int) ≤ W.length := by omega
  have h1L : (i : Int) + 1 ≤ W.length := by omega
  have hce : ¬ cap = i := by omega
  obtain ⟨lm, hlm⟩ : ∃ lm, W.length = lm + 1 := ⟨W.length - 1, by omega⟩
  have LM := Lib.hid hlm
  have hlm0 : (0 : Int) ≤ lm := by omega
  have hlmL : (lm : Int) ≤ W.length := by omega
  have hlmc : (lm : Int) ≤ cap := by omega
  have hlmn : ¬ cap = lm := by omega
  have hsz0 : w.heap.size < w0.heap.size := B0L.out
  by_cases hlast : i + 1 < W.length
  · have h1I : (i : Int) + 1 ≤ cap := by omega
    have h1n : i + 1 < cap := by omega
    have hce1 : ¬ cap = i + 1 := by omega
    obtain ⟨w2, hcp, hO2, hk2⟩ := run_copy_erase (HO1.out.keep ((Kept.refl (fun _ => False) w1).drew) (fun h => h)) 47 47 3 42 Tryz.underlying47 size_op hlast (cap - i) (cap - (i + 1))
    have CP := Lib.hid hcp
    have hel : (W.eraseIdx i).length = lm := by rw [List.length_eraseIdx, if_pos hi]; omega
    obtain ⟨w3, hcl, hO3, hk3⟩ := run_clear_own (P := Tryz.prog) hO2 0 Tryz.underlying47 zero_op rfl zeroOp_one (i := lm) (n := W.length - lm) (c := cap - lm) (by omega)
    have hcl2 : (Builtin.clear_ #[47] 0 #[.slice (some ⟨b, lm * 11, none⟩) (W.length - lm) (cap - lm)]).run Tryz.prog w2 = .ok (.tuple #[]) w3 := hcl
    rw [List.take_of_length_le (by omega)] at hO3
    have k2 : Kept (· = b) w1 w2 := (Kept.refl (· = b) w1).drew.trans hk2 (fun _ _ h => h)
    have HQ2 := Lib.hid (k2.blk (fun e => hgb e) HQ1.out)
    have HQ3 := Lib.hid (hk3.blk (fun e => hgb e) HQ2.out)
    have k3 := k2.trans hk3 (fun _ _ h => h)
    have B03 := Lib.hid (k3.blk (fun e => by have e : w.heap.size = b := e; omega) B01.out)
    have B13 := Lib.hid (k3.blk (fun e => by have e : w0.heap.size = b := e; omega) B1.out)
    have K3 : Hid (Kept (fun x => x = g ∨ x = b) w w3) := Lib.hid ((K1.out.mono (fun _ _ h => h.elim)).trans k3 (fun _ _ e => .inr e))
    have HO3 := Lib.hid hO3
    clear hcp hO2 hk2 hO3 hk3 hcl k2 k3 hlm hel
    go_wp2_with fail
    go_region_law (refine step_copy rfl (.tmp 19) (.tmp 26) 47 47 rfl rfl rfl CP.out ?_)
    all_goals
      have hlm := LM.out
      have hsum : IntKind.i64.wrap ((i : Int) + ((W.length - (i + 1) : Nat) : Int)) = (lm : Int) := by rw [show (i : Int) + ((W.length - (i + 1) : Nat) : Int) = (lm : Int) by omega]; exact IntWalk.i64_in _ (by omega)
      have q2 : w2.cell? ⟨g, 2, none⟩ = some (.slice (some ⟨b, 0, none⟩) W.length cap) := HQ2.out.cell' (i := 2) rfl
      clear hlm hi10 hw1' hcap hic hicn hiL h1L hce hiI
      go_upto_region 4 with fail
      have q2 : w3.cell? ⟨g, 2, none⟩ = some (.slice (some ⟨b, 0, none⟩) W.length cap) := HQ3.out.cell' (i := 2) rfl
      have f2 := HQ3.out.frozen 2
      clear hcl2
      have HQ4 : Hid (Blk (w3.setCell ⟨g, 2, none⟩ (.slice (some ⟨b, 0, none⟩) lm cap)) g 49 #[h0, v, .slice (some ⟨b, 0, none⟩) lm cap, ov]) := Lib.hid (HQ3.out.set_ 2 _)
      have k4 : Kept (fun x => x = g ∨ x = b) w3 (w3.setCell ⟨g, 2, none⟩ (.slice (some ⟨b, 0, none⟩) lm cap)) := (Kept.refl _ _).setCell (fun _ => .inl rfl) _
      have HO4 := Lib.hid (HO3.out.keep (S := fun x => x = g) ((Kept.refl (fun x => x = g) w3).setCell (p := ⟨g, 2, none⟩) (fun _ => rfl) (.slice (some ⟨b, 0, none⟩) lm cap)) (fun e => hgb e.symm))
      have B04 := Lib.hid (k4.blk (fun e => by rcases e with e | e <;> omega) B03.out)
      have B14 := Lib.hid (k4.blk (fun e => by rcases e with e | e <;> omega) B13.out)
      have K4 := Lib.hid (K3.out.trans k4 (fun _ _ h => h))
      go_upto_region 5 with fail
      clear q2 f2 k4
      generalize w3.setCell ⟨g, 2, none⟩ (.slice (some ⟨b, 0, none⟩) lm cap) = w4 at *
      have K5 := Lib.hid (K4.out.setRow (g := w.heap.size) (fun h => by omega) (opA e.v))
      have HO5 := Lib.hid (HO4.out.keep (S := fun x => x = w.heap.size) ((Kept.refl (fun x => x = w.heap.size) w4).setRow (g := w.heap.size) (fun _ => rfl) (opA e.v)) (fun e => by omega))
      have HQ5 := Lib.hid (HQ4.out.row_far (g := w.heap.size) (by omega) (opA e.v))
      go_wp2_with (first
        | (refine wpList_load_row rfl 42 _ rfl w0.heap.size rfl 42 _ (0, 0) _ B14.out Tryz.underlying42 rfl (by rw [opA_size]; exact size_op) ?_)
        | (refine wpList_store_row rfl 42 _ _ rfl w.heap.size (opA e.v) rfl rfl 42 zeroOp B04.out (by rw [opA_size]; exact size_op) (by rw [opA_size]; rfl) (opA_one _) ?_))
      exact bodyPost_ret (Blk.result rfl _ (B04.out.row _) rfl Tryz.underlying42 rfl (by rw [opA_size]; exact size_op)) rfl ⟨rfl, by rw [show W.length - 1 = lm by have := LM.out; omega]; exact HQ5.out, HO5.out, K5.out⟩

  · obtain rfl : i = lm := by omega
    have hw0 : IntKind.i64.wrap (i : Int) = (i : Int) := IntWalk.i64_in _ (by omega)
    have herase : W.take i = W.eraseIdx i := by rw [List.eraseIdx_eq_take_drop_succ, List.drop_of_length_le (by omega), List.append_nil]
    have h1I : (i : Int) + 1 ≤ cap := by omega
    have hmin : Nat.min (W.length - (i + 1)) (W.length - i) = 0 := by rw [show W.length - (i + 1) = 0 by omega]; exact Nat.zero_min _
    by_cases hce1 : cap = i + 1
    · have CP := Lib.hid (run_copy_noneK (P := Tryz.prog) w1.drew 47 47 3 42 (some ⟨b, i * 11, none⟩) (some ⟨b, 0, none⟩) (W.length - i) 1 0 0 Tryz.underlying47 size_op (Nat.zero_min _))
      subst hce1
      obtain ⟨w3, hcl, hO3, hk3⟩ := run_clear_own (P := Tryz.prog) (HO1.out.keep ((Kept.refl (fun _ => False) w1).drew) (fun h => h)) 0 Tryz.underlying47 zero_op rfl zeroOp_one (i := i) (n := W.length - i) (c := 1) (by omega)
      rw [herase] at hO3
      have k2 : Kept (· = b) w1 w1.drew := (Kept.refl (· = b) w1).drew
      have HQ2 := Lib.hid (k2.blk (fun e => hgb e) HQ1.out)
      have HQ3 := Lib.hid (hk3.blk (fun e => hgb e) HQ2.out)
      have k3 := k2.trans hk3 (fun _ _ h => h)
      have B03 := Lib.hid (k3.blk (fun e => by have e : w.heap.size = b := e; omega) B01.out)
      have B13 := Lib.hid (k3.blk (fun e => by have e : w0.heap.size = b := e; omega) B1.out)
      have K3 : Hid (Kept (fun x => x = g ∨ x = b) w w3) := Lib.hid ((K1.out.mono (fun _ _ h => h.elim)).trans k3 (fun _ _ e => .inr e))
      have HO3 := Lib.hid hO3
      have HCL := Lib.hid hcl
      clear hO3 hk3 hcl k2 k3 hlm herase hmin
      go_wp2_with fail
      go_region_law (refine step_copy rfl (.tmp 19) (.tmp 26) 47 47 rfl rfl rfl CP.out ?_)
      all_goals
        generalize w1.drew = w2 at *
        have hcl2 : (Builtin.clear_ #[47] 0 #[.slice (some ⟨b, i * 11, none⟩) (W.length - i) 1]).run Tryz.prog w2 = .ok (.tuple #[]) w3 := HCL.out
        have q2 : w2.cell? ⟨g, 2, none⟩ = some (.slice (some ⟨b, 0, none⟩) W.length (i + 1)) := HQ2.out.cell' (i := 2) rfl
        clear hi10 hw1' hcap hic hicn hiL h1L hce hiI hlast
        go_upto_region 4 with fail
        have q2 : w3.cell? ⟨g, 2, none⟩ = some (.slice (some ⟨b, 0, none⟩) W.length (i + 1)) := HQ3.out.cell' (i := 2) rfl
        have f2 := HQ3.out.frozen 2
        clear hcl2
        have HQ4 : Hid (Blk (w3.setCell ⟨g, 2, none⟩ (.slice (some ⟨b, 0, none⟩) i (i + 1))) g 49 #[h0, v, .slice (some ⟨b, 0, none⟩) i (i + 1), ov]) := Lib.hid (HQ3.out.set_ 2 _)
        have k4 : Kept (fun x => x = g ∨ x = b) w3 (w3.setCell ⟨g, 2, none⟩ (.slice (some ⟨b, 0, none⟩) i (i + 1))) := (Kept.refl _ _).setCell (fun _ => .inl rfl) _
        have HO4 := Lib.hid (HO3.out.keep (S := fun x => x = g) ((Kept.refl (fun x => x = g) w3).setCell (p := ⟨g, 2, none⟩) (fun _ => rfl) (.slice (some ⟨b, 0, none⟩) i (i + 1))) (fun e => hgb e.symm))
        have B04 := Lib.hid (k4.blk (fun e => by rcases e with e | e <;> omega) B03.out)
        have B14 := Lib.hid (k4.blk (fun e => by rcases e with e | e <;> omega) B13.out)
        have K4 := Lib.hid (K3.out.trans k4 (fun _ _ h => h))
        go_upto_region 5 with fail
        clear q2 f2 k4
        generalize w3.setCell ⟨g, 2, none⟩ (.slice (some ⟨b, 0, none⟩) i (i + 1)) = w4 at *
        have K5 := Lib.hid (K4.out.setRow (g := w.heap.size) (fun h => by omega) (opA e.v))
        have HO5 := Lib.hid (HO4.out.keep (S := fun x => x = w.heap.size) ((Kept.refl (fun x => x = w.heap.size) w4).setRow (g := w.heap.size) (fun _ => rfl) (opA e.v)) (fun e => by omega))
        have HQ5 := Lib.hid (HQ4.out.row_far (g := w.heap.size) (by omega) (opA e.v))
        go_wp2_with (first
          | (refine wpList_load_row rfl 42 _ rfl w0.heap.size rfl 42 _ (0, 0) _ B14.out Tryz.underlying42 rfl (by rw [opA_size]; exact size_op) ?_)
          | (refine wpList_store_row rfl 42 _ _ rfl w.heap.size (opA e.v) rfl rfl 42 zeroOp B04.out (by rw [opA_size]; exact size_op) (by rw [opA_size]; rfl) (opA_one _) ?_))
        exact bodyPost_ret (Blk.result rfl _ (B04.out.row _) rfl Tryz.underlying42 rfl (by rw [opA_size]; exact size_op)) rfl ⟨rfl, by rw [show W.length - 1 = i by have := LM.out; omega]; exact HQ5.out, HO5.out, K5.out⟩
    · have CP0 := hmin
      obtain ⟨w3, hcl, hO3, hk3⟩ := run_clear_own (P := Tryz.prog) (HO1.out.keep ((Kept.refl (fun _ => False) w1).drew) (fun h => h)) 0 Tryz.underlying47 zero_op rfl zeroOp_one (i := i) (n := W.length - i) (c := cap - i) (by omega)
      rw [herase] at hO3
      have k2 : Kept (· = b) w1 w1.drew := (Kept.refl (· = b) w1).drew
      have HQ2 := Lib.hid (k2.blk (fun e => hgb e) HQ1.out)
      have HQ3 := Lib.hid (hk3.blk (fun e => hgb e) HQ2.out)
      have k3 := k2.trans hk3 (fun _ _ h => h)
      have B03 := Lib.hid (k3.blk (fun e => by have e : w.heap.size = b := e; omega) B01.out)
      have B13 := Lib.hid (k3.blk (fun e => by have e : w0.heap.size = b := e; omega) B1.out)
      have K3 : Hid (Kept (fun x => x = g ∨ x = b) w w3) := Lib.hid ((K1.out.mono (fun _ _ h => h.elim)).trans k3 (fun _ _ e => .inr e))
      have HO3 := Lib.hid hO3
      have HCL := Lib.hid hcl
      have HMIN := Lib.hid hmin
      clear hO3 hk3 hcl k2 k3 hlm herase hmin
      have CP := Lib.hid (run_copy_noneK (P := Tryz.prog) w1.drew 47 47 3 42 (some ⟨b, i * 11, none⟩) (some ⟨b, (i + 1) * 11, none⟩) (W.length - i) (cap - i) (W.length - (i + 1)) (cap - (i + 1)) Tryz.underlying47 size_op HMIN.out)
      clear CP0
      go_wp2_with fail
      go_region_law (refine step_copy rfl (.tmp 19) (.tmp 26) 47 47 rfl rfl rfl CP.out ?_)
      all_goals
        generalize w1.drew = w2 at *
        have hcl2 : (Builtin.clear_ #[47] 0 #[.slice (some ⟨b, i * 11, none⟩) (W.length - i) (cap - i)]).run Tryz.prog w2 = .ok (.tuple #[]) w3 := HCL.out
        have q2 : w2.cell? ⟨g, 2, none⟩ = some (.slice (some ⟨b, 0, none⟩) W.length cap) := HQ2.out.cell' (i := 2) rfl
        clear hi10 hw1' hcap hic hicn hiL h1L hce hiI hlast
        go_upto_region 4 with fail
        have q2 : w3.cell? ⟨g, 2, none⟩ = some (.slice (some ⟨b, 0, none⟩) W.length cap) := HQ3.out.cell' (i := 2) rfl
        have f2 := HQ3.out.frozen 2
        clear hcl2
        have HQ4 : Hid (Blk (w3.setCell ⟨g, 2, none⟩ (.slice (some ⟨b, 0, none⟩) i cap)) g 49 #[h0, v, .slice (some ⟨b, 0, none⟩) i cap, ov]) := Lib.hid (HQ3.out.set_ 2 _)
        have k4 : Kept (fun x => x = g ∨ x = b) w3 (w3.setCell ⟨g, 2, none⟩ (.slice (some ⟨b, 0, none⟩) i cap)) := (Kept.refl _ _).setCell (fun _ => .inl rfl) _
        have HO4 := Lib.hid (HO3.out.keep (S := fun x => x = g) ((Kept.refl (fun x => x = g) w3).setCell (p := ⟨g, 2, none⟩) (fun _ => rfl) (.slice (some ⟨b, 0, none⟩) i cap)) (fun e => hgb e.symm))
        have B04 := Lib.hid (k4.blk (fun e => by rcases e with e | e <;> omega) B03.out)
        have B14 := Lib.hid (k4.blk (fun e => by rcases e with e | e <;> omega) B13.out)
        have K4 := Lib.hid (K3.out.trans k4 (fun _ _ h => h))
        go_upto_region 5 with fail
        clear q2 f2 k4
        generalize w3.setCell ⟨g, 2, none⟩ (.slice (some ⟨b, 0, none⟩) i cap) = w4 at *
        have K5 := Lib.hid (K4.out.setRow (g := w.heap.size) (fun h => by omega) (opA e.v))
        have HO5 := Lib.hid (HO4.out.keep (S := fun x => x = w.heap.size) ((Kept.refl (fun x => x = w.heap.size) w4).setRow (g := w.heap.size) (fun _ => rfl) (opA e.v)) (fun e => by omega))
        have HQ5 := Lib.hid (HQ4.out.row_far (g := w.heap.size) (by omega) (opA e.v))
        go_wp2_with (first
          | (refine wpList_load_row rfl 42 _ rfl w0.heap.size rfl 42 _ (0, 0) _ B14.out Tryz.underlying42 rfl (by rw [opA_size]; exact size_op) ?_)
          | (refine wpList_store_row rfl 42 _ _ rfl w.heap.size (opA e.v) rfl rfl 42 zeroOp B04.out (by rw [opA_size]; exact size_op) (by rw [opA_size]; rfl) (opA_one _) ?_))
        exact bodyPost_ret (Blk.result rfl _ (B04.out.row _) rfl Tryz.underlying42 rfl (by rw [opA_size]; exact size_op)) rfl ⟨rfl, by rw [show W.length - 1 = i by have := LM.out; omega]; exact HQ5.out, HO5.out, K5.out⟩
end Go.Proofs.YtaaeomapbigfgaaGreat
namespace Go.Proofs.YtaaeomapbigfgaaGreat
open Go.RowKit
/-- the row went on in its own block, or a new block was made and nothing else has changed -/
def Grow1 (w w' : World) (v v' : Value) : Prop := (v'.ownBlock = v.ownBlock ∧ Kept (fun b => v.ownBlock = some b) w w') ∨ (v'.ownBlock = some w.heap.size ∧ Kept (fun _ => False) w w')
theorem run_append_keeps {P : Program} {α : Type} (E : Enc α) {w : World} (t ty e : TypeId) (base : Nat) (z : Value) (bytes : Nat) (ht : P.underlying t = some (.slice e))
    (hinfo : (P.info? e).map (fun i => (i.zero, i.size, i.bytes)) = some (some z, E.k, bytes)) (hzs : z.cells.size = E.k) (hb4 : bytes ≤ 4096) {v : Value} {D : List α} {x : α}
    (hown : w.ownsRow base e E.k v D.length (E.flat D)) {ad : Addr} {c : Nat} (hL : SlAt E w (.slice (some ad) 1 c) [x]) (h63 : D.length ≤ 1000000) (hbase : base ≤ w.heap.size) :
    ∃ v' w', (Builtin.append_ #[t, t] ty #[v, .slice (some ad) 1 c]).run P w = .ok v' w' ∧ w'.ownsRow base e E.k v' (D.length + 1) (E.flat (D ++ [x])) ∧ Grow1 w w' v v' := by
  obtain ⟨i, hi, hz, hsize, hby⟩ := info_parts hinfo
  obtain ⟨_, hn⟩ := hL.at_
  have hbb : (D.length + 1) * bytes ≤ 140737488355328 := by
    have : (D.length + 1) * bytes ≤ 1000001 * 4096 := Nat.mul_le_mul (by omega) hb4
    omega
  have hm1 : D.length + 1 ≤ maxLen := by unfold maxLen; omega
  obtain ⟨v', w', hr, h2, h3, _, h5⟩ := run_append_own_at (P := P) w base t ty e i z E.k bytes ht hi hz hsize hby hzs E.pos v D.length (E.flat D) hown ad 1 c (E.flat [x]) (E.flat_len [x]) hn (E.flat_one_cell [x]) hm1 hbb hbase
  refine ⟨v', w', hr, by rw [E.flat_append]; exact h2, ?_⟩
  rcases h5 with h5 | h5
  · exact .inl ⟨h5, Kept.grown (Kept.refl _ _) h3 (fun k e _ => e)⟩
  · right
    refine ⟨h5, ?_⟩
    have hs : Src P i.size t (.slice (some ad) 1 c) 1 (E.flat [x]) w := by
      rw [hsize]
      exact Src.ofSlice w ht ad 1 c (E.flat [x]) (E.flat_len [x]) hn (E.flat_one_cell [x])
    have hcap : ∀ old, old < D.length + 1 → Builtin.nextslicecap (D.length + 1) old * i.bytes ≤ 281474976710656 := fun old h => by
      have h1 := nextslicecap_le h
      rw [hby]
      have : Builtin.nextslicecap (D.length + 1) old * bytes ≤ 4000000 * 4096 := Nat.mul_le_mul (by omega) hb4
      omega
    rcases hown.2 with ⟨rfl, hxs⟩ | ⟨g, cap, cur, rfl, hbg, hg, hnc, hcm, hcs, htake⟩
    · have hD : D.length = 0 := by assumption
      rw [hD] at hcap
      have hrun := run_append_grow_src (P := P) (w := w) t t ty e i z ht hi hz none 0 0 [] (run_firstCells_none _ _ _ _ _) (.slice (some ad) 1 c) 1 (E.flat [x]) hs (by omega) (by omega) (hcap 0 (by omega))
      rw [hr] at hrun
      injection hrun with e1 e2
      rw [e2]
      exact ((Kept.refl _ _).drew).alloc _
    · by_cases hroom : D.length + 1 ≤ cap
      · exfalso
        have hblk : Blk w g e cur := hg
        have hsz : (D.length + 1) * E.k ≤ cap * E.k := Nat.mul_le_mul_right _ hroom
        have hl1 : (E.flat [x]).length = E.k := by rw [E.flat_len]; simp
        have hrun := run_append_room_src (P := P) (w := w) t t ty e i ht hi g 0 D.length cap (.slice (some ad) 1 c) 1 (E.flat [x]) hs hroom (fun j hj => by
          rw [hblk.cell, hsize]
          rw [hl1] at hj
          rw [Nat.add_mul] at hsz
          rw [Array.getElem?_eq_getElem (show 0 + D.length * E.k + j < cur.size by omega)]
          rfl) (fun j _ => hblk.frozen _)
        rw [hr] at hrun
        injection hrun with e1 e2
        rw [e1] at h5
        have hlt := hblk.lt
        have hgs : g = w.heap.size := by simpa [Value.ownBlock] using h5
        omega
      · have hold : (Builtin.firstCells i.size D.length (.slice (some ⟨g, 0, none⟩) D.length cap)).run P w.drew = .ok (E.flat D).toArray w.drew := by
          rw [hsize]
          refine run_firstCells_some _ E.k D.length ⟨g, 0, none⟩ D.length cap (E.flat D) hown.1 (fun j u hu => ?_)
          rw [Addr.add_lit, Nat.zero_add]
          show w.cell? ⟨g, j, none⟩ = some u
          have hblk : Blk w g e cur := hg
          rw [hblk.cell]
          rw [← htake, List.getElem?_take] at hu
          split at hu
          · simpa using hu
          · cases hu
        have hrun := run_append_grow_src (P := P) (w := w) t t ty e i z ht hi hz (some ⟨g, 0, none⟩) D.length cap (E.flat D) hold (.slice (some ad) 1 c) 1 (E.flat [x]) hs (by omega) (by omega) (hcap cap (by omega))
        rw [hr] at hrun
        injection hrun with e1 e2
        rw [e2]
        exact ((Kept.refl _ _).drew).alloc _
theorem wpList_append_keeps {P : Program} {α : Type} (E : Enc α) {w : World} {ops : Array Oper} {rest : List Oper} {o : Oper} {a : Act} {Q : Exit → Act → World → Prop} (hgd : o.guard = none) (s y : Operand) (t : TypeId)
    (ho : o.op = .call { callee := .builtin .append, args := #[s, y], argTypes := #[t, t] }) (base : Nat) (e : TypeId) (z : Value) (bytes : Nat) (ht : P.underlying t = some (.slice e))
    (hinfo : (P.info? e).map (fun i => (i.zero, i.size, i.bytes)) = some (some z, E.k, bytes)) (hzs : z.cells.size = E.k) (hb4 : bytes ≤ 4096) {v : Value} {D : List α} {x : α} {ad : Addr} {c : Nat} (hs : a.eval s = v) (hx : a.eval y = .slice (some ad) 1 c)
    (hown : w.ownsRow base e E.k v D.length (E.flat D)) (hL : SlAt E w (.slice (some ad) 1 c) [x]) (h63 : D.length ≤ 1000000) (hbase : base ≤ w.heap.size)
    (h : ∀ v' w', w'.ownsRow base e E.k v' (D.length + 1) (E.flat (D ++ [x])) → Grow1 w w' v v' → wpList P ops Q rest (a.put o.dst v') w') : wpList P ops Q (o :: rest) a w := by
  refine wpList_plain hgd fun K hK => ?_
  obtain ⟨v', w', hr, h2, h3⟩ := run_append_keeps (P := P) E t o.type e base z bytes ht hinfo hzs hb4 hown hL h63 hbase
  unfold Oper.wp execOp
  simp only [ho, resolve, invoke, builtin, Sem.run_bind, Sem.run_pure, Result.andThen_ok, List.map_toArray, List.map_cons, List.map_nil, hs, hx, hr]
  exact hK _ _ (h v' w' h2 h3)
end Go.Proofs.YtaaeomapbigfgaaGreat
namespace Go.Proofs.YtaaeomapbigfgaaGreat
open Go.RowKit
section
variable {P : Program} {α : Type} {E : Enc α} {w w' : World} {t : TypeId} {v : Value} {O : List α}
variable (E) in
/-- v is O, in a row of one's own behind what was cut off (or of no room at all) -/
def OutAt (w : World) (t : TypeId) (v : Value) (O : List α) : Prop :=
  (∃ a, v = .slice a 0 0 ∧ O = []) ∨ ∃ g cap R, v = .slice (some ⟨g, R.length * E.k, none⟩) O.length (cap - R.length) ∧ R.length < cap ∧ OwnAt E w t g cap (R ++ O)
theorem OutAt.nil (w : World) (t : TypeId) : OutAt E w t (.slice none 0 0) ([] : List α) := .inl ⟨none, rfl, rfl⟩
theorem OutAt.len (h : OutAt E w t v O) : ∃ a c, v = .slice a O.length c := by
  rcases h with ⟨a, rfl, rfl⟩ | ⟨g, cap, R, rfl, _⟩
  · exact ⟨_, _, rfl⟩
  · exact ⟨_, _, rfl⟩
theorem OutAt.keep {S : Nat → Prop} (h : OutAt E w t v O) (hk : Kept S w w') (hs : ∀ b, v.ownBlock = some b → (∃ cs, Blk w b t cs) → ¬ S b) : OutAt E w' t v O := by
  rcases h with h | ⟨g, cap, R, rfl, h1, h2⟩
  · exact .inl h
  · refine .inr ⟨g, cap, R, rfl, h1, h2.keep hk (hs g rfl ?_)⟩
    obtain ⟨cs, hc, _⟩ := h2
    exact ⟨cs, hc⟩
theorem OutAt.of_own {n base : Nat} (h : w.ownsRow base t E.k v n (E.flat O)) : OutAt E w t v O := by
  obtain ⟨hl, ⟨rfl, rfl⟩ | ⟨g, cap, rfl, _, hO⟩⟩ := own_of (E := E) h
  · exact .inl ⟨_, rfl, rfl⟩
  · by_cases hc : cap = 0
    · have := hO.le
      have h0 : O.length = 0 := by omega
      obtain rfl : O = [] := List.eq_nil_of_length_eq_zero h0
      subst hc
      subst hl
      exact .inl ⟨_, rfl, rfl⟩
    · refine .inr ⟨g, cap, [], ?_, by simp; omega, by simpa using hO⟩
      subst hl
      simp
/-- the frame of an append -/
def OutGrow (w w' : World) (t : TypeId) (v v' : Value) : Prop := Kept (fun b => v.ownBlock = some b ∧ ∃ cs, Blk w b t cs) w w' ∧ (v'.ownBlock = v.ownBlock ∨ v'.ownBlock = some w.heap.size)
theorem run_append_out (t ty e : TypeId) {z : Value} {bytes : Nat} (ht : P.underlying t = some (.slice e)) (hinfo : (P.info? e).map (fun i => (i.zero, i.size, i.bytes)) = some (some z, E.k, bytes)) (hzs : z.cells.size = E.k) (hb4 : bytes ≤ 4096)
    {x : α} {ad : Addr} {c : Nat} (h : OutAt E w e v O) (hL : SlAt E w (.slice (some ad) 1 c) [x]) (h63 : O.length ≤ 1000000) :
    ∃ v' w', (Builtin.append_ #[t, t] ty #[v, .slice (some ad) 1 c]).run P w = .ok v' w' ∧ OutAt E w' e v' (O ++ [x]) ∧ OutGrow w w' e v v' := by
  obtain ⟨i, hi, hz, hsize, hby⟩ := info_parts hinfo
  obtain ⟨_, hn⟩ := hL.at_
  have hs : Src P i.size t (.slice (some ad) 1 c) 1 (E.flat [x]) w := by
    rw [hsize]
    exact Src.ofSlice w ht ad 1 c (E.flat [x]) (E.flat_len [x]) hn (E.flat_one_cell [x])
  have hcap : ∀ old, old < O.length + 1 → Builtin.nextslicecap (O.length + 1) old * i.bytes ≤ 281474976710656 := fun old h => by
    have h1 := nextslicecap_le h
    rw [hby]
    have : Builtin.nextslicecap (O.length + 1) old * bytes ≤ 4000000 * 4096 := Nat.mul_le_mul (by omega) hb4
    omega
  have hl1 : (E.flat [x]).length = E.k := by rw [E.flat_len]; simp
  -- the arm that grows
  have grown : ∀ (a : Option Addr) (old : Nat), old < O.length + 1 → (Builtin.firstCells i.size O.length (.slice a O.length old)).run P w.drew = .ok (E.flat O).toArray w.drew → v = .slice a O.length old →
      ∃ v' w', (Builtin.append_ #[t, t] ty #[v, .slice (some ad) 1 c]).run P w = .ok v' w' ∧ OutAt E w' e v' (O ++ [x]) ∧ OutGrow w w' e v v' := by
    intro a old hold hf hv
    have hrun := run_append_grow_src (P := P) (w := w) t t ty e i z ht hi hz a O.length old (E.flat O) hf (.slice (some ad) 1 c) 1 (E.flat [x]) hs hold (by omega) (hcap old hold)
    have hge := grownCap_ge w (O.length + 1) old e
    have hcm := grownCap_le_maxLen w (O.length + 1) old e (by unfold maxLen; omega)
    refine ⟨_, _, hv ▸ hrun, .inr ⟨w.heap.size, grownCap w (O.length + 1) old e, [], ?_, by simp; omega, ?_⟩, ?_, .inr rfl⟩
    · simp
    · refine ⟨_, heap_alloc_new w.drew _, ?_, by simpa using hge, hcm, ?_⟩
      · simp only [Array.size_append, List.size_toArray, size_zeroCells, hzs, E.flat_len, List.length_append, ← Nat.add_mul]
        congr 1
        simp
        omega
      · refine Enc.Row.of_flat ?_
        rw [List.nil_append]
        simp only [Array.toList_append, E.flat_append]
        rw [List.take_append_of_le_length (by simp [E.flat_len, Nat.add_mul])]
        exact List.take_of_length_le (by simp [E.flat_len, Nat.add_mul])
    · exact ((Kept.refl _ _).drew).alloc _
  rcases h with ⟨a, rfl, rfl⟩ | ⟨g, cap, R, rfl, hR, hO⟩
  · refine grown a 0 (by simp) ?_ rfl
    have hl : ∀ (y : Addr), (loadCells y 0).run P w.drew = .ok #[] w.drew := fun y => by simpa using run_loadCells_list (P := P) w.drew y [] (by simp)
    cases a with
    | none => exact run_firstCells_none _ _ _ _ _
    | some y => exact run_firstCells_some _ _ 0 y 0 0 [] (by simp) (fun j u hu => by simp at hu)
  · obtain ⟨cs, h1, h2, h3, h4, h5⟩ := hO
    rw [List.length_append] at h3
    by_cases hroom : O.length + 1 ≤ cap - R.length
    · have hsz : (R.length + O.length + 1) * E.k ≤ cap * E.k := Nat.mul_le_mul_right _ (by omega)
      rw [Nat.succ_mul, Nat.add_mul] at hsz
      have hrun := run_append_room_src (P := P) (w := w) t t ty e i ht hi g (R.length * E.k) O.length (cap - R.length) (.slice (some ad) 1 c) 1 (E.flat [x]) hs hroom (fun j hj => by
        rw [h1.cell, hsize]
        rw [hl1] at hj
        rw [Array.getElem?_eq_getElem (show R.length * E.k + O.length * E.k + j < cs.size by omega)]
        rfl) (fun j _ => h1.frozen _)
      obtain ⟨cs', g1, g2, g3⟩ := Blk.setCells (E.flat [x]) (R.length * E.k + O.length * i.size) h1
      refine ⟨_, _, hrun, .inr ⟨g, cap, R, by simp, hR, cs', g1, by omega, by simp; omega, h4, ?_⟩, (Kept.setCells g _ _ (Kept.refl _ _)).mono (fun b _ e => by rw [e]; exact ⟨rfl, _, h1⟩), .inl rfl⟩
      intro m y hy j u hu
      have hj : j < E.k := by rw [← E.len y]; exact (List.getElem?_eq_some_iff.1 hu).1
      rw [← List.append_assoc] at hy
      by_cases hm : m < R.length + O.length
      · rw [List.getElem?_append_left (by simpa using hm)] at hy
        have hmk := Nat.mul_le_mul_right E.k (show m + 1 ≤ R.length + O.length by omega)
        rw [Nat.succ_mul, Nat.add_mul] at hmk
        rw [g3 _ (by rw [hsize]; omega)]
        exact h5 m y hy j u hu
      · have hlt := (List.getElem?_eq_some_iff.1 hy).1
        simp at hlt
        obtain rfl : m = R.length + O.length := by omega
        rw [List.getElem?_append_right (by simp)] at hy
        simp at hy
        subst hy
        rw [← g1.cell, Nat.add_mul, hsize, ← E.flat_one] at *
        rw [World.cell?_setCells_in g (E.flat [x]) (R.length * E.k + O.length * E.k) w (fun j hj => by
          rw [h1.cell, Array.getElem?_eq_getElem (show R.length * E.k + O.length * E.k + j < cs.size by omega)]
          rfl) j (by omega)]
        exact (List.getElem?_eq_getElem _).symm.trans hu
    · refine grown (some ⟨g, R.length * E.k, none⟩) (cap - R.length) (by omega) ?_ rfl
      rw [hsize]
      refine run_firstCells_some _ E.k O.length ⟨g, R.length * E.k, none⟩ O.length (cap - R.length) (E.flat O) (E.flat_len O) (fun j u hu => ?_)
      rw [Addr.add_lit]
      show w.cell? ⟨g, R.length * E.k + j, none⟩ = some u
      obtain ⟨i', j', y, hj, hy, hu'⟩ := E.flat_inv hu
      rw [h1.cell, hj, ← Nat.add_assoc, ← Nat.add_mul]
      exact h5 (R.length + i') y (by rw [List.getElem?_append_right (by omega)]; simpa using hy) j' u hu'
/-- the append of one to a row of one's own, as a step of a drawn region -/
theorem step_append_row {ops : Array Oper} {o : Oper} {a : Act} {K : Act → World → Prop} {Q : Exit → Act → World → Prop} {G : Prop} (hgd : o.guard = none) (s y : Operand) (t : TypeId)
    (hop : o.op = Op.call { callee := Callee.builtin Builtin.append, args := #[s, y], argTypes := #[t, t] }) (base : Nat) (e : TypeId) (z : Value) (bytes : Nat) (ht : P.underlying t = some (.slice e))
    (hinfo : (P.info? e).map (fun i => (i.zero, i.size, i.bytes)) = some (some z, E.k, bytes)) (hzs : z.cells.size = E.k) (hb4 : bytes ≤ 4096) {D : List α} {x : α} {ad : Addr} {c : Nat} (hs : a.eval s = v) (hx : a.eval y = .slice (some ad) 1 c)
    (hown : w.ownsRow base e E.k v D.length (E.flat D)) (hL : SlAt E w (.slice (some ad) 1 c) [x]) (h63 : D.length ≤ 1000000) (hbase : base ≤ w.heap.size)
    (hK : ∀ v' w', w'.ownsRow base e E.k v' (D.length + 1) (E.flat (D ++ [x])) → Grow1 w w' v v' → K (a.put o.dst v') w') : if Region.wanted o (yielded ops a.tmps) = true then Oper.wp P o a w K Q else G := by
  have hw : Region.wanted o (yielded ops a.tmps) = true := by simp [Region.wanted, hgd]
  rw [if_pos hw]
  obtain ⟨v', w', hr, h2, h3⟩ := run_append_keeps (P := P) E t o.type e base z bytes ht hinfo hzs hb4 hown hL h63 hbase
  unfold Oper.wp
  simp [execOp, hop, resolve, invoke, builtin, hs, hx, hr, Result.andThen]
  exact hK v' w' h2 h3
/-- the append of one, as a step of a drawn region -/
theorem step_append_out {ops : Array Oper} {o : Oper} {a : Act} {K : Act → World → Prop} {Q : Exit → Act → World → Prop} {F : Prop} (hgd : o.guard = none) (s y : Operand) (t e : TypeId)
    (hop : o.op = Op.call { callee := Callee.builtin Builtin.append, args := #[s, y], argTypes := #[t, t] }) {z : Value} {bytes : Nat} (ht : P.underlying t = some (.slice e)) (hinfo : (P.info? e).map (fun i => (i.zero, i.size, i.bytes)) = some (some z, E.k, bytes))
    (hzs : z.cells.size = E.k) (hb4 : bytes ≤ 4096) {x : α} {ad : Addr} {c : Nat} (hs : a.eval s = v) (hx : a.eval y = .slice (some ad) 1 c) (h : OutAt E w e v O) (hL : SlAt E w (.slice (some ad) 1 c) [x]) (h63 : O.length ≤ 1000000)
    (hK : ∀ v' w', OutAt E w' e v' (O ++ [x]) → OutGrow w w' e v v' → K (a.put o.dst v') w') : if Region.wanted o (yielded ops a.tmps) = true then Oper.wp P o a w K Q else F := by
  have hw : Region.wanted o (yielded ops a.tmps) = true := by simp [Region.wanted, hgd]
  rw [if_pos hw]
  obtain ⟨v', w', hr, h2, h3⟩ := run_append_out (P := P) t o.type e ht hinfo hzs hb4 h hL h63
  unfold Oper.wp
  simp [execOp, hop, resolve, invoke, builtin, hs, hx, hr, Result.andThen]
  exact hK v' w' h2 h3
end
end Go.Proofs.YtaaeomapbigfgaaGreat
