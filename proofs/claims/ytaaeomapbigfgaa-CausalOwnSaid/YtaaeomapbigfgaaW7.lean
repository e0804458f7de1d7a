/- vector.with and Covers. -/
import Derived.Test.YtaaeomapbigfgaaW6
import Derived.Laws.EntriesVeiled
import Derived.Deep.CutBlock
import Derived.RegionCalls
import Derived.Laws.StructEq
namespace Go.Proofs.Ytaaeomapbigfgaa
open Go.RowKit Go.Proofs.Ytaaeomapbigfgaa.St
/-- the row of 17 zeros -/
abbrev zero17 : Array Value := #[.int .i64 0, .int .i64 0, .int .i64 0, .int .i64 0, .int .i64 0, .int .i64 0, .int .i64 0, .int .i64 0, .int .i64 0, .int .i64 0, .int .i64 0, .int .i64 0, .int .i64 0, .int .i64 0, .int .i64 0, .int .i64 0, .int .i64 0]
theorem max_next (A B : List Dot) (n : Nat) : (cells fun i => if i = n then maxV A B n else if i < n then maxV A B i else says A i) = cells fun i => if i < n + 1 then maxV A B i else says A i :=
  cells_congr fun i _ => by
    by_cases h : i = n
    · subst h; rw [if_pos rfl, if_pos (Nat.lt_succ_self i)]
    · rw [if_neg h]
      by_cases h2 : i < n
      · rw [if_pos h2, if_pos (by omega)]
      · rw [if_neg h2, if_neg (by omega)]
set_option maxRecDepth 100000 in
set_option maxHeartbeats 4000000 in
theorem with_grew {w : World} {va vb : Value} {A B : List Dot} (ha : SlAt dotE w va A) (hb : SlAt dotE w vb B) (hla : A.length ≤ 1000000000) (hlb : B.length ≤ 1000000000) :
    Calls Try.prog 53 #[va, vb, .func (.func 54) #[] #[]] w fun e w' => e = .returned (.agg (cells (maxV A B))) ∧ Grew w w' := by
  have k0 : Grew w (w.alloc (.cells zero17 104)) := (Grew.refl _).alloc _
  have B0 := Lib.hid (Blk.new w 104 zero17)
  have s0 : (w.alloc (.cells zero17 104)).heap.size = w.heap.size + 1 := by simp
  have hoa := of_grew (ha.kept k0.kept) hla
  have HB := Lib.hid (hb.kept k0.kept)
  clear ha hb
  go_enter Try.func53, Try.ntmps53
  go_upto_region 1 with (fail)
  generalize w.alloc (.cells zero17 104) = w0 at *
  go_wp2_with (first
      | (refine wpList_store_row rfl 104 _ _ rfl (w2.heap.size + 1) (cells (says B)) rfl rfl 104 zero17 (P2.out.row_far (by omega) _) (by rw [cells_size]; kernel_rfl) (by rw [cells_size]; rfl) (cells_one _) ?_)
      | (refine wpList_store_row rfl 104 _ _ rfl w2.heap.size (cells (says A)) rfl rfl 104 zero17 P1.out (by rw [cells_size]; kernel_rfl) (by rw [cells_size]; rfl) (cells_one _) ?_)
      | (go_at_call 52; refine (of_grew (HB.out.kept hk1.kept) hlb).mono ?_; rintro e w2 ⟨rfl, hk2⟩; have P1 := Lib.hid ((Blk.new w2 104 zero17).alloc (.cells zero17 104)); have P2 : Hid (Blk ((w2.alloc (.cells zero17 104)).alloc (.cells zero17 104)) (w2.heap.size + 1) 104 zero17) := Lib.hid (by have := Blk.new (w2.alloc (.cells zero17 104)) 104 zero17; simpa using this))
      | (go_at_call 52; refine hoa.mono ?_; rintro e w1 ⟨rfl, hk1⟩))
  have k13 : Grew w0 w2 := hk1.trans hk2
  have s2 := k13.size
  have k3 : Grew w (((w2.alloc (.cells zero17 104)).alloc (.cells zero17 104)).setRow w2.heap.size (cells (says A)) |>.setRow (w2.heap.size + 1) (cells (says B))) :=
    ((((k0.trans k13).alloc _).alloc _).setRow (by omega) _).setRow (by omega) _
  have Q0 := (((k13.kept.blk (fun h => h) B0.out).alloc (.cells zero17 104)).alloc (.cells zero17 104)).row_far (g := w2.heap.size) (by omega) (cells (says A)) |>.row_far (g := w2.heap.size + 1) (by omega) (cells (says B))
  have Q1 := (P1.out.row (cells (says A))).row_far (g := w2.heap.size + 1) (by omega) (cells (says B))
  have Q2 := (P2.out.row_far (g := w2.heap.size) (by omega) (cells (says A))).row (cells (says B))
  have hne : w.heap.size < w2.heap.size := by omega
  generalize (((w2.alloc (.cells zero17 104)).alloc (.cells zero17 104)).setRow w2.heap.size (cells (says A))).setRow (w2.heap.size + 1) (cells (says B)) = w3 at *
  have K3 := Lib.hid k3
  have R0 := Lib.hid Q0
  have R1 := Lib.hid Q1
  have R2 := Lib.hid Q2
  clear hoa HB P1 P2 B0 k0 hk1 hk2 k13 s2 s0 k3 Q0 Q1 Q2
  go_loopw [14] (fun iv wr => ∃ n : Nat, iv = .int .i64 n ∧ n ≤ 17 ∧ Blk wr w2.heap.size 104 (cells fun i => if i < n then maxV A B i else says A i) ∧ Blk wr (w2.heap.size + 1) 104 (cells (says B)) ∧ Blk wr w.heap.size 104 zero17 ∧ Grew w wr) (fun iv _ => 17 - (intOf iv).toNat)
  case atStart => exact ⟨0, rfl, by decide, R1.out, R2.out, R0.out, K3.out⟩
  case round =>
    clear K3 R0 R1 R2
    obtain ⟨n, rfl, hn, h1, h2, h0, hk⟩ := hrel
    have hn0 : (0 : Int) ≤ n := by omega
    by_cases hlt : n < 17
    case neg =>
      obtain rfl : n = 17 := by omega
      have e : cells (fun i => if i < 17 then maxV A B i else says A i) = cells (maxV A B) := cells_congr fun i hi => if_pos hi
      rw [e] at h1
      have H1 := Lib.hid h1
      have H0 := Lib.hid h0
      have HK := Lib.hid (hk.setRow (g := w.heap.size) (Nat.le_refl _) (cells (maxV A B)))
      clear h1 h2 h0 hk e
      go_wp2_with (first
        | (refine wpList_load_row rfl 104 _ rfl w2.heap.size rfl 104 _ (0, 0) _ H1.out Try.underlying104 rfl (by rw [cells_size]; kernel_rfl) ?_)
        | (refine wpList_store_row rfl 104 _ _ rfl w.heap.size (cells (maxV A B)) rfl rfl 104 zero17 H0.out (by rw [cells_size]; kernel_rfl) (by rw [cells_size]; rfl) (cells_one _) ?_))
      exact bodyPost_ret (Blk.result rfl _ (H0.out.row _) rfl Try.underlying104 rfl (by rw [cells_size]; kernel_rfl)) rfl ⟨rfl, HK.out⟩
    case pos =>
      have hI : (n : Int) < 17 := by omega
      have c1 : wr.cell? ⟨w2.heap.size, n, none⟩ = some (.int .i64 (says A n)) := by
        have := h1.cell' (cells_get _ hlt)
        rwa [if_neg (Nat.lt_irrefl n)] at this
      have c2 := h2.cell' (cells_get (says B) hlt)
      have f1 := h1.frozen n
      have hgr := greater_any (says A n) (says B n)
      have H1 := Lib.hid h1
      have H2 := Lib.hid h2
      have H0 := Lib.hid h0
      have HK := Lib.hid hk
      have MX : (if says A n < says B n then says B n else says A n) = maxV A B n := rfl
      rw [MX] at hgr
      generalize hmx : maxV A B n = mx at *
      have MX2 := Lib.hid hmx
      clear hmx
      clear h1 h2 h0 hk
      go_wp2_with fail
      go_region_calls
      all_goals
        go_wp2_with fail
        go_roundw
        focus
          refine ⟨n + 1, by go_num, by omega, ?_, ((H2.out.far (by show w2.heap.size + 1 ≠ w2.heap.size; omega) _).drewN 1), ((H0.out.far (by show w.heap.size ≠ w2.heap.size; omega) _).drewN 1), (HK.out.setCell (by show w.heap.size ≤ w2.heap.size; omega) _).drewN 1⟩
          have := (H1.out.set_ n (.int .i64 mx)).drewN 1
          rw [cells_set, ← MX2.out, max_next] at this
          rw [← MX2.out]
          exact this
        focus
          simp [intOf] <;> omega
theorem with_any {w : World} {va vb : Value} {A B : List Dot} (ha : SlAt dotE w va A) (hb : SlAt dotE w vb B) (hla : A.length ≤ 1000000000) (hlb : B.length ≤ 1000000000) :
    Calls Try.prog 53 #[va, vb, .func (.func 54) #[] #[]] w fun e w' => e = .returned (.agg (cells (maxV A B))) ∧ Kept (fun _ => False) w w' := (with_grew ha hb hla hlb).mono fun _ _ ⟨he, hg⟩ => ⟨he, hg.kept⟩
theorem run_part (f : Nat → Int) {i : Nat} (h : i < 17) (w : World) : (part 3 (cells f) i).run Try.prog w = .ok (.int .i64 (f i)) w := by
  have h1 := cells_get f h
  simp [part, isAgg, run_underlying Try.underlying3, h1]
theorem run_eq_loop (f g : Nat → Int) (w : World) : ∀ l : List Nat, (∀ i ∈ l, i < 17) →
    Sem.run Try.prog (forIn l ((none, ()) : Option Bool × Unit) fun i _ => do
      let a ← part 3 (cells f) i
      let b ← part 3 (cells g) i
      let c ← Op.equalIn 9999 3 a b
      if c = false then pure (ForInStep.done (some false, ())) else pure (ForInStep.yield (none, ()))) w = .ok (if l.all fun i => f i == g i then (none, ()) else (some false, ())) w
  | [], _ => by simp
  | i :: l, h => by
    have hi := h i (List.mem_cons_self ..)
    have ih := run_eq_loop f g w l (fun j hj => h j (List.mem_cons_of_mem _ hj))
    rw [List.forIn_cons]
    have he : ∀ a b : Int, (Op.equalIn 9999 3 (.int .i64 a) (.int .i64 b)).run Try.prog w = .ok (a == b) w := fun a b => run_equalIn_int (P := Try.prog) w 9998 _ .i64 _ a b Try.underlying3
    by_cases hfg : f i = g i
    · simp [Sem.run_bind, run_part f hi, run_part g hi, he, hfg, ih]
    · simp [Sem.run_bind, run_part f hi, run_part g hi, he, hfg]
theorem eq_cells (f g : Nat → Int) (w : World) : (binOp .eql 104 (.agg (cells f)) (.agg (cells g))).run Try.prog w = .ok (.bool ((List.range' 0 17).all fun i => f i == g i)) w := by
  rw [run_eql_struct]
  unfold Op.equalIn
  simp [run_underlying Try.underlying104]
  rw [run_eq_loop f g w _ (fun i hi => by simpa using hi)]
  by_cases h : ((List.range' 0 17).all fun i => f i == g i) = true
  · simp [h]
  · simp [h]
theorem covers_eq (A B : List Dot) : ((List.range' 0 17).all fun i => maxV A B i == says A i) = decide (coversV A B) := by
  rw [Bool.eq_iff_iff, decide_eq_true_iff, List.all_eq_true]
  unfold coversV maxV
  constructor
  · intro h i hi
    have := h i (by simpa using hi)
    simp only [beq_iff_eq] at this
    split at this <;> omega
  · intro h i hi
    have := h i (by simpa using hi)
    rw [if_neg (by omega)]
    simp
set_option maxRecDepth 100000 in
set_option maxHeartbeats 4000000 in
theorem covers_grew {w : World} {va vb : Value} {A B : List Dot} (ha : SlAt dotE w va A) (hb : SlAt dotE w vb B) (hla : A.length ≤ 1000000000) (hlb : B.length ≤ 1000000000) :
    Calls Try.prog 46 #[va, vb] w fun e w' => e = .returned (.bool (decide (coversV A B))) ∧ Grew w w' := by
  have hw := with_grew ha hb hla hlb
  have heq := eq_cells (maxV A B) (says A)
  rw [covers_eq] at heq
  go_enter Try.func46, Try.ntmps46
  go_wp2_with (first
    | (go_at_call 52; refine (of_grew (ha.kept hk1.kept) hla).mono ?_; rintro e w2 ⟨rfl, hk2⟩)
    | (go_at_call 53; refine hw.mono ?_; rintro e w1 ⟨rfl, hk1⟩))
  go_ret
  exact ⟨rfl, hk1.trans hk2⟩
theorem covers_any {w : World} {va vb : Value} {A B : List Dot} (ha : SlAt dotE w va A) (hb : SlAt dotE w vb B) (hla : A.length ≤ 1000000000) (hlb : B.length ≤ 1000000000) :
    Calls Try.prog 46 #[va, vb] w fun e w' => e = .returned (.bool (decide (coversV A B))) ∧ Kept (fun _ => False) w w' := (covers_grew ha hb hla hlb).mono fun _ _ ⟨he, hg⟩ => ⟨he, hg.kept⟩
end Go.Proofs.Ytaaeomapbigfgaa
