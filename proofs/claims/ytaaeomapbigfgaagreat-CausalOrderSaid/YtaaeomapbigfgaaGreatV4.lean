/- append of a row that reads as a list to an owned row. (vector.says).vector: the vector of a row. vector.Get, Has, Sum; with and Covers. vector.with and Covers. -/
import Derived.Test.YtaaeomapbigfgaaGreatV3
import Derived.Laws.AppendOwnNone
import Derived.Deep.RegionHeld3
import Derived.Laws.EntriesVeiled
import Derived.Deep.CutBlock
import Derived.RegionCalls
import Derived.Laws.StructEq
namespace Go.Proofs.YtaaeomapbigfgaaGreat
open Go.RowKit
theorem wpList_append_row {P : Program} {α : Type} (E : Enc α) {w : World} {ops : Array Oper} {rest : List Oper} {o : Oper} {a : Act} {Q : Exit → Act → World → Prop} (hgd : o.guard = none) (s x : Operand) (t : TypeId)
    (ho : o.op = .call { callee := .builtin .append, args := #[s, x], argTypes := #[t, t] }) (base : Nat) (e : TypeId) (z : Value) (bytes : Nat) (ht : P.underlying t = some (.slice e))
    (hinfo : (P.info? e).map (fun i => (i.zero, i.size, i.bytes)) = some (some z, E.k, bytes)) (hzs : z.cells.size = E.k) {v vs : Value} {D L : List α} (hs : a.eval s = v) (hx : a.eval x = vs)
    (hown : w.ownsRow base e E.k v D.length (E.flat D)) (hL : SlAt E w vs L) (h63 : D.length + L.length ≤ maxLen) (hbytes : (D.length + L.length) * bytes ≤ 140737488355328) (hbase : base ≤ w.heap.size)
    (h : ∀ v' w', w'.ownsRow base e E.k v' (D ++ L).length (E.flat (D ++ L)) → Kept (fun b => v.ownBlock = some b) w w' → wpList P ops Q rest (a.put o.dst v') w') : wpList P ops Q (o :: rest) a w := by
  obtain ⟨i0, hi, hz0, hz1, hz2⟩ := info_parts hinfo
  obtain ⟨ad, c, rfl, _, _⟩ := hL.sl
  cases ad with
  | none =>
    obtain ⟨rfl, _, rfl⟩ := hL.none_
    refine wpList_append_own_none hgd s x t ho base e i0 E.k ht hi v D.length (E.flat D) hs hown hx ?_
    refine h v w ?_ (Kept.refl _ _)
    rw [List.append_nil]
    exact hown
  | some y =>
    obtain ⟨_, hn⟩ := hL.at_
    refine wpList_append_own _ hgd s x t ho base e i0 z E.k bytes ht hi hz0 hz1 hz2 hzs E.pos v D.length (E.flat D) hs hown y L.length c (E.flat L) hx (E.flat_len L) hn (E.flat_one_cell L) h63 hbytes hbase ?_
    intro v' w' ho' hg _
    refine h v' w' ?_ (Kept.grown (Kept.refl _ _) hg (fun k e _ => e))
    rw [List.length_append, E.flat_append]
    exact ho'
theorem owns_new {w : World} {base n size : Nat} {e : TypeId} {v : Value} {xs : List Value} (h : w.ownsRow base e size v n xs) : ∀ b, v.ownBlock = some b → base ≤ b := fun b hb => by
  rcases h.2 with ⟨e2, _⟩ | ⟨g3, c2, cur, e2, h1, h2, _⟩
  · rw [e2] at hb; cases hb
  · rw [e2] at hb; cases hb; exact h1
/-- a frame that spares what was there at w -/
theorem Kept.over {w w1 w2 : World} {S : Nat → Prop} (h : Kept (fun _ => False) w w1) (k : Kept S w1 w2) (hb : ∀ b, S b → w.heap.size ≤ b) : Kept (fun _ => False) w w2 := h.trans k fun i hi e => by have := hb i e; omega
theorem SlAt.lit {α : Type} {E : Enc α} {w : World} {t : TypeId} (L : List α) (cs : Array Value) (hc : cs = (E.flat L).toArray) (hl : L.length ≤ maxLen) : SlAt E (w.alloc (.cells cs t)) (.slice (some ⟨w.heap.size, 0, none⟩) L.length L.length) L := by
  subst hc
  refine .inr ⟨⟨w.heap.size, 0, none⟩, L.length, rfl, Nat.le_refl _, hl, fun _ => rfl, fun i y hy j u hu => ?_⟩
  rw [Nat.zero_add]
  refine (Blk.new w t _).cell' ?_
  rw [← Array.getElem?_toList]
  exact E.flat_get hy hu
end Go.Proofs.YtaaeomapbigfgaaGreat
namespace Go.Proofs.YtaaeomapbigfgaaGreat
open Go.RowKit Go.Proofs.YtaaeomapbigfgaaGreat.St
theorem info_dot : (Tryz.prog.info? 28).map (fun i => (i.zero, i.size, i.bytes)) = some (some (.agg #[.int .i64 0, .int .i64 0]), 2, 16) := by kernel_rfl
theorem lit_dot (w : World) (s q : Int) : SlAt dotE (w.alloc (.cells #[.int .i64 s, .int .i64 q] 28)) (.slice (some ⟨w.heap.size, 0, none⟩) 1 1) [(⟨s, q⟩ : Dot)] := SlAt.lit (E := dotE) [(⟨s, q⟩ : Dot)] _ rfl (by show 1 ≤ maxLen; decide)
theorem run_index_cells (f : Nat → Int) {n : Nat} (h : n < 17) (w : World) : (Instr.index 115 (.agg (cells f)) (.int .i64 n)).run Tryz.prog w = .ok (.int .i64 (f n)) w := by
  have h1 := cells_get f h
  have hI : (n : Int) < 17 := by omega
  simp [Instr.index, asIntOf, run_underlying Tryz.underlying115, part, isAgg, run_underlying Tryz.underlying3, Tryz.sizeOf3, h, h1, go_sem]
set_option maxRecDepth 100000 in
set_option maxHeartbeats 4000000 in
theorem vec_any (f : Nat → Int) (w : World) : Calls Tryz.prog 79 #[.agg (cells f)] w fun e w' => ∃ v', e = .returned v' ∧ w'.ownsRow w.heap.size 28 2 v' (vecOf f 17).length (dotE.flat (vecOf f 17)) ∧ Kept (fun _ => False) w w' := by
  go_enter Tryz.func79, Tryz.ntmps79
  go_wp2_with (first | (refine wpList_load_row rfl 115 _ rfl w.heap.size rfl 115 _ (0, 0) _ (Blk.new w _ _) Tryz.underlying115 rfl (by rw [cells_size]; kernel_rfl) ?_))
  go_loopw [3, 7] (fun vv iv wr => ∃ n : Nat, iv = .int .i64 n ∧ n ≤ 17 ∧ wr.ownsRow w.heap.size 28 dotE.k vv (vecOf f n).length (dotE.flat (vecOf f n)) ∧ Kept (fun _ => False) w wr) (fun _ iv _ => 17 - (intOf iv).toNat)
  case atStart => exact ⟨0, rfl, by decide, World.ownsRow_nil _ _ _ _, (Kept.refl _ _).alloc _⟩
  case round =>
    obtain ⟨n, rfl, hn, ho, hk⟩ := hrel
    have hn0 : (0 : Int) ≤ n := by omega
    by_cases hlt : n < 17
    case neg =>
      obtain rfl : n = 17 := by omega
      have HO := Lib.hid ho
      clear ho
      go_wp2_with fail
      go_ret
      exact ⟨_, rfl, HO.out, hk⟩
    case pos =>
      have hI : (n : Int) < 17 := by omega
      have hix := run_index_cells f hlt
      have hs := vecOf_succ f n
      have hl := vecOf_len f n
      by_cases hp : 0 < f n
      case neg =>
        rw [if_neg hp] at hs
        have HO := Lib.hid ho
        have HS := Lib.hid hs
        clear ho hs hl
        go_wp2_with fail
        go_roundw
        case rel => exact ⟨n + 1, by go_num, by omega, by rw [HS.out]; exact HO.out, hk⟩
        case measure => simp [intOf] <;> omega
      case pos =>
        rw [if_pos hp] at hs
        generalize vecOf f n = V at *
        have HO := Lib.hid (show (wr.alloc (.cells #[.int .i64 n, .int .i64 (f n)] 28)).ownsRow w.heap.size 28 dotE.k _ V.length (dotE.flat V) from ho.alloc _)
        have HS := Lib.hid hs
        have HK := Lib.hid (hk.alloc (.cells #[.int .i64 n, .int .i64 (f n)] 28))
        have LD := Lib.hid (lit_dot wr n (f n))
        have hsz := Lib.hid (hk.size)
        have NW := Lib.hid (owns_new ho)
        clear ho hs hk
        go_wp2_with (at_builtin; (refine wpList_append_row dotE rfl (.tmp 13) (.tmp 17) 23 rfl w.heap.size 28 (.agg #[.int .i64 0, .int .i64 0]) 16 Tryz.underlying23 info_dot rfl rfl rfl HO.out LD.out (by unfold maxLen; simp; omega) (by simp; omega) (by have := hsz.out; simp; omega) ?_); (intro v2 w2 ho2 hk2; have K2 : Hid (Kept (fun _ => False) w w2) := Lib.hid (HK.out.trans hk2 (fun b hb e => by have := NW.out b e; omega)); have O2 := Lib.hid ho2; clear hk2 ho2))
        go_roundw
        case rel => exact ⟨n + 1, by go_num, by omega, by rw [HS.out]; exact O2.out, K2.out⟩
        case measure => simp [intOf] <;> omega
end Go.Proofs.YtaaeomapbigfgaaGreat
namespace Go.Proofs.YtaaeomapbigfgaaGreat
open Go.RowKit Go.Proofs.YtaaeomapbigfgaaGreat.St
theorem greater_any (x y : Int) (w : World) : Calls Tryz.prog 78 #[.int .i64 x, .int .i64 y] w fun e w' => e = .returned (.int .i64 (if x < y then y else x)) ∧ w' = w := by
  go_enter Tryz.func78, Tryz.ntmps78
  by_cases h : x < y
  · rw [if_pos h]
    go_wp2_with fail
    go_ret
    exact ⟨rfl, rfl⟩
  · rw [if_neg h]
    go_wp2_with fail
    go_ret
    exact ⟨rfl, rfl⟩
theorem get_grew {w : World} {v : Value} {L : List Dot} (h : SlAt dotE w v L) (hb : L.length ≤ 1000000000) (s : Int) : Calls Tryz.prog 64 #[v, .int .i64 s] w fun e w' => e = .returned (.int .i64 (getV L s)) ∧ Grew w w' := by
  have hs := site_any s
  have ho := of_grew h hb
  unfold getV
  go_enter Tryz.func64, Tryz.ntmps64
  by_cases hi : isSite s
  · rw [decide_eq_true hi] at hs
    rw [if_pos hi]
    unfold isSite at hi
    obtain ⟨k, rfl⟩ : ∃ k : Nat, s = k := ⟨s.toNat, by omega⟩
    have hix := run_index_cells (says L) (n := k) (by omega)
    rw [Int.toNat_natCast]
    go_wp2_with (first
      | (go_at_call 54; refine (hs _).mono ?_; rintro e w1 ⟨rfl, rfl⟩)
      | (go_at_call 76; refine ho.mono ?_; rintro e w1 ⟨rfl, hk1⟩))
    go_ret
    exact ⟨rfl, hk1⟩
  · rw [decide_eq_false hi] at hs
    rw [if_neg hi]
    go_wp2_with (go_at_call 54; refine (hs _).mono ?_; rintro e w1 ⟨rfl, rfl⟩)
    go_ret
    exact ⟨rfl, Grew.refl _⟩
theorem get_any {w : World} {v : Value} {L : List Dot} (h : SlAt dotE w v L) (hb : L.length ≤ 1000000000) (s : Int) : Calls Tryz.prog 64 #[v, .int .i64 s] w fun e w' => e = .returned (.int .i64 (getV L s)) ∧ Kept (fun _ => False) w w' := (get_grew h hb s).mono fun _ _ ⟨he, hg⟩ => ⟨he, hg.kept⟩
theorem sumTo_bd (f : Nat → Int) (hf : ∀ i, 0 ≤ f i ∧ f i ≤ 2147483647) : ∀ n : Nat, 0 ≤ sumTo f n ∧ sumTo f n ≤ 2147483647 * n
  | 0 => by simp [sumTo]
  | n + 1 => by
    have := sumTo_bd f hf n
    have := hf n
    show 0 ≤ sumTo f n + f n ∧ sumTo f n + f n ≤ 2147483647 * ((n + 1 : Nat) : Int)
    omega
theorem sum_grew {w : World} {v : Value} {L : List Dot} (h : SlAt dotE w v L) (hb : L.length ≤ 1000000000) : Calls Tryz.prog 68 #[v] w fun e w' => e = .returned (.int .i64 (sumV L)) ∧ Grew w w' := by
  have ho := of_grew h hb
  go_enter Tryz.func68, Tryz.ntmps68
  go_wp2_with (go_at_call 76; refine ho.mono ?_; rintro e w1 ⟨rfl, hk1⟩)
  go_loopw [3, 8] (fun nv iv wr => ∃ n : Nat, iv = .int .i64 n ∧ n ≤ 17 ∧ nv = .int .i64 (sumTo (says L) n) ∧ wr = w1) (fun _ iv _ => 17 - (intOf iv).toNat)
  case atStart => exact ⟨0, rfl, by decide, rfl, rfl⟩
  case round =>
    obtain ⟨n, rfl, hn, rfl, rfl⟩ := hrel
    have hn0 : (0 : Int) ≤ n := by omega
    by_cases hlt : n < 17
    case neg =>
      obtain rfl : n = 17 := by omega
      go_wp2_with fail
      go_ret
      exact ⟨rfl, hk1⟩
    case pos =>
      have hI : (n : Int) < 17 := by omega
      have hix := run_index_cells (says L) hlt
      have b1 := sumTo_bd (says L) (says_bd L) n
      have b2 := says_bd L n
      have hw : IntKind.i64.wrap (sumTo (says L) n + says L n) = sumTo (says L) (n + 1) := IntWalk.i64_in _ (by omega)
      clear b1 b2
      go_wp2_with fail
      go_roundw
      case rel => exact ⟨n + 1, by go_num, by omega, rfl, trivial⟩
      case measure => simp [intOf] <;> omega
theorem sum_any {w : World} {v : Value} {L : List Dot} (h : SlAt dotE w v L) (hb : L.length ≤ 1000000000) : Calls Tryz.prog 68 #[v] w fun e w' => e = .returned (.int .i64 (sumV L)) ∧ Kept (fun _ => False) w w' := (sum_grew h hb).mono fun _ _ ⟨he, hg⟩ => ⟨he, hg.kept⟩
theorem hasV_any {w : World} {v : Value} {L : List Dot} (h : SlAt dotE w v L) (hb : L.length ≤ 1000000000) (d : Dot) : Calls Tryz.prog 38 #[v, .agg #[.int .i64 d.site, .int .i64 d.seq]] w fun e w' => e = .returned (.bool (decide (hasV L d))) ∧ Kept (fun _ => False) w w' := by
  have hg := Lib.hid (fun (w' : World) (hk : Kept (fun _ => False) w w') => get_any (h.kept hk) hb d.site)
  have hB := Blk.new w 28 #[.int .i64 d.site, .int .i64 d.seq]
  have b0 : (w.alloc (.cells #[.int .i64 d.site, .int .i64 d.seq] 28)).cell? ⟨w.heap.size, 0, none⟩ = some (.int .i64 d.site) := hB.cell' (i := 0) rfl
  have b1 : (w.alloc (.cells #[.int .i64 d.site, .int .i64 d.seq] 28)).cell? ⟨w.heap.size, 1, none⟩ = some (.int .i64 d.seq) := hB.cell' (i := 1) rfl
  have KD : Kept (fun _ => False) w (w.alloc (.cells #[.int .i64 d.site, .int .i64 d.seq] 28)).drew := ((Kept.refl _ _).alloc _).drewN 1
  unfold hasV
  clear hB h
  go_enter Tryz.func38, Tryz.ntmps38
  by_cases h1 : 1 ≤ d.seq
  · have hd1 : decide (1 ≤ d.seq) = true := decide_eq_true h1
    go_wp2_with fail
    go_region_held3 (fun w' => Kept (fun _ => False) w w' ∧ w'.cell? ⟨w.heap.size, 0, none⟩ = some (.int .i64 d.site) ∧ w'.cell? ⟨w.heap.size, 1, none⟩ = some (.int .i64 d.seq)) (first | (with_reducible exact ⟨KD, b0, b1⟩) | go_keep)
      (first | (go_simp; go_at_call 64; refine (hg.out _ KD).mono ?_; rintro e w1 ⟨rfl, hk1⟩; have KE := KD.trans hk1 (fun _ _ h => h); have b0 := hk1.cell b0; have b1 := hk1.cell b1))
    go_wp2_with fail
    go_ret
    exact ⟨by simp [h1], KE⟩
  · have hd1 : decide (1 ≤ d.seq) = false := decide_eq_false h1
    have e2 : decide (1 ≤ d.seq ∧ d.seq ≤ getV L d.site) = false := decide_eq_false fun h => h1 h.1
    go_wp2_with fail
    go_region
    go_wp2_with fail
    go_ret
    exact ⟨congrArg (fun b => Ending.returned (.bool b)) e2.symm, KD⟩
end Go.Proofs.YtaaeomapbigfgaaGreat
namespace Go.Proofs.YtaaeomapbigfgaaGreat
open Go.RowKit Go.Proofs.YtaaeomapbigfgaaGreat.St
/-- the row of 17 zeros -/
abbrev zero17 : Array Value := #[.int .i64 0, .int .i64 0, .int .i64 0, .int .i64 0, .int .i64 0, .int .i64 0, .int .i64 0, .int .i64 0, .int .i64 0, .int .i64 0, .int .i64 0, .int .i64 0, .int .i64 0, .int .i64 0, .int .i64 0, .int .i64 0, .int .i64 0]
theorem max_next (A B : List Dot) (n : Nat) : (cells fun i => if i = n then maxV A B n else if i < n then maxV A B i else says A i) = cells fun i => if i < n + 1 then maxV A B i else says A i :=
  cells_congr fun i _ => by
    by_cases h : i = n
    · subst h; rw [if_pos rfl, if_pos (Nat.lt_succ_self i)]
    · rw [if_neg h]
      by_cases h2 : i < n
      · rw [if_pos h2, if_pos (by omega)]
      · rw [if_neg h2, if_neg (by omega)]
set_option maxRecDepth 100000 in
set_option maxHeartbeats 4000000 in
theorem with_grew {w : World} {va vb : Value} {A B : List Dot} (ha : SlAt dotE w va A) (hb : SlAt dotE w vb B) (hla : A.length ≤ 1000000000) (hlb : B.length ≤ 1000000000) :
    Calls Tryz.prog 77 #[va, vb, .func (.func 78) #[] #[]] w fun e w' => e = .returned (.agg (cells (maxV A B))) ∧ Grew w w' := by
  have k0 : Grew w (w.alloc (.cells zero17 115)) := (Grew.refl _).alloc _
  have B0 := Lib.hid (Blk.new w 115 zero17)
  have s0 : (w.alloc (.cells zero17 115)).heap.size = w.heap.size + 1 := by simp
  have hoa := of_grew (ha.kept k0.kept) hla
  have HB := Lib.hid (hb.kept k0.kept)
  clear ha hb
  go_enter Tryz.func77, Tryz.ntmps77
  go_upto_region 1 with (fail)
  generalize w.alloc (.cells zero17 115) = w0 at *
  go_wp2_with (first
      | (refine wpList_store_row rfl 115 _ _ rfl (w2.heap.size + 1) (cells (says B)) rfl rfl 115 zero17 (P2.out.row_far (by omega) _) (by rw [cells_size]; kernel_rfl) (by rw [cells_size]; rfl) (cells_one _) ?_)
      | (refine wpList_store_row rfl 115 _ _ rfl w2.heap.size (cells (says A)) rfl rfl 115 zero17 P1.out (by rw [cells_size]; kernel_rfl) (by rw [cells_size]; rfl) (cells_one _) ?_)
      | (go_at_call 76; refine (of_grew (HB.out.kept hk1.kept) hlb).mono ?_; rintro e w2 ⟨rfl, hk2⟩; have P1 := Lib.hid ((Blk.new w2 115 zero17).alloc (.cells zero17 115)); have P2 : Hid (Blk ((w2.alloc (.cells zero17 115)).alloc (.cells zero17 115)) (w2.heap.size + 1) 115 zero17) := Lib.hid (by have := Blk.new (w2.alloc (.cells zero17 115)) 115 zero17; simpa using this))
      | (go_at_call 76; refine hoa.mono ?_; rintro e w1 ⟨rfl, hk1⟩))
  have k13 : Grew w0 w2 := hk1.trans hk2
  have s2 := k13.size
  have k3 : Grew w (((w2.alloc (.cells zero17 115)).alloc (.cells zero17 115)).setRow w2.heap.size (cells (says A)) |>.setRow (w2.heap.size + 1) (cells (says B))) :=
    ((((k0.trans k13).alloc _).alloc _).setRow (by omega) _).setRow (by omega) _
  have Q0 := (((k13.kept.blk (fun h => h) B0.out).alloc (.cells zero17 115)).alloc (.cells zero17 115)).row_far (g := w2.heap.size) (by omega) (cells (says A)) |>.row_far (g := w2.heap.size + 1) (by omega) (cells (says B))
  have Q1 := (P1.out.row (cells (says A))).row_far (g := w2.heap.size + 1) (by omega) (cells (says B))
  have Q2 := (P2.out.row_far (g := w2.heap.size) (by omega) (cells (says A))).row (cells (says B))
  have hne : w.heap.size < w2.heap.size := by omega
  generalize (((w2.alloc (.cells zero17 115)).alloc (.cells zero17 115)).setRow w2.heap.size (cells (says A))).setRow (w2.heap.size + 1) (cells (says B)) = w3 at *
  have K3 := Lib.hid k3
  have R0 := Lib.hid Q0
  have R1 := Lib.hid Q1
  have R2 := Lib.hid Q2
  clear hoa HB P1 P2 B0 k0 hk1 hk2 k13 s2 s0 k3 Q0 Q1 Q2
  go_loopw [14] (fun iv wr => ∃ n : Nat, iv = .int .i64 n ∧ n ≤ 17 ∧ Blk wr w2.heap.size 115 (cells fun i => if i < n then maxV A B i else says A i) ∧ Blk wr (w2.heap.size + 1) 115 (cells (says B)) ∧ Blk wr w.heap.size 115 zero17 ∧ Grew w wr) (fun iv _ => 17 - (intOf iv).toNat)
  case atStart => exact ⟨0, rfl, by decide, R1.out, R2.out, R0.out, K3.out⟩
  case round =>
    clear K3 R0 R1 R2
    obtain ⟨n, rfl, hn, h1, h2, h0, hk⟩ := hrel
    have hn0 : (0 : Int) ≤ n := by omega
    by_cases hlt : n < 17
    case neg =>
      obtain rfl : n = 17 := by omega
      have e : cells (fun i => if i < 17 then maxV A B i else says A i) = cells (maxV A B) := cells_congr fun i hi => if_pos hi
      rw [e] at h1
      have H1 := Lib.hid h1
      have H0 := Lib.hid h0
      have HK := Lib.hid (hk.setRow (g := w.heap.size) (Nat.le_refl _) (cells (maxV A B)))
      clear h1 h2 h0 hk e
      go_wp2_with (first
        | (refine wpList_load_row rfl 115 _ rfl w2.heap.size rfl 115 _ (0, 0) _ H1.out Tryz.underlying115 rfl (by rw [cells_size]; kernel_rfl) ?_)
        | (refine wpList_store_row rfl 115 _ _ rfl w.heap.size (cells (maxV A B)) rfl rfl 115 zero17 H0.out (by rw [cells_size]; kernel_rfl) (by rw [cells_size]; rfl) (cells_one _) ?_))
      exact bodyPost_ret (Blk.result rfl _ (H0.out.row _) rfl Tryz.underlying115 rfl (by rw [cells_size]; kernel_rfl)) rfl ⟨rfl, HK.out⟩
    case pos =>
      have hI : (n : Int) < 17 := by omega
      have c1 : wr.cell? ⟨w2.heap.size, n, none⟩ = some (.int .i64 (says A n)) := by
        have := h1.cell' (cells_get _ hlt)
        rwa [if_neg (Nat.lt_irrefl n)] at this
      have c2 := h2.cell' (cells_get (says B) hlt)
      have f1 := h1.frozen n
      have hgr := greater_any (says A n) (says B n)
      have H1 := Lib.hid h1
      have H2 := Lib.hid h2
      have H0 := Lib.hid h0
      have HK := Lib.hid hk
      have MX : (if says A n < says B n then says B n else says A n) = maxV A B n := rfl
      rw [MX] at hgr
      generalize hmx : maxV A B n = mx at *
      have MX2 := Lib.hid hmx
      clear hmx
      clear h1 h2 h0 hk
      go_wp2_with fail
      go_region_calls
      all_goals
        go_wp2_with fail
        go_roundw
        focus
          refine ⟨n + 1, by go_num, by omega, ?_, ((H2.out.far (by show w2.heap.size + 1 ≠ w2.heap.size; omega) _).drewN 1), ((H0.out.far (by show w.heap.size ≠ w2.heap.size; omega) _).drewN 1), (HK.out.setCell (by show w.heap.size ≤ w2.heap.size; omega) _).drewN 1⟩
          have := (H1.out.set_ n (.int .i64 mx)).drewN 1
          rw [cells_set, ← MX2.out, max_next] at this
          rw [← MX2.out]
          exact this
        focus
          simp [intOf] <;> omega
theorem with_any {w : World} {va vb : Value} {A B : List Dot} (ha : SlAt dotE w va A) (hb : SlAt dotE w vb B) (hla : A.length ≤ 1000000000) (hlb : B.length ≤ 1000000000) :
    Calls Tryz.prog 77 #[va, vb, .func (.func 78) #[] #[]] w fun e w' => e = .returned (.agg (cells (maxV A B))) ∧ Kept (fun _ => False) w w' := (with_grew ha hb hla hlb).mono fun _ _ ⟨he, hg⟩ => ⟨he, hg.kept⟩
theorem run_part (f : Nat → Int) {i : Nat} (h : i < 17) (w : World) : (part 3 (cells f) i).run Tryz.prog w = .ok (.int .i64 (f i)) w := by
  have h1 := cells_get f h
  simp [part, isAgg, run_underlying Tryz.underlying3, h1]
theorem run_eq_loop (f g : Nat → Int) (w : World) : ∀ l : List Nat, (∀ i ∈ l, i < 17) →
    Sem.run Tryz.prog (forIn l ((none, ()) : Option Bool × Unit) fun i _ => do
      let a ← part 3 (cells f) i
      let b ← part 3 (cells g) i
      let c ← Op.equalIn 9999 3 a b
      if c = false then pure (ForInStep.done (some false, ())) else pure (ForInStep.yield (none, ()))) w = .ok (if l.all fun i => f i == g i then (none, ()) else (some false, ())) w
  | [], _ => by simp
  | i :: l, h => by
    have hi := h i (List.mem_cons_self ..)
    have ih := run_eq_loop f g w l (fun j hj => h j (List.mem_cons_of_mem _ hj))
    rw [List.forIn_cons]
    have he : ∀ a b : Int, (Op.equalIn 9999 3 (.int .i64 a) (.int .i64 b)).run Tryz.prog w = .ok (a == b) w := fun a b => run_equalIn_int (P := Tryz.prog) w 9998 _ .i64 _ a b Tryz.underlying3
    by_cases hfg : f i = g i
    · simp [Sem.run_bind, run_part f hi, run_part g hi, he, hfg, ih]
    · simp [Sem.run_bind, run_part f hi, run_part g hi, he, hfg]
theorem eq_cells (f g : Nat → Int) (w : World) : (binOp .eql 115 (.agg (cells f)) (.agg (cells g))).run Tryz.prog w = .ok (.bool ((List.range' 0 17).all fun i => f i == g i)) w := by
  rw [run_eql_struct]
  unfold Op.equalIn
  simp [run_underlying Tryz.underlying115]
  rw [run_eq_loop f g w _ (fun i hi => by simpa using hi)]
  by_cases h : ((List.range' 0 17).all fun i => f i == g i) = true
  · simp [h]
  · simp [h]
theorem covers_eq (A B : List Dot) : ((List.range' 0 17).all fun i => maxV A B i == says A i) = decide (coversV A B) := by
  rw [Bool.eq_iff_iff, decide_eq_true_iff, List.all_eq_true]
  unfold coversV maxV
  constructor
  · intro h i hi
    have := h i (by simpa using hi)
    simp only [beq_iff_eq] at this
    split at this <;> omega
  · intro h i hi
    have := h i (by simpa using hi)
    rw [if_neg (by omega)]
    simp
set_option maxRecDepth 100000 in
set_option maxHeartbeats 4000000 in
theorem covers_grew {w : World} {va vb : Value} {A B : List Dot} (ha : SlAt dotE w va A) (hb : SlAt dotE w vb B) (hla : A.length ≤ 1000000000) (hlb : B.length ≤ 1000000000) :
    Calls Tryz.prog 67 #[va, vb] w fun e w' => e = .returned (.bool (decide (coversV A B))) ∧ Grew w w' := by
  have hw := with_grew ha hb hla hlb
  have heq := eq_cells (maxV A B) (says A)
  rw [covers_eq] at heq
  go_enter Tryz.func67, Tryz.ntmps67
  go_wp2_with (first
    | (go_at_call 76; refine (of_grew (ha.kept hk1.kept) hla).mono ?_; rintro e w2 ⟨rfl, hk2⟩)
    | (go_at_call 77; refine hw.mono ?_; rintro e w1 ⟨rfl, hk1⟩))
  go_ret
  exact ⟨rfl, hk1.trans hk2⟩
theorem covers_any {w : World} {va vb : Value} {A B : List Dot} (ha : SlAt dotE w va A) (hb : SlAt dotE w vb B) (hla : A.length ≤ 1000000000) (hlb : B.length ≤ 1000000000) :
    Calls Tryz.prog 67 #[va, vb] w fun e w' => e = .returned (.bool (decide (coversV A B))) ∧ Kept (fun _ => False) w w' := (covers_grew ha hb hla hlb).mono fun _ _ ⟨he, hg⟩ => ⟨he, hg.kept⟩
end Go.Proofs.YtaaeomapbigfgaaGreat
