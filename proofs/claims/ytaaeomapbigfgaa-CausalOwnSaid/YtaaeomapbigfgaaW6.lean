/- append of a row that reads as a list to an owned row. (vector.says).vector: the vector of a row. vector.Get, Has, Sum; with and Covers. -/
import Derived.Test.YtaaeomapbigfgaaW4
import Derived.Laws.AppendOwnNone
import Derived.Test.YtaaeomapbigfgaaW5
import Derived.Deep.RegionHeld3
namespace Go.Proofs.Ytaaeomapbigfgaa
open Go.RowKit
theorem wpList_append_row {P : Program} {α : Type} (E : Enc α) {w : World} {ops : Array Oper} {rest : List Oper} {o : Oper} {a : Act} {Q : Exit → Act → World → Prop} (hgd : o.guard = none) (s x : Operand) (t : TypeId)
    (ho : o.op = .call { callee := .builtin .append, args := #[s, x], argTypes := #[t, t] }) (base : Nat) (e : TypeId) (z : Value) (bytes : Nat) (ht : P.underlying t = some (.slice e))
    (hinfo : (P.info? e).map (fun i => (i.zero, i.size, i.bytes)) = some (some z, E.k, bytes)) (hzs : z.cells.size = E.k) {v vs : Value} {D L : List α} (hs : a.eval s = v) (hx : a.eval x = vs)
    (hown : w.ownsRow base e E.k v D.length (E.flat D)) (hL : SlAt E w vs L) (h63 : D.length + L.length ≤ maxLen) (hbytes : (D.length + L.length) * bytes ≤ 140737488355328) (hbase : base ≤ w.heap.size)
    (h : ∀ v' w', w'.ownsRow base e E.k v' (D ++ L).length (E.flat (D ++ L)) → Kept (fun b => v.ownBlock = some b) w w' → wpList P ops Q rest (a.put o.dst v') w') : wpList P ops Q (o :: rest) a w := by
  obtain ⟨i0, hi, hz0, hz1, hz2⟩ := info_parts hinfo
  obtain ⟨ad, c, rfl, _, _⟩ := hL.sl
  cases ad with
  | none =>
    obtain ⟨rfl, _, rfl⟩ := hL.none_
    refine wpList_append_own_none hgd s x t ho base e i0 E.k ht hi v D.length (E.flat D) hs hown hx ?_
    refine h v w ?_ (Kept.refl _ _)
    rw [List.append_nil]
    exact hown
  | some y =>
    obtain ⟨_, hn⟩ := hL.at_
    refine wpList_append_own _ hgd s x t ho base e i0 z E.k bytes ht hi hz0 hz1 hz2 hzs E.pos v D.length (E.flat D) hs hown y L.length c (E.flat L) hx (E.flat_len L) hn (E.flat_one_cell L) h63 hbytes hbase ?_
    intro v' w' ho' hg _
    refine h v' w' ?_ (Kept.grown (Kept.refl _ _) hg (fun k e _ => e))
    rw [List.length_append, E.flat_append]
    exact ho'
theorem owns_new {w : World} {base n size : Nat} {e : TypeId} {v : Value} {xs : List Value} (h : w.ownsRow base e size v n xs) : ∀ b, v.ownBlock = some b → base ≤ b := fun b hb => by
  rcases h.2 with ⟨e2, _⟩ | ⟨g3, c2, cur, e2, h1, h2, _⟩
  · rw [e2] at hb; cases hb
  · rw [e2] at hb; cases hb; exact h1
/-- a frame that spares what was there at w -/
theorem Kept.over {w w1 w2 : World} {S : Nat → Prop} (h : Kept (fun _ => False) w w1) (k : Kept S w1 w2) (hb : ∀ b, S b → w.heap.size ≤ b) : Kept (fun _ => False) w w2 := h.trans k fun i hi e => by have := hb i e; omega
theorem SlAt.lit {α : Type} {E : Enc α} {w : World} {t : TypeId} (L : List α) (cs : Array Value) (hc : cs = (E.flat L).toArray) (hl : L.length ≤ maxLen) : SlAt E (w.alloc (.cells cs t)) (.slice (some ⟨w.heap.size, 0, none⟩) L.length L.length) L := by
  subst hc
  refine .inr ⟨⟨w.heap.size, 0, none⟩, L.length, rfl, Nat.le_refl _, hl, fun _ => rfl, fun i y hy j u hu => ?_⟩
  rw [Nat.zero_add]
  refine (Blk.new w t _).cell' ?_
  rw [← Array.getElem?_toList]
  exact E.flat_get hy hu
end Go.Proofs.Ytaaeomapbigfgaa
namespace Go.Proofs.Ytaaeomapbigfgaa
open Go.RowKit Go.Proofs.Ytaaeomapbigfgaa.St
theorem info_dot : (Try.prog.info? 27).map (fun i => (i.zero, i.size, i.bytes)) = some (some (.agg #[.int .i64 0, .int .i64 0]), 2, 16) := by kernel_rfl
theorem lit_dot (w : World) (s q : Int) : SlAt dotE (w.alloc (.cells #[.int .i64 s, .int .i64 q] 27)) (.slice (some ⟨w.heap.size, 0, none⟩) 1 1) [(⟨s, q⟩ : Dot)] := SlAt.lit (E := dotE) [(⟨s, q⟩ : Dot)] _ rfl (by show 1 ≤ maxLen; decide)
theorem run_index_cells (f : Nat → Int) {n : Nat} (h : n < 17) (w : World) : (Instr.index 104 (.agg (cells f)) (.int .i64 n)).run Try.prog w = .ok (.int .i64 (f n)) w := by
  have h1 := cells_get f h
  have hI : (n : Int) < 17 := by omega
  simp [Instr.index, asIntOf, run_underlying Try.underlying104, part, isAgg, run_underlying Try.underlying3, Try.sizeOf3, h, h1, go_sem]
set_option maxRecDepth 100000 in
set_option maxHeartbeats 4000000 in
theorem vec_any (f : Nat → Int) (w : World) : Calls Try.prog 55 #[.agg (cells f)] w fun e w' => ∃ v', e = .returned v' ∧ w'.ownsRow w.heap.size 27 2 v' (vecOf f 17).length (dotE.flat (vecOf f 17)) ∧ Kept (fun _ => False) w w' := by
  go_enter Try.func55, Try.ntmps55
  go_wp2_with (first | (refine wpList_load_row rfl 104 _ rfl w.heap.size rfl 104 _ (0, 0) _ (Blk.new w _ _) Try.underlying104 rfl (by rw [cells_size]; kernel_rfl) ?_))
  go_loopw [3, 7] (fun vv iv wr => ∃ n : Nat, iv = .int .i64 n ∧ n ≤ 17 ∧ wr.ownsRow w.heap.size 27 dotE.k vv (vecOf f n).length (dotE.flat (vecOf f n)) ∧ Kept (fun _ => False) w wr) (fun _ iv _ => 17 - (intOf iv).toNat)
  case atStart => exact ⟨0, rfl, by decide, World.ownsRow_nil _ _ _ _, (Kept.refl _ _).alloc _⟩
  case round =>
    obtain ⟨n, rfl, hn, ho, hk⟩ := hrel
    have hn0 : (0 : Int) ≤ n := by omega
    by_cases hlt : n < 17
    case neg =>
      obtain rfl : n = 17 := by omega
      have HO := Lib.hid ho
      clear ho
      go_wp2_with fail
      go_ret
      exact ⟨_, rfl, HO.out, hk⟩
    case pos =>
      have hI : (n : Int) < 17 := by omega
      have hix := run_index_cells f hlt
      have hs := vecOf_succ f n
      have hl := vecOf_len f n
      by_cases hp : 0 < f n
      case neg =>
        rw [if_neg hp] at hs
        have HO := Lib.hid ho
        have HS := Lib.hid hs
        clear ho hs hl
        go_wp2_with fail
        go_roundw
        case rel => exact ⟨n + 1, by go_num, by omega, by rw [HS.out]; exact HO.out, hk⟩
        case measure => simp [intOf] <;> omega
      case pos =>
        rw [if_pos hp] at hs
        generalize vecOf f n = V at *
        have HO := Lib.hid (show (wr.alloc (.cells #[.int .i64 n, .int .i64 (f n)] 27)).ownsRow w.heap.size 27 dotE.k _ V.length (dotE.flat V) from ho.alloc _)
        have HS := Lib.hid hs
        have HK := Lib.hid (hk.alloc (.cells #[.int .i64 n, .int .i64 (f n)] 27))
        have LD := Lib.hid (lit_dot wr n (f n))
        have hsz := Lib.hid (hk.size)
        have NW := Lib.hid (owns_new ho)
        clear ho hs hk
        go_wp2_with (at_builtin; (refine wpList_append_row dotE rfl (.tmp 13) (.tmp 17) 29 rfl w.heap.size 27 (.agg #[.int .i64 0, .int .i64 0]) 16 Try.underlying29 info_dot rfl rfl rfl HO.out LD.out (by unfold maxLen; simp; omega) (by simp; omega) (by have := hsz.out; simp; omega) ?_); (intro v2 w2 ho2 hk2; have K2 : Hid (Kept (fun _ => False) w w2) := Lib.hid (HK.out.trans hk2 (fun b hb e => by have := NW.out b e; omega)); have O2 := Lib.hid ho2; clear hk2 ho2))
        go_roundw
        case rel => exact ⟨n + 1, by go_num, by omega, by rw [HS.out]; exact O2.out, K2.out⟩
        case measure => simp [intOf] <;> omega
end Go.Proofs.Ytaaeomapbigfgaa
namespace Go.Proofs.Ytaaeomapbigfgaa
open Go.RowKit Go.Proofs.Ytaaeomapbigfgaa.St
theorem greater_any (x y : Int) (w : World) : Calls Try.prog 54 #[.int .i64 x, .int .i64 y] w fun e w' => e = .returned (.int .i64 (if x < y then y else x)) ∧ w' = w := by
  go_enter Try.func54, Try.ntmps54
  by_cases h : x < y
  · rw [if_pos h]
    go_wp2_with fail
    go_ret
    exact ⟨rfl, rfl⟩
  · rw [if_neg h]
    go_wp2_with fail
    go_ret
    exact ⟨rfl, rfl⟩
theorem get_grew {w : World} {v : Value} {L : List Dot} (h : SlAt dotE w v L) (hb : L.length ≤ 1000000000) (s : Int) : Calls Try.prog 43 #[v, .int .i64 s] w fun e w' => e = .returned (.int .i64 (getV L s)) ∧ Grew w w' := by
  have hs := site_any s
  have ho := of_grew h hb
  unfold getV
  go_enter Try.func43, Try.ntmps43
  by_cases hi : isSite s
  · rw [decide_eq_true hi] at hs
    rw [if_pos hi]
    unfold isSite at hi
    obtain ⟨k, rfl⟩ : ∃ k : Nat, s = k := ⟨s.toNat, by omega⟩
    have hix := run_index_cells (says L) (n := k) (by omega)
    rw [Int.toNat_natCast]
    go_wp2_with (first
      | (go_at_call 41; refine (hs _).mono ?_; rintro e w1 ⟨rfl, rfl⟩)
      | (go_at_call 52; refine ho.mono ?_; rintro e w1 ⟨rfl, hk1⟩))
    go_ret
    exact ⟨rfl, hk1⟩
  · rw [decide_eq_false hi] at hs
    rw [if_neg hi]
    go_wp2_with (go_at_call 41; refine (hs _).mono ?_; rintro e w1 ⟨rfl, rfl⟩)
    go_ret
    exact ⟨rfl, Grew.refl _⟩
theorem get_any {w : World} {v : Value} {L : List Dot} (h : SlAt dotE w v L) (hb : L.length ≤ 1000000000) (s : Int) : Calls Try.prog 43 #[v, .int .i64 s] w fun e w' => e = .returned (.int .i64 (getV L s)) ∧ Kept (fun _ => False) w w' := (get_grew h hb s).mono fun _ _ ⟨he, hg⟩ => ⟨he, hg.kept⟩
theorem sumTo_bd (f : Nat → Int) (hf : ∀ i, 0 ≤ f i ∧ f i ≤ 2147483647) : ∀ n : Nat, 0 ≤ sumTo f n ∧ sumTo f n ≤ 2147483647 * n
  | 0 => by simp [sumTo]
  | n + 1 => by
    have := sumTo_bd f hf n
    have := hf n
    show 0 ≤ sumTo f n + f n ∧ sumTo f n + f n ≤ 2147483647 * ((n + 1 : Nat) : Int)
    omega
theorem sum_grew {w : World} {v : Value} {L : List Dot} (h : SlAt dotE w v L) (hb : L.length ≤ 1000000000) : Calls Try.prog 47 #[v] w fun e w' => e = .returned (.int .i64 (sumV L)) ∧ Grew w w' := by
  have ho := of_grew h hb
  go_enter Try.func47, Try.ntmps47
  go_wp2_with (go_at_call 52; refine ho.mono ?_; rintro e w1 ⟨rfl, hk1⟩)
  go_loopw [3, 8] (fun nv iv wr => ∃ n : Nat, iv = .int .i64 n ∧ n ≤ 17 ∧ nv = .int .i64 (sumTo (says L) n) ∧ wr = w1) (fun _ iv _ => 17 - (intOf iv).toNat)
  case atStart => exact ⟨0, rfl, by decide, rfl, rfl⟩
  case round =>
    obtain ⟨n, rfl, hn, rfl, rfl⟩ := hrel
    have hn0 : (0 : Int) ≤ n := by omega
    by_cases hlt : n < 17
    case neg =>
      obtain rfl : n = 17 := by omega
      go_wp2_with fail
      go_ret
      exact ⟨rfl, hk1⟩
    case pos =>
      have hI : (n : Int) < 17 := by omega
      have hix := run_index_cells (says L) hlt
      have b1 := sumTo_bd (says L) (says_bd L) n
      have b2 := says_bd L n
      have hw : IntKind.i64.wrap (sumTo (says L) n + says L n) = sumTo (says L) (n + 1) := IntWalk.i64_in _ (by omega)
      clear b1 b2
      go_wp2_with fail
      go_roundw
      case rel => exact ⟨n + 1, by go_num, by omega, rfl, trivial⟩
      case measure => simp [intOf] <;> omega
theorem sum_any {w : World} {v : Value} {L : List Dot} (h : SlAt dotE w v L) (hb : L.length ≤ 1000000000) : Calls Try.prog 47 #[v] w fun e w' => e = .returned (.int .i64 (sumV L)) ∧ Kept (fun _ => False) w w' := (sum_grew h hb).mono fun _ _ ⟨he, hg⟩ => ⟨he, hg.kept⟩
theorem hasV_any {w : World} {v : Value} {L : List Dot} (h : SlAt dotE w v L) (hb : L.length ≤ 1000000000) (d : Dot) : Calls Try.prog 25 #[v, .agg #[.int .i64 d.site, .int .i64 d.seq]] w fun e w' => e = .returned (.bool (decide (hasV L d))) ∧ Kept (fun _ => False) w w' := by
  have hg := Lib.hid (fun (w' : World) (hk : Kept (fun _ => False) w w') => get_any (h.kept hk) hb d.site)
  have hB := Blk.new w 27 #[.int .i64 d.site, .int .i64 d.seq]
  have b0 : (w.alloc (.cells #[.int .i64 d.site, .int .i64 d.seq] 27)).cell? ⟨w.heap.size, 0, none⟩ = some (.int .i64 d.site) := hB.cell' (i := 0) rfl
  have b1 : (w.alloc (.cells #[.int .i64 d.site, .int .i64 d.seq] 27)).cell? ⟨w.heap.size, 1, none⟩ = some (.int .i64 d.seq) := hB.cell' (i := 1) rfl
  have KD : Kept (fun _ => False) w (w.alloc (.cells #[.int .i64 d.site, .int .i64 d.seq] 27)).drew := ((Kept.refl _ _).alloc _).drewN 1
  unfold hasV
  clear hB h
  go_enter Try.func25, Try.ntmps25
  by_cases h1 : 1 ≤ d.seq
  · have hd1 : decide (1 ≤ d.seq) = true := decide_eq_true h1
    go_wp2_with fail
    go_region_held3 (fun w' => Kept (fun _ => False) w w' ∧ w'.cell? ⟨w.heap.size, 0, none⟩ = some (.int .i64 d.site) ∧ w'.cell? ⟨w.heap.size, 1, none⟩ = some (.int .i64 d.seq)) (first | (with_reducible exact ⟨KD, b0, b1⟩) | go_keep)
      (first | (go_simp; go_at_call 43; refine (hg.out _ KD).mono ?_; rintro e w1 ⟨rfl, hk1⟩; have KE := KD.trans hk1 (fun _ _ h => h); have b0 := hk1.cell b0; have b1 := hk1.cell b1))
    go_wp2_with fail
    go_ret
    exact ⟨by simp [h1], KE⟩
  · have hd1 : decide (1 ≤ d.seq) = false := decide_eq_false h1
    have e2 : decide (1 ≤ d.seq ∧ d.seq ≤ getV L d.site) = false := decide_eq_false fun h => h1 h.1
    go_wp2_with fail
    go_region
    go_wp2_with fail
    go_ret
    exact ⟨congrArg (fun b => Ending.returned (.bool b)) e2.symm, KD⟩
end Go.Proofs.Ytaaeomapbigfgaa
