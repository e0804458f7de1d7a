/- vector.of: what a list of Dots says, as a row of 17 numbers. append of a row that reads as a list to an owned row. (vector.says).vector: the vector of a row. vector.Get, Has, Sum; with and Covers. vector.with and Covers. vector.Add. vector.Check. slices.Clone of identifiers and of runs; slices.IndexFunc of identifiers that are none. -/
import Derived.Test.YtjohljmpcblpjaaGreatDoorL4
import Derived.Test.YtjohljmpcblpjaaGreatDoorL3
import Derived.Test.YtjohljmpcblpjaaGreatDoorL2
import Derived.Laws.AppendOwnNone
import Derived.Deep.RegionHeld3
import Derived.Laws.EntriesVeiled
import Derived.Deep.CutBlock
import Derived.RegionCalls
import Derived.Laws.StructEq
import Derived.OwnWalk
import Derived.WalkSpells
namespace Go.Proofs.YtjohljmpcblpjaaGreatDoor
open Go.RowKit Go.Proofs.YtjohljmpcblpjaaGreatDoor.St
def dotE : Enc Dot := ⟨2, fun d => [.int .i64 d.site, .int .i64 d.seq], fun _ => rfl, by decide, fun d u hu => by
  rcases List.mem_cons.1 hu with rfl | hu
  · rfl
  · rw [List.mem_singleton.1 hu]; rfl⟩
/-- the cells of a row -/
def cells (f : Nat → Int) : Array Value := ((List.range 17).map fun i => Value.int .i64 (f i)).toArray
theorem cells_size (f : Nat → Int) : (cells f).size = 17 := by simp [cells]
theorem cells_get (f : Nat → Int) {i : Nat} (h : i < 17) : (cells f)[i]? = some (.int .i64 (f i)) := by simp [cells, h]
theorem cells_set (f : Nat → Int) (k : Nat) (x : Int) : (cells f).setIfInBounds k (.int .i64 x) = cells fun i => if i = k then x else f i := by
  apply Array.ext
  · simp [cells]
  · intro i h1 h2
    simp [cells] at h2
    by_cases h : k = i
    · subst h; simp [cells]
    · have h' : ¬ i = k := fun e => h e.symm
      simp [cells, h, h']
theorem cells_zero : cells (fun _ => 0) = #[.int .i64 0, .int .i64 0, .int .i64 0, .int .i64 0, .int .i64 0, .int .i64 0, .int .i64 0, .int .i64 0, .int .i64 0, .int .i64 0, .int .i64 0, .int .i64 0, .int .i64 0, .int .i64 0, .int .i64 0, .int .i64 0, .int .i64 0] := by rfl
theorem cells_congr {f g : Nat → Int} (h : ∀ i, i < 17 → f i = g i) : cells f = cells g := by
  unfold cells
  congr 1
  apply List.map_congr_left
  intro i hi
  rw [h i (List.mem_range.1 hi)]
theorem says_cells {f : Nat → Int} {k : Nat} {q : Int} (h : (⟨k, q⟩ : Dot).Ok) : (cells f).setIfInBounds k (.int .i64 (if f k < q then q else f k)) = cells (sayS f ⟨k, q⟩) := by
  rw [cells_set]
  refine cells_congr fun i _ => ?_
  unfold sayS
  by_cases hi : i = k
  · subst hi
    rw [if_pos rfl]
    have : (if (⟨i, q⟩ : Dot).Ok ∧ (⟨i, q⟩ : Dot).site = i then (if f i < q then q else f i) else f i) = if f i < q then q else f i := if_pos ⟨h, rfl⟩
    exact this.symm
  · rw [if_neg hi, if_neg]
    intro ⟨_, e⟩
    have e : (k : Int) = i := e
    omega
theorem sayS_none {f : Nat → Int} {d : Dot} (h : ¬ d.Ok) : sayS f d = f := by
  funext i
  unfold sayS
  rw [if_neg (fun e => h e.1)]
theorem cells_one (f : Nat → Int) : (cells f).all (·.oneCell') = true := by simp [cells, Value.oneCell']
theorem SlAt.dot {w : World} {v : Value} {L : List Dot} (h : SlAt dotE w v L) (hn : 0 < L.length) : ∃ g o c, v = .slice (some ⟨g, o, none⟩) L.length c ∧ g < w.heap.size ∧ ∀ (i : Nat) (x : Dot), L[i]? = some x →
    w.cell? ⟨g, o + i * 2, none⟩ = some (.int .i64 x.site) ∧ w.cell? ⟨g, o + i * 2 + 1, none⟩ = some (.int .i64 x.seq) := by
  obtain ⟨g, o, c, rfl, _, _, hg, hc⟩ := h.one hn
  exact ⟨g, o, c, rfl, hg, fun i x hx => ⟨hc i x hx 0 _ rfl, hc i x hx 1 _ rfl⟩⟩
theorem site_any (n : Int) (w : World) : Calls Tryz.prog 84 #[.int .i64 n] w fun e w' => e = .returned (.bool (decide (isSite n))) ∧ w' = w := by
  unfold isSite
  go_enter Tryz.func84, Tryz.ntmps84
  by_cases h1 : 1 ≤ n
  · by_cases h2 : n ≤ 16
    · have e : decide (1 ≤ n ∧ n ≤ 16) = true := decide_eq_true ⟨h1, h2⟩
      rw [e]
      go_wp2_with fail
      go_ret
      exact ⟨rfl, rfl⟩
    · have e : decide (1 ≤ n ∧ n ≤ 16) = false := decide_eq_false fun h => h2 h.2
      rw [e]
      go_wp2_with fail
      go_ret
      exact ⟨rfl, rfl⟩
  · have e : decide (1 ≤ n ∧ n ≤ 16) = false := decide_eq_false fun h => h1 h.1
    rw [e]
    go_wp2_with fail
    go_ret
    exact ⟨rfl, rfl⟩
set_option maxRecDepth 100000 in
set_option maxHeartbeats 4000000 in
theorem of_grew {w : World} {v : Value} {L : List Dot} (h : SlAt dotE w v L) (hb : L.length ≤ 1000000000) : Calls Tryz.prog 124 #[v] w fun e w' => e = .returned (.agg (cells (says L))) ∧ Grew w w' := by
  obtain ⟨a, c, rfl, _, _⟩ := h.sl
  have HS := Lib.hid h
  clear h
  go_enter Tryz.func124, Tryz.ntmps124
  go_wp2_with fail
  go_loopw [8] (fun iv wr => ∃ n : Nat, iv = .int .i64 n ∧ n ≤ L.length ∧ Blk wr (w.heap.size + 1) 202 (cells (says (L.take n))) ∧ Blk wr w.heap.size 202 (cells fun _ => 0) ∧ Grew w wr) (fun iv _ => L.length - (intOf iv).toNat)
  case atStart =>
    refine ⟨0, rfl, Nat.zero_le _, ?_, (Blk.new _ _ _).alloc _, ((Grew.refl _).alloc _).alloc _⟩
    have := Blk.new (w.alloc (.cells (cells fun _ => 0) 202)) 202 (cells fun _ => 0)
    rw [show (w.alloc (.cells (cells fun _ => 0) 202)).heap.size = w.heap.size + 1 by simp] at this
    exact this
  case round =>
    obtain ⟨n, rfl, hn, hs, hr, hk⟩ := hrel
    have hn0 : (0 : Int) ≤ n := by omega
    by_cases hlt : n < L.length
    case neg =>
      have hnl : ¬ (n : Int) < L.length := by omega
      rw [List.take_of_length_le (by omega)] at hs
      have HS' := Lib.hid hs
      have HR := Lib.hid hr
      have x3 := Lib.hid (hk.setRow (g := w.heap.size) (Nat.le_refl _) (cells (says L)))
      clear hs hr hk
      go_wp2_with (first
        | (refine wpList_load_row rfl 202 _ rfl (w.heap.size + 1) rfl 202 _ (0, 0) _ HS'.out Tryz.underlying202 rfl (by rw [cells_size]; kernel_rfl) ?_)
        | (refine wpList_store_row rfl 202 _ _ rfl w.heap.size (cells (says L)) rfl rfl 202 _ HR.out (by rw [cells_size]; kernel_rfl) (by rw [cells_size, cells_size]) (cells_one _) ?_))
      exact bodyPost_ret (Blk.result rfl _ (HR.out.row _) rfl Tryz.underlying202 rfl (by rw [cells_size]; kernel_rfl)) rfl ⟨rfl, x3.out⟩
    case pos =>
      have hltI : (n : Int) < L.length := by omega
      obtain ⟨d, hd⟩ := get_of_lt hlt
      obtain ⟨g, o, c', hv, hg, hc⟩ := SlAt.dot (HS.out.kept hk.kept) (by omega)
      cases hv
      obtain ⟨c0, c1⟩ := hc n d hd
      have hsay := Lib.hid (says_take hd)
      generalize says (L.take n) = f at *
      obtain ⟨ds, dq⟩ := d
      have K0 := Lib.hid (hk.alloc (.cells #[.int .i64 ds, .int .i64 dq] 29))
      have FS := Lib.hid (hs.alloc (.cells #[.int .i64 ds, .int .i64 dq] 29))
      have FR := Lib.hid (hr.alloc (.cells #[.int .i64 ds, .int .i64 dq] 29))
      have hsz := hs.lt
      have H1 := Lib.hid hs
      have H2 := Lib.hid hr
      have H3 := Lib.hid hk
      clear hc hd
      by_cases hok : (⟨ds, dq⟩ : Dot).Ok
      case pos =>
        have hok' := hok
        unfold Dot.Ok at hok'
        simp only at hok' c0 c1
        obtain ⟨k, rfl⟩ : ∃ k : Nat, ds = k := ⟨ds.toNat, by omega⟩
        have hsite : decide (isSite k) = true := decide_eq_true ⟨by omega, by omega⟩
        have h1 := hok'.2.2.1
        have h2 := hok'.2.2.2
        have hkl : k < 17 := by omega
        have hkI : (k : Int) < 17 := by omega
        have hk0 : (0 : Int) ≤ k := by omega
        have s0 := FS.out.cell' (cells_get f hkl)
        have fz := FS.out.frozen k
        have hse := Lib.hid (site_any k)
        have hmx : (if f k < dq then dq else f k) = sayS f ⟨k, dq⟩ k := by
          have : sayS f ⟨k, dq⟩ k = if f k < dq then dq else f k := if_pos ⟨hok, rfl⟩
          exact this.symm
        have OK := Lib.hid hok
        have MX := Lib.hid hmx
        clear hs hr hk hok' hok hmx
        go_wp2_with (go_at_call 84; refine (hse.out _).mono ?_; rintro e w1 ⟨rfl, rfl⟩; rw [hsite])
        go_region
        go_wp2_with fail
        go_roundw
        case rel =>
          refine ⟨n + 1, by go_num, by omega, ?_, ((H2.out.far (by show w.heap.size ≠ w.heap.size + 1; omega) _).alloc _).drewN 1, ((H3.out.setCell (by show w.heap.size ≤ w.heap.size + 1; omega) _).alloc _).drewN 1⟩
          rw [hsay.out, ← says_cells OK.out]
          exact ((H1.out.set_ k _).alloc _).drewN 1
        case measure => simp [intOf] <;> omega
      case neg =>
        have K1 := Lib.hid hok
        have S1 := Lib.hid hsay
        by_cases h1 : 1 ≤ ds
        by_cases h2 : ds ≤ 16
        by_cases h3 : 1 ≤ dq
        by_cases h4 : dq ≤ 2147483647
        · exact absurd ⟨h1, h2, h3, h4⟩ hok
        have hsite : decide (isSite ds) = true := decide_eq_true ⟨h1, h2⟩
        rotate_left
        have hsite : decide (isSite ds) = true := decide_eq_true ⟨h1, h2⟩
        rotate_left
        have hsite : decide (isSite ds) = false := decide_eq_false fun h => h2 h.2
        rotate_left
        have hsite : decide (isSite ds) = false := decide_eq_false fun h => h1 h.1
        rotate_left
        all_goals
          have hse := Lib.hid (site_any ds)
          clear hs hr hk hok hsay
          go_wp2_with (go_at_call 84; refine (hse.out _).mono ?_; rintro e w1 ⟨rfl, rfl⟩; rw [hsite])
          go_roundw
          focus
            refine ⟨n + 1, by go_num, by omega, ?_, FR.out, K0.out⟩
            rw [S1.out, sayS_none K1.out]
            exact FS.out
        all_goals simp [intOf] <;> omega
theorem of_any {w : World} {v : Value} {L : List Dot} (h : SlAt dotE w v L) (hb : L.length ≤ 1000000000) : Calls Tryz.prog 124 #[v] w fun e w' => e = .returned (.agg (cells (says L))) ∧ Kept (fun _ => False) w w' := (of_grew h hb).mono fun _ _ ⟨he, hg⟩ => ⟨he, hg.kept⟩
end Go.Proofs.YtjohljmpcblpjaaGreatDoor
namespace Go.Proofs.YtjohljmpcblpjaaGreatDoor
open Go.RowKit
theorem wpList_append_row {P : Program} {α : Type} (E : Enc α) {w : World} {ops : Array Oper} {rest : List Oper} {o : Oper} {a : Act} {Q : Exit → Act → World → Prop} (hgd : o.guard = none) (s x : Operand) (t : TypeId)
    (ho : o.op = .call { callee := .builtin .append, args := #[s, x], argTypes := #[t, t] }) (base : Nat) (e : TypeId) (z : Value) (bytes : Nat) (ht : P.underlying t = some (.slice e))
    (hinfo : (P.info? e).map (fun i => (i.zero, i.size, i.bytes)) = some (some z, E.k, bytes)) (hzs : z.cells.size = E.k) {v vs : Value} {D L : List α} (hs : a.eval s = v) (hx : a.eval x = vs)
    (hown : w.ownsRow base e E.k v D.length (E.flat D)) (hL : SlAt E w vs L) (h63 : D.length + L.length ≤ maxLen) (hbytes : (D.length + L.length) * bytes ≤ 140737488355328) (hbase : base ≤ w.heap.size)
    (h : ∀ v' w', w'.ownsRow base e E.k v' (D ++ L).length (E.flat (D ++ L)) → Kept (fun b => v.ownBlock = some b) w w' → wpList P ops Q rest (a.put o.dst v') w') : wpList P ops Q (o :: rest) a w := by
  obtain ⟨i0, hi, hz0, hz1, hz2⟩ := info_parts hinfo
  obtain ⟨ad, c, rfl, _, _⟩ := hL.sl
  cases ad with
  | none =>
    obtain ⟨rfl, _, rfl⟩ := hL.none_
    refine wpList_append_own_none hgd s x t ho base e i0 E.k ht hi v D.length (E.flat D) hs hown hx ?_
    refine h v w ?_ (Kept.refl _ _)
    rw [List.append_nil]
    exact hown
  | some y =>
    obtain ⟨_, hn⟩ := hL.at_
    refine wpList_append_own _ hgd s x t ho base e i0 z E.k bytes ht hi hz0 hz1 hz2 hzs E.pos v D.length (E.flat D) hs hown y L.length c (E.flat L) hx (E.flat_len L) hn (E.flat_one_cell L) h63 hbytes hbase ?_
    intro v' w' ho' hg _
    refine h v' w' ?_ (Kept.grown (Kept.refl _ _) hg (fun k e _ => e))
    rw [List.length_append, E.flat_append]
    exact ho'
theorem owns_new {w : World} {base n size : Nat} {e : TypeId} {v : Value} {xs : List Value} (h : w.ownsRow base e size v n xs) : ∀ b, v.ownBlock = some b → base ≤ b := fun b hb => by
  rcases h.2 with ⟨e2, _⟩ | ⟨g3, c2, cur, e2, h1, h2, _⟩
  · rw [e2] at hb; cases hb
  · rw [e2] at hb; cases hb; exact h1
/-- a frame that spares what was there at w -/
theorem Kept.over {w w1 w2 : World} {S : Nat → Prop} (h : Kept (fun _ => False) w w1) (k : Kept S w1 w2) (hb : ∀ b, S b → w.heap.size ≤ b) : Kept (fun _ => False) w w2 := h.trans k fun i hi e => by have := hb i e; omega
theorem SlAt.lit {α : Type} {E : Enc α} {w : World} {t : TypeId} (L : List α) (cs : Array Value) (hc : cs = (E.flat L).toArray) (hl : L.length ≤ maxLen) : SlAt E (w.alloc (.cells cs t)) (.slice (some ⟨w.heap.size, 0, none⟩) L.length L.length) L := by
  subst hc
  refine .inr ⟨⟨w.heap.size, 0, none⟩, L.length, rfl, Nat.le_refl _, hl, fun _ => rfl, fun i y hy j u hu => ?_⟩
  rw [Nat.zero_add]
  refine (Blk.new w t _).cell' ?_
  rw [← Array.getElem?_toList]
  exact E.flat_get hy hu
end Go.Proofs.YtjohljmpcblpjaaGreatDoor
namespace Go.Proofs.YtjohljmpcblpjaaGreatDoor
open Go.RowKit Go.Proofs.YtjohljmpcblpjaaGreatDoor.St
theorem info_dot : (Tryz.prog.info? 29).map (fun i => (i.zero, i.size, i.bytes)) = some (some (.agg #[.int .i64 0, .int .i64 0]), 2, 16) := by kernel_rfl
theorem lit_dot (w : World) (s q : Int) : SlAt dotE (w.alloc (.cells #[.int .i64 s, .int .i64 q] 29)) (.slice (some ⟨w.heap.size, 0, none⟩) 1 1) [(⟨s, q⟩ : Dot)] := SlAt.lit (E := dotE) [(⟨s, q⟩ : Dot)] _ rfl (by show 1 ≤ maxLen; decide)
theorem run_index_cells (f : Nat → Int) {n : Nat} (h : n < 17) (w : World) : (Instr.index 202 (.agg (cells f)) (.int .i64 n)).run Tryz.prog w = .ok (.int .i64 (f n)) w := by
  have h1 := cells_get f h
  have hI : (n : Int) < 17 := by omega
  simp [Instr.index, asIntOf, run_underlying Tryz.underlying202, part, isAgg, run_underlying Tryz.underlying3, Tryz.sizeOf3, h, h1, go_sem]
set_option maxRecDepth 100000 in
set_option maxHeartbeats 4000000 in
theorem vec_any (f : Nat → Int) (w : World) : Calls Tryz.prog 145 #[.agg (cells f)] w fun e w' => ∃ v', e = .returned v' ∧ w'.ownsRow w.heap.size 29 2 v' (vecOf f 17).length (dotE.flat (vecOf f 17)) ∧ Kept (fun _ => False) w w' := by
  go_enter Tryz.func145, Tryz.ntmps145
  go_wp2_with (first | (refine wpList_load_row rfl 202 _ rfl w.heap.size rfl 202 _ (0, 0) _ (Blk.new w _ _) Tryz.underlying202 rfl (by rw [cells_size]; kernel_rfl) ?_))
  go_loopw [3, 7] (fun vv iv wr => ∃ n : Nat, iv = .int .i64 n ∧ n ≤ 17 ∧ wr.ownsRow w.heap.size 29 dotE.k vv (vecOf f n).length (dotE.flat (vecOf f n)) ∧ Kept (fun _ => False) w wr) (fun _ iv _ => 17 - (intOf iv).toNat)
  case atStart => exact ⟨0, rfl, by decide, World.ownsRow_nil _ _ _ _, (Kept.refl _ _).alloc _⟩
  case round =>
    obtain ⟨n, rfl, hn, ho, hk⟩ := hrel
    have hn0 : (0 : Int) ≤ n := by omega
    by_cases hlt : n < 17
    case neg =>
      obtain rfl : n = 17 := by omega
      have HO := Lib.hid ho
      clear ho
      go_wp2_with fail
      go_ret
      exact ⟨_, rfl, HO.out, hk⟩
    case pos =>
      have hI : (n : Int) < 17 := by omega
      have hix := run_index_cells f hlt
      have hs := vecOf_succ f n
      have hl := vecOf_len f n
      by_cases hp : 0 < f n
      case neg =>
        rw [if_neg hp] at hs
        have HO := Lib.hid ho
        have HS := Lib.hid hs
        clear ho hs hl
        go_wp2_with fail
        go_roundw
        case rel => exact ⟨n + 1, by go_num, by omega, by rw [HS.out]; exact HO.out, hk⟩
        case measure => simp [intOf] <;> omega
      case pos =>
        rw [if_pos hp] at hs
        generalize vecOf f n = V at *
        have HO := Lib.hid (show (wr.alloc (.cells #[.int .i64 n, .int .i64 (f n)] 29)).ownsRow w.heap.size 29 dotE.k _ V.length (dotE.flat V) from ho.alloc _)
        have HS := Lib.hid hs
        have HK := Lib.hid (hk.alloc (.cells #[.int .i64 n, .int .i64 (f n)] 29))
        have LD := Lib.hid (lit_dot wr n (f n))
        have hsz := Lib.hid (hk.size)
        have NW := Lib.hid (owns_new ho)
        clear ho hs hk
        go_wp2_with (at_builtin; (refine wpList_append_row dotE rfl (.tmp 13) (.tmp 17) 24 rfl w.heap.size 29 (.agg #[.int .i64 0, .int .i64 0]) 16 Tryz.underlying24 info_dot rfl rfl rfl HO.out LD.out (by unfold maxLen; simp; omega) (by simp; omega) (by have := hsz.out; simp; omega) ?_); (intro v2 w2 ho2 hk2; have K2 : Hid (Kept (fun _ => False) w w2) := Lib.hid (HK.out.trans hk2 (fun b hb e => by have := NW.out b e; omega)); have O2 := Lib.hid ho2; clear hk2 ho2))
        go_roundw
        case rel => exact ⟨n + 1, by go_num, by omega, by rw [HS.out]; exact O2.out, K2.out⟩
        case measure => simp [intOf] <;> omega
end Go.Proofs.YtjohljmpcblpjaaGreatDoor
namespace Go.Proofs.YtjohljmpcblpjaaGreatDoor
open Go.RowKit Go.Proofs.YtjohljmpcblpjaaGreatDoor.St
theorem greater_any (x y : Int) (w : World) : Calls Tryz.prog 142 #[.int .i64 x, .int .i64 y] w fun e w' => e = .returned (.int .i64 (if x < y then y else x)) ∧ w' = w := by
  go_enter Tryz.func142, Tryz.ntmps142
  by_cases h : x < y
  · rw [if_pos h]
    go_wp2_with fail
    go_ret
    exact ⟨rfl, rfl⟩
  · rw [if_neg h]
    go_wp2_with fail
    go_ret
    exact ⟨rfl, rfl⟩
theorem get_grew {w : World} {v : Value} {L : List Dot} (h : SlAt dotE w v L) (hb : L.length ≤ 1000000000) (s : Int) : Calls Tryz.prog 85 #[v, .int .i64 s] w fun e w' => e = .returned (.int .i64 (getV L s)) ∧ Grew w w' := by
  have hs := site_any s
  have ho := of_grew h hb
  unfold getV
  go_enter Tryz.func85, Tryz.ntmps85
  by_cases hi : isSite s
  · rw [decide_eq_true hi] at hs
    rw [if_pos hi]
    unfold isSite at hi
    obtain ⟨k, rfl⟩ : ∃ k : Nat, s = k := ⟨s.toNat, by omega⟩
    have hix := run_index_cells (says L) (n := k) (by omega)
    rw [Int.toNat_natCast]
    go_wp2_with (first
      | (go_at_call 84; refine (hs _).mono ?_; rintro e w1 ⟨rfl, rfl⟩)
      | (go_at_call 124; refine ho.mono ?_; rintro e w1 ⟨rfl, hk1⟩))
    go_ret
    exact ⟨rfl, hk1⟩
  · rw [decide_eq_false hi] at hs
    rw [if_neg hi]
    go_wp2_with (go_at_call 84; refine (hs _).mono ?_; rintro e w1 ⟨rfl, rfl⟩)
    go_ret
    exact ⟨rfl, Grew.refl _⟩
theorem get_any {w : World} {v : Value} {L : List Dot} (h : SlAt dotE w v L) (hb : L.length ≤ 1000000000) (s : Int) : Calls Tryz.prog 85 #[v, .int .i64 s] w fun e w' => e = .returned (.int .i64 (getV L s)) ∧ Kept (fun _ => False) w w' := (get_grew h hb s).mono fun _ _ ⟨he, hg⟩ => ⟨he, hg.kept⟩
theorem sumTo_bd (f : Nat → Int) (hf : ∀ i, 0 ≤ f i ∧ f i ≤ 2147483647) : ∀ n : Nat, 0 ≤ sumTo f n ∧ sumTo f n ≤ 2147483647 * n
  | 0 => by simp [sumTo]
  | n + 1 => by
    have := sumTo_bd f hf n
    have := hf n
    show 0 ≤ sumTo f n + f n ∧ sumTo f n + f n ≤ 2147483647 * ((n + 1 : Nat) : Int)
    omega
theorem hasV_any {w : World} {v : Value} {L : List Dot} (h : SlAt dotE w v L) (hb : L.length ≤ 1000000000) (d : Dot) : Calls Tryz.prog 48 #[v, .agg #[.int .i64 d.site, .int .i64 d.seq]] w fun e w' => e = .returned (.bool (decide (hasV L d))) ∧ Kept (fun _ => False) w w' := by
  have hg := Lib.hid (fun (w' : World) (hk : Kept (fun _ => False) w w') => get_any (h.kept hk) hb d.site)
  have hB := Blk.new w 29 #[.int .i64 d.site, .int .i64 d.seq]
  have b0 : (w.alloc (.cells #[.int .i64 d.site, .int .i64 d.seq] 29)).cell? ⟨w.heap.size, 0, none⟩ = some (.int .i64 d.site) := hB.cell' (i := 0) rfl
  have b1 : (w.alloc (.cells #[.int .i64 d.site, .int .i64 d.seq] 29)).cell? ⟨w.heap.size, 1, none⟩ = some (.int .i64 d.seq) := hB.cell' (i := 1) rfl
  have KD : Kept (fun _ => False) w (w.alloc (.cells #[.int .i64 d.site, .int .i64 d.seq] 29)).drew := ((Kept.refl _ _).alloc _).drewN 1
  unfold hasV
  clear hB h
  go_enter Tryz.func48, Tryz.ntmps48
  by_cases h1 : 1 ≤ d.seq
  · have hd1 : decide (1 ≤ d.seq) = true := decide_eq_true h1
    go_wp2_with fail
    go_region_held3 (fun w' => Kept (fun _ => False) w w' ∧ w'.cell? ⟨w.heap.size, 0, none⟩ = some (.int .i64 d.site) ∧ w'.cell? ⟨w.heap.size, 1, none⟩ = some (.int .i64 d.seq)) (first | (with_reducible exact ⟨KD, b0, b1⟩) | go_keep)
      (first | (go_simp; go_at_call 85; refine (hg.out _ KD).mono ?_; rintro e w1 ⟨rfl, hk1⟩; have KE := KD.trans hk1 (fun _ _ h => h); have b0 := hk1.cell b0; have b1 := hk1.cell b1))
    go_wp2_with fail
    go_ret
    exact ⟨by simp [h1], KE⟩
  · have hd1 : decide (1 ≤ d.seq) = false := decide_eq_false h1
    have e2 : decide (1 ≤ d.seq ∧ d.seq ≤ getV L d.site) = false := decide_eq_false fun h => h1 h.1
    go_wp2_with fail
    go_region
    go_wp2_with fail
    go_ret
    exact ⟨congrArg (fun b => Ending.returned (.bool b)) e2.symm, KD⟩
end Go.Proofs.YtjohljmpcblpjaaGreatDoor
namespace Go.Proofs.YtjohljmpcblpjaaGreatDoor
open Go.RowKit Go.Proofs.YtjohljmpcblpjaaGreatDoor.St
/-- the row of 17 zeros -/
abbrev zero17 : Array Value := #[.int .i64 0, .int .i64 0, .int .i64 0, .int .i64 0, .int .i64 0, .int .i64 0, .int .i64 0, .int .i64 0, .int .i64 0, .int .i64 0, .int .i64 0, .int .i64 0, .int .i64 0, .int .i64 0, .int .i64 0, .int .i64 0, .int .i64 0]
theorem max_next (A B : List Dot) (n : Nat) : (cells fun i => if i = n then maxV A B n else if i < n then maxV A B i else says A i) = cells fun i => if i < n + 1 then maxV A B i else says A i :=
  cells_congr fun i _ => by
    by_cases h : i = n
    · subst h; rw [if_pos rfl, if_pos (Nat.lt_succ_self i)]
    · rw [if_neg h]
      by_cases h2 : i < n
      · rw [if_pos h2, if_pos (by omega)]
      · rw [if_neg h2, if_neg (by omega)]
set_option maxRecDepth 100000 in
set_option maxHeartbeats 4000000 in
theorem with_grew {w : World} {va vb : Value} {A B : List Dot} (ha : SlAt dotE w va A) (hb : SlAt dotE w vb B) (hla : A.length ≤ 1000000000) (hlb : B.length ≤ 1000000000) :
    Calls Tryz.prog 141 #[va, vb, .func (.func 142) #[] #[]] w fun e w' => e = .returned (.agg (cells (maxV A B))) ∧ Grew w w' := by
  have k0 : Grew w (w.alloc (.cells zero17 202)) := (Grew.refl _).alloc _
  have B0 := Lib.hid (Blk.new w 202 zero17)
  have s0 : (w.alloc (.cells zero17 202)).heap.size = w.heap.size + 1 := by simp
  have hoa := of_grew (ha.kept k0.kept) hla
  have HB := Lib.hid (hb.kept k0.kept)
  clear ha hb
  go_enter Tryz.func141, Tryz.ntmps141
  go_upto_region 1 with (fail)
  generalize w.alloc (.cells zero17 202) = w0 at *
  go_wp2_with (first
      | (refine wpList_store_row rfl 202 _ _ rfl (w2.heap.size + 1) (cells (says B)) rfl rfl 202 zero17 (P2.out.row_far (by omega) _) (by rw [cells_size]; kernel_rfl) (by rw [cells_size]; rfl) (cells_one _) ?_)
      | (refine wpList_store_row rfl 202 _ _ rfl w2.heap.size (cells (says A)) rfl rfl 202 zero17 P1.out (by rw [cells_size]; kernel_rfl) (by rw [cells_size]; rfl) (cells_one _) ?_)
      | (go_at_call 124; refine (of_grew (HB.out.kept hk1.kept) hlb).mono ?_; rintro e w2 ⟨rfl, hk2⟩; have P1 := Lib.hid ((Blk.new w2 202 zero17).alloc (.cells zero17 202)); have P2 : Hid (Blk ((w2.alloc (.cells zero17 202)).alloc (.cells zero17 202)) (w2.heap.size + 1) 202 zero17) := Lib.hid (by have := Blk.new (w2.alloc (.cells zero17 202)) 202 zero17; simpa using this))
      | (go_at_call 124; refine hoa.mono ?_; rintro e w1 ⟨rfl, hk1⟩))
  have k13 : Grew w0 w2 := hk1.trans hk2
  have s2 := k13.size
  have k3 : Grew w (((w2.alloc (.cells zero17 202)).alloc (.cells zero17 202)).setRow w2.heap.size (cells (says A)) |>.setRow (w2.heap.size + 1) (cells (says B))) :=
    ((((k0.trans k13).alloc _).alloc _).setRow (by omega) _).setRow (by omega) _
  have Q0 := (((k13.kept.blk (fun h => h) B0.out).alloc (.cells zero17 202)).alloc (.cells zero17 202)).row_far (g := w2.heap.size) (by omega) (cells (says A)) |>.row_far (g := w2.heap.size + 1) (by omega) (cells (says B))
  have Q1 := (P1.out.row (cells (says A))).row_far (g := w2.heap.size + 1) (by omega) (cells (says B))
  have Q2 := (P2.out.row_far (g := w2.heap.size) (by omega) (cells (says A))).row (cells (says B))
  have hne : w.heap.size < w2.heap.size := by omega
  generalize (((w2.alloc (.cells zero17 202)).alloc (.cells zero17 202)).setRow w2.heap.size (cells (says A))).setRow (w2.heap.size + 1) (cells (says B)) = w3 at *
  have K3 := Lib.hid k3
  have R0 := Lib.hid Q0
  have R1 := Lib.hid Q1
  have R2 := Lib.hid Q2
  clear hoa HB P1 P2 B0 k0 hk1 hk2 k13 s2 s0 k3 Q0 Q1 Q2
  go_loopw [14] (fun iv wr => ∃ n : Nat, iv = .int .i64 n ∧ n ≤ 17 ∧ Blk wr w2.heap.size 202 (cells fun i => if i < n then maxV A B i else says A i) ∧ Blk wr (w2.heap.size + 1) 202 (cells (says B)) ∧ Blk wr w.heap.size 202 zero17 ∧ Grew w wr) (fun iv _ => 17 - (intOf iv).toNat)
  case atStart => exact ⟨0, rfl, by decide, R1.out, R2.out, R0.out, K3.out⟩
  case round =>
    clear K3 R0 R1 R2
    obtain ⟨n, rfl, hn, h1, h2, h0, hk⟩ := hrel
    have hn0 : (0 : Int) ≤ n := by omega
    by_cases hlt : n < 17
    case neg =>
      obtain rfl : n = 17 := by omega
      have e : cells (fun i => if i < 17 then maxV A B i else says A i) = cells (maxV A B) := cells_congr fun i hi => if_pos hi
      rw [e] at h1
      have H1 := Lib.hid h1
      have H0 := Lib.hid h0
      have HK := Lib.hid (hk.setRow (g := w.heap.size) (Nat.le_refl _) (cells (maxV A B)))
      clear h1 h2 h0 hk e
      go_wp2_with (first
        | (refine wpList_load_row rfl 202 _ rfl w2.heap.size rfl 202 _ (0, 0) _ H1.out Tryz.underlying202 rfl (by rw [cells_size]; kernel_rfl) ?_)
        | (refine wpList_store_row rfl 202 _ _ rfl w.heap.size (cells (maxV A B)) rfl rfl 202 zero17 H0.out (by rw [cells_size]; kernel_rfl) (by rw [cells_size]; rfl) (cells_one _) ?_))
      exact bodyPost_ret (Blk.result rfl _ (H0.out.row _) rfl Tryz.underlying202 rfl (by rw [cells_size]; kernel_rfl)) rfl ⟨rfl, HK.out⟩
    case pos =>
      have hI : (n : Int) < 17 := by omega
      have c1 : wr.cell? ⟨w2.heap.size, n, none⟩ = some (.int .i64 (says A n)) := by
        have := h1.cell' (cells_get _ hlt)
        rwa [if_neg (Nat.lt_irrefl n)] at this
      have c2 := h2.cell' (cells_get (says B) hlt)
      have f1 := h1.frozen n
      have hgr := greater_any (says A n) (says B n)
      have H1 := Lib.hid h1
      have H2 := Lib.hid h2
      have H0 := Lib.hid h0
      have HK := Lib.hid hk
      have MX : (if says A n < says B n then says B n else says A n) = maxV A B n := rfl
      rw [MX] at hgr
      generalize hmx : maxV A B n = mx at *
      have MX2 := Lib.hid hmx
      clear hmx
      clear h1 h2 h0 hk
      go_wp2_with fail
      go_region_calls
      all_goals
        go_wp2_with fail
        go_roundw
        focus
          refine ⟨n + 1, by go_num, by omega, ?_, ((H2.out.far (by show w2.heap.size + 1 ≠ w2.heap.size; omega) _).drewN 1), ((H0.out.far (by show w.heap.size ≠ w2.heap.size; omega) _).drewN 1), (HK.out.setCell (by show w.heap.size ≤ w2.heap.size; omega) _).drewN 1⟩
          have := (H1.out.set_ n (.int .i64 mx)).drewN 1
          rw [cells_set, ← MX2.out, max_next] at this
          rw [← MX2.out]
          exact this
        focus
          simp [intOf] <;> omega
theorem with_any {w : World} {va vb : Value} {A B : List Dot} (ha : SlAt dotE w va A) (hb : SlAt dotE w vb B) (hla : A.length ≤ 1000000000) (hlb : B.length ≤ 1000000000) :
    Calls Tryz.prog 141 #[va, vb, .func (.func 142) #[] #[]] w fun e w' => e = .returned (.agg (cells (maxV A B))) ∧ Kept (fun _ => False) w w' := (with_grew ha hb hla hlb).mono fun _ _ ⟨he, hg⟩ => ⟨he, hg.kept⟩
theorem run_part (f : Nat → Int) {i : Nat} (h : i < 17) (w : World) : (part 3 (cells f) i).run Tryz.prog w = .ok (.int .i64 (f i)) w := by
  have h1 := cells_get f h
  simp [part, isAgg, run_underlying Tryz.underlying3, h1]
theorem run_eq_loop (f g : Nat → Int) (w : World) : ∀ l : List Nat, (∀ i ∈ l, i < 17) →
    Sem.run Tryz.prog (forIn l ((none, ()) : Option Bool × Unit) fun i _ => do
      let a ← part 3 (cells f) i
      let b ← part 3 (cells g) i
      let c ← Op.equalIn 9999 3 a b
      if c = false then pure (ForInStep.done (some false, ())) else pure (ForInStep.yield (none, ()))) w = .ok (if l.all fun i => f i == g i then (none, ()) else (some false, ())) w
  | [], _ => by simp
  | i :: l, h => by
    have hi := h i (List.mem_cons_self ..)
    have ih := run_eq_loop f g w l (fun j hj => h j (List.mem_cons_of_mem _ hj))
    rw [List.forIn_cons]
    have he : ∀ a b : Int, (Op.equalIn 9999 3 (.int .i64 a) (.int .i64 b)).run Tryz.prog w = .ok (a == b) w := fun a b => run_equalIn_int (P := Tryz.prog) w 9998 _ .i64 _ a b Tryz.underlying3
    by_cases hfg : f i = g i
    · simp [Sem.run_bind, run_part f hi, run_part g hi, he, hfg, ih]
    · simp [Sem.run_bind, run_part f hi, run_part g hi, he, hfg]
theorem eq_cells (f g : Nat → Int) (w : World) : (binOp .eql 202 (.agg (cells f)) (.agg (cells g))).run Tryz.prog w = .ok (.bool ((List.range' 0 17).all fun i => f i == g i)) w := by
  rw [run_eql_struct]
  unfold Op.equalIn
  simp [run_underlying Tryz.underlying202]
  rw [run_eq_loop f g w _ (fun i hi => by simpa using hi)]
  by_cases h : ((List.range' 0 17).all fun i => f i == g i) = true
  · simp [h]
  · simp [h]
theorem covers_eq (A B : List Dot) : ((List.range' 0 17).all fun i => maxV A B i == says A i) = decide (coversV A B) := by
  rw [Bool.eq_iff_iff, decide_eq_true_iff, List.all_eq_true]
  unfold coversV maxV
  constructor
  · intro h i hi
    have := h i (by simpa using hi)
    simp only [beq_iff_eq] at this
    split at this <;> omega
  · intro h i hi
    have := h i (by simpa using hi)
    rw [if_neg (by omega)]
    simp
set_option maxRecDepth 100000 in
set_option maxHeartbeats 4000000 in
theorem covers_grew {w : World} {va vb : Value} {A B : List Dot} (ha : SlAt dotE w va A) (hb : SlAt dotE w vb B) (hla : A.length ≤ 1000000000) (hlb : B.length ≤ 1000000000) :
    Calls Tryz.prog 103 #[va, vb] w fun e w' => e = .returned (.bool (decide (coversV A B))) ∧ Grew w w' := by
  have hw := with_grew ha hb hla hlb
  have heq := eq_cells (maxV A B) (says A)
  rw [covers_eq] at heq
  go_enter Tryz.func103, Tryz.ntmps103
  go_wp2_with (first
    | (go_at_call 124; refine (of_grew (ha.kept hk1.kept) hla).mono ?_; rintro e w2 ⟨rfl, hk2⟩)
    | (go_at_call 141; refine hw.mono ?_; rintro e w1 ⟨rfl, hk1⟩))
  go_ret
  exact ⟨rfl, hk1.trans hk2⟩
theorem covers_any {w : World} {va vb : Value} {A B : List Dot} (ha : SlAt dotE w va A) (hb : SlAt dotE w vb B) (hla : A.length ≤ 1000000000) (hlb : B.length ≤ 1000000000) :
    Calls Tryz.prog 103 #[va, vb] w fun e w' => e = .returned (.bool (decide (coversV A B))) ∧ Kept (fun _ => False) w w' := (covers_grew ha hb hla hlb).mono fun _ _ ⟨he, hg⟩ => ⟨he, hg.kept⟩
end Go.Proofs.YtjohljmpcblpjaaGreatDoor
namespace Go.Proofs.YtjohljmpcblpjaaGreatDoor
open Go.RowKit Go.Proofs.YtjohljmpcblpjaaGreatDoor.St
theorem cells_add (L : List Dot) (k : Nat) (q : Int) : (cells (says L)).setIfInBounds k (.int .i64 q) = cells (fun i => if (i : Int) = (k : Int) then q else says L i) := by
  rw [cells_set]
  refine cells_congr fun i _ => ?_
  by_cases h : i = k
  · subst h; rw [if_pos rfl, if_pos rfl]
  · rw [if_neg h, if_neg (by omega)]
/-- what Add answers -/
def AddIs (w w' : World) (L : List Dot) (d : Dot) (v' : Value) : Prop :=
  (whyAdd L d ≠ 0 → v' = .slice none 0 0) ∧ (whyAdd L d = 0 → w'.ownsRow w.heap.size 29 2 v' (addV L d).length (dotE.flat (addV L d)))
set_option maxRecDepth 100000 in
set_option maxHeartbeats 4000000 in
theorem add_any {w : World} {v : Value} {L : List Dot} (h : SlAt dotE w v L) (hb : L.length ≤ 1000000000) (d : Dot) : Calls Tryz.prog 106 #[v, .agg #[.int .i64 d.site, .int .i64 d.seq]] w fun e w' =>
    ∃ v', e = .returned (.tuple #[v', .int .i64 (whyAdd L d)]) ∧ AddIs w w' L d v' ∧ Kept (fun _ => False) w w' := by
  obtain ⟨s, q⟩ := d
  have hse := site_any s
  have hk0 : Kept (fun _ => False) w (w.alloc (.cells #[.int .i64 s, .int .i64 q] 29)) := (Kept.refl _ _).alloc _
  have hB := Blk.new w 29 #[.int .i64 s, .int .i64 q]
  have b0 : (w.alloc (.cells #[.int .i64 s, .int .i64 q] 29)).cell? ⟨w.heap.size, 0, none⟩ = some (.int .i64 s) := hB.cell' (i := 0) rfl
  have b1 : (w.alloc (.cells #[.int .i64 s, .int .i64 q] 29)).cell? ⟨w.heap.size, 1, none⟩ = some (.int .i64 q) := hB.cell' (i := 1) rfl
  have KD := Lib.hid hk0
  have KD2 := hk0.drew
  have hg := Lib.hid (fun (w' : World) (hk : Kept (fun _ => False) w w') => get_any (h.kept hk) hb s)
  have HO := Lib.hid (fun (w' : World) (hk : Kept (fun _ => False) w w') => of_any (h.kept hk) hb)
  have wa : whyAdd L ⟨s, q⟩ = if ¬ isSite s ∨ q < 1 then 1 else if 2147483647 < q then 17 else if q ≠ getV L s + 1 then 9 else 0 := rfl
  clear h hB hk0
  by_cases hs : isSite s
  case neg =>
    rw [if_pos (.inl hs)] at wa
    have hd := decide_eq_false hs
    rw [hd] at hse
    have WA := Lib.hid wa
    clear wa hd hs
    go_enter Tryz.func106, Tryz.ntmps106
    go_wp2_with (go_at_call 84; refine (hse _).mono ?_; rintro e w1 ⟨rfl, rfl⟩)
    go_ret2
    exact ⟨_, by rw [WA.out]; rfl, ⟨fun _ => rfl, fun h => by rw [WA.out] at h; cases h⟩, KD.out⟩
  case pos =>
  have hd := decide_eq_true hs
  rw [hd] at hse
  by_cases h1 : q < 1
  · rw [if_pos (.inr h1)] at wa
    have WA := Lib.hid wa
    clear wa hd hs
    go_enter Tryz.func106, Tryz.ntmps106
    go_wp2_with (go_at_call 84; refine (hse _).mono ?_; rintro e w1 ⟨rfl, rfl⟩)
    go_ret2
    exact ⟨_, by rw [WA.out]; rfl, ⟨fun _ => rfl, fun h => by rw [WA.out] at h; cases h⟩, KD.out⟩
  rw [if_neg (fun h => by rcases h with h | h; exact h hs; exact h1 h)] at wa
  by_cases h2 : 2147483647 < q
  · rw [if_pos h2] at wa
    have WA := Lib.hid wa
    clear wa hd hs
    go_enter Tryz.func106, Tryz.ntmps106
    go_wp2_with (go_at_call 84; refine (hse _).mono ?_; rintro e w1 ⟨rfl, rfl⟩)
    go_ret2
    exact ⟨_, by rw [WA.out]; rfl, ⟨fun _ => rfl, fun h => by rw [WA.out] at h; cases h⟩, KD.out⟩
  rw [if_neg h2] at wa
  have gbd : 0 ≤ getV L s ∧ getV L s ≤ 2147483647 := by
    unfold getV
    by_cases h : isSite s
    · rw [if_pos h]; exact says_bd L _
    · rw [if_neg h]; exact ⟨by decide, by decide⟩
  have hw : IntKind.i64.wrap (getV L s + 1) = getV L s + 1 := IntWalk.i64_in _ (by omega)
  by_cases h3 : q = getV L s + 1
  case neg =>
    rw [if_pos h3] at wa
    have hq : (q == getV L s + 1) = false := beq_eq_false_iff_ne.2 h3
    have WA := Lib.hid wa
    generalize getV L s = gv at *
    clear wa hd hs gbd h3
    go_enter Tryz.func106, Tryz.ntmps106
    go_wp2_with (go_at_call 84; refine (hse _).mono ?_; rintro e w1 ⟨rfl, rfl⟩)
    go_region_held3 (fun w' => Kept (fun _ => False) w w' ∧ w'.cell? ⟨w.heap.size, 0, none⟩ = some (.int .i64 s) ∧ w'.cell? ⟨w.heap.size, 1, none⟩ = some (.int .i64 q)) (first | (with_reducible exact ⟨KD2, b0, b1⟩) | go_keep)
      (first | (go_simp; go_at_call 85; refine (hg.out _ KD2).mono ?_; rintro e w1 ⟨rfl, hk1⟩; have KE := KD2.trans hk1 (fun _ _ h => h); have b0 := hk1.cell b0; have b1 := hk1.cell b1))
    have KF : Hid (Kept (fun _ => False) w w1) := Lib.hid KE
    go_wp2_with fail
    go_ret2
    exact ⟨_, by rw [WA.out]; rfl, ⟨fun _ => rfl, fun h => by rw [WA.out] at h; cases h⟩, KF.out⟩
  case pos =>
    rw [if_neg (fun h => h h3)] at wa
    have hq : (q == getV L s + 1) = true := beq_iff_eq.2 h3
    have WA := Lib.hid wa
    generalize getV L s = gv at *
    unfold isSite at hs
    obtain ⟨k, rfl⟩ : ∃ k : Nat, s = k := ⟨s.toNat, by omega⟩
    have hkI : (k : Int) < 17 := by omega
    have hk17 : k < 17 := by omega
    have hk0 : (0 : Int) ≤ k := by omega
    have Q3 := Lib.hid h3
    clear wa hd hs gbd h3
    go_enter Tryz.func106, Tryz.ntmps106
    go_wp2_with (go_at_call 84; refine (hse _).mono ?_; rintro e w1 ⟨rfl, rfl⟩)
    go_region_held3 (fun w' => Kept (fun _ => False) w w' ∧ w'.cell? ⟨w.heap.size, 0, none⟩ = some (.int .i64 k) ∧ w'.cell? ⟨w.heap.size, 1, none⟩ = some (.int .i64 q)) (first | (with_reducible exact ⟨KD2, b0, b1⟩) | go_keep)
      (first | (go_simp; go_at_call 85; refine (hg.out _ KD2).mono ?_; rintro e w1 ⟨rfl, hk1⟩; have KE := KD2.trans hk1 (fun _ _ h => h); have b0 := hk1.cell b0; have b1 := hk1.cell b1))
    have KF : Hid (Kept (fun _ => False) w w1) := Lib.hid KE
    have C0 := Lib.hid b0
    have C1 := Lib.hid b1
    clear b0 b1
    go_wp2_with (first
      | (refine wpList_load_row rfl 202 _ rfl w2.heap.size rfl 202 _ (0, 0) _ ((P2.out.row (cells (says L))).set_ k (.int .i64 q)) Tryz.underlying202 rfl (by rw [cells_add, cells_size]; kernel_rfl) ?_)
      | (refine wpList_store_row rfl 202 _ _ rfl w2.heap.size (cells (says L)) rfl rfl 202 zero17 P2.out (by rw [cells_size]; kernel_rfl) (by rw [cells_size]; rfl) (cells_one _) ?_; have f2 := (P2.out.row (cells (says L))).frozen k; have c2 := (P2.out.row (cells (says L))).cell' (cells_get (says L) hk17))
      | (go_at_call 124; refine (HO.out _ KF.out).mono ?_; rintro e w2 ⟨rfl, hk2⟩; have P2 := Lib.hid (Blk.new w2 202 zero17); have KG := Lib.hid (KF.out.trans hk2 (fun _ _ h => h)); have b0 := ((hk2.alloc (.cells zero17 202)).setRow (g := w2.heap.size) (fun h => by have := hk2.size; omega) (cells (says L))).cell C0.out; have b1 := ((hk2.alloc (.cells zero17 202)).setRow (g := w2.heap.size) (fun h => by have := hk2.size; omega) (cells (says L))).cell C1.out)
      | (go_at_call 145; rw [cells_add]; refine (vec_any _ _).mono ?_; rintro e w4 ⟨v4, rfl, ho4, hk4⟩))
    have K3 := ((KG.out.alloc (.cells zero17 202)).setRow (g := w2.heap.size) (fun h => by have := KG.out.size; omega) (cells (says L))).setCell (p := ⟨w2.heap.size, k, none⟩) (fun h => by have h : w2.heap.size < w.heap.size := h; have := KG.out.size; omega) (.int .i64 q)
    go_ret2
    exact ⟨_, by rw [WA.out]; rfl, ⟨fun h => absurd WA.out h, fun _ => owns_lower ho4 K3.size⟩, K3.trans hk4 (fun _ _ h => h)⟩
end Go.Proofs.YtjohljmpcblpjaaGreatDoor
namespace Go.Proofs.YtjohljmpcblpjaaGreatDoor
open Go.RowKit Go.Proofs.YtjohljmpcblpjaaGreatDoor.St
theorem check_step {L : List Dot} {n : Nat} {d : Dot} (hd : L[n]? = some d) (last : Int) : chkV last (L.drop n) = if ¬ isSite d.site then 1 else if d.seq < 1 ∨ 2147483647 < d.seq then 6 else if d.site ≤ last then 9 else chkV d.site (L.drop (n + 1)) := by
  obtain ⟨h1, rfl⟩ := List.getElem?_eq_some_iff.1 hd
  rw [List.drop_eq_getElem_cons h1]
  rfl
set_option maxRecDepth 100000 in
set_option maxHeartbeats 4000000 in
theorem vcheck_any {w : World} {v : Value} {L : List Dot} (h : SlAt dotE w v L) (hb : L.length ≤ 1000000000) : Calls Tryz.prog 47 #[v] w fun e w' => e = .returned (.int .i64 (chkV 0 L)) ∧ Kept (fun _ => False) w w' := by
  obtain ⟨a, c, rfl, _, _⟩ := h.sl
  have HS := Lib.hid h
  clear h
  go_enter Tryz.func47, Tryz.ntmps47
  go_wp2_with fail
  go_loopw [3, 8] (fun lv iv wr => ∃ (n : Nat) (last : Int), iv = .int .i64 n ∧ lv = .int .i64 last ∧ n ≤ L.length ∧ chkV 0 L = chkV last (L.drop n) ∧ Kept (fun _ => False) w wr) (fun _ iv _ => L.length - (intOf iv).toNat)
  case atStart => exact ⟨0, 0, rfl, rfl, Nat.zero_le _, rfl, Kept.refl _ _⟩
  case round =>
    obtain ⟨n, last, rfl, rfl, hn, hch, hk⟩ := hrel
    have hn0 : (0 : Int) ≤ n := by omega
    by_cases hlt : n < L.length
    case neg =>
      have hnl : ¬ (n : Int) < L.length := by omega
      rw [List.drop_of_length_le (by omega)] at hch
      have CH := Lib.hid hch
      clear hch
      go_wp2_with fail
      go_ret
      exact ⟨by rw [CH.out]; rfl, hk⟩
    case pos =>
      have hltI : (n : Int) < L.length := by omega
      obtain ⟨⟨s, q⟩, hd⟩ := get_of_lt hlt
      obtain ⟨g, o, c', hv, hg, hc⟩ := SlAt.dot (HS.out.kept hk) (by omega)
      cases hv
      obtain ⟨c0, c1⟩ := hc n _ hd
      rw [check_step hd] at hch
      simp only at hch c0 c1
      have K0 := Lib.hid (hk.alloc (.cells #[.int .i64 s, .int .i64 q] 29))
      have hse := site_any s
      clear hc hd hk
      by_cases h1 : isSite s
      case neg =>
        rw [if_pos h1] at hch
        rw [decide_eq_false h1] at hse
        have CH := Lib.hid hch
        clear hch h1
        go_wp2_with (go_at_call 84; refine (hse _).mono ?_; rintro e w1 ⟨rfl, rfl⟩)
        go_ret
        exact ⟨by rw [CH.out]; rfl, K0.out⟩
      case pos =>
      rw [if_neg (fun h => h h1)] at hch
      rw [decide_eq_true h1] at hse
      clear h1
      by_cases h2 : q < 1 ∨ 2147483647 < q
      · rw [if_pos h2] at hch
        have CH := Lib.hid hch
        clear hch
        by_cases h3 : q < 1
        · clear h2
          go_wp2_with (go_at_call 84; refine (hse _).mono ?_; rintro e w1 ⟨rfl, rfl⟩)
          go_ret
          exact ⟨by rw [CH.out]; rfl, K0.out⟩
        · have h4 : 2147483647 < q := h2.resolve_left h3
          clear h2
          go_wp2_with (go_at_call 84; refine (hse _).mono ?_; rintro e w1 ⟨rfl, rfl⟩)
          go_ret
          exact ⟨by rw [CH.out]; rfl, K0.out⟩
      rw [if_neg h2] at hch
      have h3 : ¬ q < 1 := fun h => h2 (.inl h)
      have h4 : ¬ 2147483647 < q := fun h => h2 (.inr h)
      clear h2
      by_cases h5 : s ≤ last
      · rw [if_pos h5] at hch
        have CH := Lib.hid hch
        clear hch
        go_wp2_with (go_at_call 84; refine (hse _).mono ?_; rintro e w1 ⟨rfl, rfl⟩)
        go_ret
        exact ⟨by rw [CH.out]; rfl, K0.out⟩
      · rw [if_neg h5] at hch
        have CH := Lib.hid hch
        clear hch
        go_wp2_with (go_at_call 84; refine (hse _).mono ?_; rintro e w1 ⟨rfl, rfl⟩)
        go_roundw
        case rel => exact ⟨n + 1, s, by go_num, rfl, by omega, CH.out, K0.out⟩
        case measure => simp [intOf] <;> omega
end Go.Proofs.YtjohljmpcblpjaaGreatDoor
namespace Go.Proofs.YtjohljmpcblpjaaGreatDoor.St
open Go.RowKit

def idE : Enc ID := ⟨2, fun a => [.int .i64 a.t, .int .i64 a.s], fun _ => rfl, by decide, fun x u hu => by simp at hu; rcases hu with rfl | rfl <;> rfl⟩
def runE : Enc Run := ⟨3, fun r => [.int .i64 r.id.t, .int .i64 r.id.s, .int .i64 r.c], fun _ => rfl, by decide, fun x u hu => by simp at hu; rcases hu with rfl | rfl | rfl <;> rfl⟩
theorem info_id : (Tryz.prog.info? 59).map (fun i => (i.zero, i.size, i.bytes)) = some (some (.agg #[.int .i64 0, .int .i64 0]), 2, 16) := by kernel_rfl
theorem info_run : (Tryz.prog.info? 89).map (fun i => (i.zero, i.size, i.bytes)) = some (some (.agg #[.int .i64 0, .int .i64 0, .int .i64 0]), 3, 24) := by kernel_rfl
set_option maxRecDepth 100000 in
set_option maxHeartbeats 1000000 in
theorem clone_run {w : World} {v : Value} {L : List Run} (h : SlAt runE w v L) (hb : L.length ≤ 1000000000) :
    Calls Tryz.prog 50 #[v] w fun e w' => ∃ v', e = .returned v' ∧ w'.ownsRow w.heap.size 89 3 v' L.length (runE.flat L) ∧ Kept (fun _ => False) w w' := by
  have q := fun (w : World) (a : Option Addr) (n c n' c' : Nat) => Lib.run_eql_slice_nil (P := Tryz.prog) w 60 _ a n c n' c' Tryz.underlying60
  obtain ⟨a, c, rfl, hle, hc⟩ := h.sl
  cases a with
  | none =>
    obtain ⟨rfl, _, rfl⟩ := h.none_
    clear h hb hc hle
    go_enter Tryz.func50, Tryz.ntmps50
    go_wp2
    go_ret
    exact ⟨_, rfl, World.ownsRow_nil _ _ _ _, Kept.refl _ _⟩
  | some x =>
    obtain ⟨_, hn⟩ := h.at_
    obtain ⟨i0, hi, hz0, hz1, hz2⟩ := info_parts info_run
    have hl := runE.flat_len L
    have h1 := runE.flat_one_cell L
    generalize runE.flat L = news at hn hl h1 ⊢
    generalize L.length = n at *
    have hl2 : news.length = n * 3 := hl
    have hn2 : ∀ j u, news[j]? = some u → (w.alloc (.cells #[] 89)).cell? (x.add j) = some u := fun j u hu => by
      have hc := hn j u hu
      rw [World.cell?_of_block (a := x.add j) (w := w)]
      · exact hc
      · exact Below.heap_alloc w _ _ (World.block_lt_of_cell? w _ hc)
    have N := Lib.hid hn2
    have I := Lib.hid hi
    have Z0 := Lib.hid hz0
    have Z1 := Lib.hid hz1
    have Z2 := Lib.hid hz2
    have HL := Lib.hid hl2
    have H1 := Lib.hid h1
    have h63 : 0 + n ≤ maxLen := by unfold maxLen; omega
    have hby : (0 + n) * 24 ≤ 140737488355328 := by omega
    clear hn hn2 hi hz0 hz1 hz2 hl hl2 h1 h hc
    go_enter Tryz.func50, Tryz.ntmps50
    go_wp2_with (at_builtin; refine wpList_append_own _ rfl _ _ 60 rfl w.heap.size 89 i0 (.agg #[.int .i64 0, .int .i64 0, .int .i64 0]) 3 24 Tryz.underlying60 I.out Z0.out Z1.out Z2.out rfl (by decide) _ _ _ rfl (World.ownsRow_made w #[] 0 (Nat.le_refl _) (Nat.zero_le _) (by simp)) x n c news rfl HL.out N.out H1.out h63 hby (by simp) ?_)
    intro v' w1 hown hgrow _
    go_wp2
    go_ret
    refine ⟨v', rfl, by simpa using hown, ?_⟩
    exact ((Kept.refl _ _).alloc _).grown hgrow (fun k e hk => by simp [Value.ownBlock] at e; omega)
theorem SlAt.run {w : World} {v : Value} {L : List Run} (h : SlAt runE w v L) (hn : 0 < L.length) : ∃ g o c, v = .slice (some ⟨g, o, none⟩) L.length c ∧ g < w.heap.size ∧ ∀ (i : Nat) (x : Run), L[i]? = some x →
    w.cell? ⟨g, o + i * 3, none⟩ = some (.int .i64 x.id.t) ∧ w.cell? ⟨g, o + i * 3 + 1, none⟩ = some (.int .i64 x.id.s) ∧ w.cell? ⟨g, o + i * 3 + 2, none⟩ = some (.int .i64 x.c) := by
  obtain ⟨g, o, c, rfl, _, _, hg, hc⟩ := h.one hn
  exact ⟨g, o, c, rfl, hg, fun i x hx => ⟨hc i x hx 0 _ rfl, hc i x hx 1 _ rfl, hc i x hx 2 _ rfl⟩⟩
theorem SlAt.id {w : World} {v : Value} {L : List ID} (h : SlAt idE w v L) (hn : 0 < L.length) : ∃ g o c, v = .slice (some ⟨g, o, none⟩) L.length c ∧ g < w.heap.size ∧ ∀ (i : Nat) (x : ID), L[i]? = some x →
    w.cell? ⟨g, o + i * 2, none⟩ = some (.int .i64 x.t) ∧ w.cell? ⟨g, o + i * 2 + 1, none⟩ = some (.int .i64 x.s) := by
  obtain ⟨g, o, c, rfl, _, _, hg, hc⟩ := h.one hn
  exact ⟨g, o, c, rfl, hg, fun i x hx => ⟨hc i x hx 0 _ rfl, hc i x hx 1 _ rfl⟩⟩
end Go.Proofs.YtjohljmpcblpjaaGreatDoor.St
