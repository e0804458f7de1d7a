/- vector.Add. vector.Check. slices.Clone of identifiers and of runs; slices.IndexFunc of identifiers that are none. -/
import Derived.Test.YtaaeomapbigfgaaGreatV4
import Derived.Test.YtaaeomapbigfgaaGreatV2
import Derived.Test.YtaaeomapbigfgaaGreatV3
import Derived.OwnWalk
import Derived.WalkSpells
namespace Go.Proofs.YtaaeomapbigfgaaGreat
open Go.RowKit Go.Proofs.YtaaeomapbigfgaaGreat.St
theorem cells_add (L : List Dot) (k : Nat) (q : Int) : (cells (says L)).setIfInBounds k (.int .i64 q) = cells (fun i => if (i : Int) = (k : Int) then q else says L i) := by
  rw [cells_set]
  refine cells_congr fun i _ => ?_
  by_cases h : i = k
  · subst h; rw [if_pos rfl, if_pos rfl]
  · rw [if_neg h, if_neg (by omega)]
/-- what Add answers -/
def AddIs (w w' : World) (L : List Dot) (d : Dot) (v' : Value) : Prop :=
  (whyAdd L d ≠ 0 → v' = .slice none 0 0) ∧ (whyAdd L d = 0 → w'.ownsRow w.heap.size 28 2 v' (addV L d).length (dotE.flat (addV L d)))
set_option maxRecDepth 100000 in
set_option maxHeartbeats 4000000 in
theorem add_any {w : World} {v : Value} {L : List Dot} (h : SlAt dotE w v L) (hb : L.length ≤ 1000000000) (d : Dot) : Calls Tryz.prog 69 #[v, .agg #[.int .i64 d.site, .int .i64 d.seq]] w fun e w' =>
    ∃ v', e = .returned (.tuple #[v', .int .i64 (whyAdd L d)]) ∧ AddIs w w' L d v' ∧ Kept (fun _ => False) w w' := by
  obtain ⟨s, q⟩ := d
  have hse := site_any s
  have hk0 : Kept (fun _ => False) w (w.alloc (.cells #[.int .i64 s, .int .i64 q] 28)) := (Kept.refl _ _).alloc _
  have hB := Blk.new w 28 #[.int .i64 s, .int .i64 q]
  have b0 : (w.alloc (.cells #[.int .i64 s, .int .i64 q] 28)).cell? ⟨w.heap.size, 0, none⟩ = some (.int .i64 s) := hB.cell' (i := 0) rfl
  have b1 : (w.alloc (.cells #[.int .i64 s, .int .i64 q] 28)).cell? ⟨w.heap.size, 1, none⟩ = some (.int .i64 q) := hB.cell' (i := 1) rfl
  have KD := Lib.hid hk0
  have KD2 := hk0.drew
  have hg := Lib.hid (fun (w' : World) (hk : Kept (fun _ => False) w w') => get_any (h.kept hk) hb s)
  have HO := Lib.hid (fun (w' : World) (hk : Kept (fun _ => False) w w') => of_any (h.kept hk) hb)
  have wa : whyAdd L ⟨s, q⟩ = if ¬ isSite s ∨ q < 1 then 1 else if 2147483647 < q then 17 else if q ≠ getV L s + 1 then 9 else 0 := rfl
  clear h hB hk0
  by_cases hs : isSite s
  case neg =>
    rw [if_pos (.inl hs)] at wa
    have hd := decide_eq_false hs
    rw [hd] at hse
    have WA := Lib.hid wa
    clear wa hd hs
    go_enter Tryz.func69, Tryz.ntmps69
    go_wp2_with (go_at_call 54; refine (hse _).mono ?_; rintro e w1 ⟨rfl, rfl⟩)
    go_ret2
    exact ⟨_, by rw [WA.out]; rfl, ⟨fun _ => rfl, fun h => by rw [WA.out] at h; cases h⟩, KD.out⟩
  case pos =>
  have hd := decide_eq_true hs
  rw [hd] at hse
  by_cases h1 : q < 1
  · rw [if_pos (.inr h1)] at wa
    have WA := Lib.hid wa
    clear wa hd hs
    go_enter Tryz.func69, Tryz.ntmps69
    go_wp2_with (go_at_call 54; refine (hse _).mono ?_; rintro e w1 ⟨rfl, rfl⟩)
    go_ret2
    exact ⟨_, by rw [WA.out]; rfl, ⟨fun _ => rfl, fun h => by rw [WA.out] at h; cases h⟩, KD.out⟩
  rw [if_neg (fun h => by rcases h with h | h; exact h hs; exact h1 h)] at wa
  by_cases h2 : 2147483647 < q
  · rw [if_pos h2] at wa
    have WA := Lib.hid wa
    clear wa hd hs
    go_enter Tryz.func69, Tryz.ntmps69
    go_wp2_with (go_at_call 54; refine (hse _).mono ?_; rintro e w1 ⟨rfl, rfl⟩)
    go_ret2
    exact ⟨_, by rw [WA.out]; rfl, ⟨fun _ => rfl, fun h => by rw [WA.out] at h; cases h⟩, KD.out⟩
  rw [if_neg h2] at wa
  have gbd : 0 ≤ getV L s ∧ getV L s ≤ 2147483647 := by
    unfold getV
    by_cases h : isSite s
    · rw [if_pos h]; exact says_bd L _
    · rw [if_neg h]; exact ⟨by decide, by decide⟩
  have hw : IntKind.i64.wrap (getV L s + 1) = getV L s + 1 := IntWalk.i64_in _ (by omega)
  by_cases h3 : q = getV L s + 1
  case neg =>
    rw [if_pos h3] at wa
    have hq : (q == getV L s + 1) = false := beq_eq_false_iff_ne.2 h3
    have WA := Lib.hid wa
    generalize getV L s = gv at *
    clear wa hd hs gbd h3
    go_enter Tryz.func69, Tryz.ntmps69
    go_wp2_with (go_at_call 54; refine (hse _).mono ?_; rintro e w1 ⟨rfl, rfl⟩)
    go_region_held3 (fun w' => Kept (fun _ => False) w w' ∧ w'.cell? ⟨w.heap.size, 0, none⟩ = some (.int .i64 s) ∧ w'.cell? ⟨w.heap.size, 1, none⟩ = some (.int .i64 q)) (first | (with_reducible exact ⟨KD2, b0, b1⟩) | go_keep)
      (first | (go_simp; go_at_call 64; refine (hg.out _ KD2).mono ?_; rintro e w1 ⟨rfl, hk1⟩; have KE := KD2.trans hk1 (fun _ _ h => h); have b0 := hk1.cell b0; have b1 := hk1.cell b1))
    have KF : Hid (Kept (fun _ => False) w w1) := Lib.hid KE
    go_wp2_with fail
    go_ret2
    exact ⟨_, by rw [WA.out]; rfl, ⟨fun _ => rfl, fun h => by rw [WA.out] at h; cases h⟩, KF.out⟩
  case pos =>
    rw [if_neg (fun h => h h3)] at wa
    have hq : (q == getV L s + 1) = true := beq_iff_eq.2 h3
    have WA := Lib.hid wa
    generalize getV L s = gv at *
    unfold isSite at hs
    obtain ⟨k, rfl⟩ : ∃ k : Nat, s = k := ⟨s.toNat, by omega⟩
    have hkI : (k : Int) < 17 := by omega
    have hk17 : k < 17 := by omega
    have hk0 : (0 : Int) ≤ k := by omega
    have Q3 := Lib.hid h3
    clear wa hd hs gbd h3
    go_enter Tryz.func69, Tryz.ntmps69
    go_wp2_with (go_at_call 54; refine (hse _).mono ?_; rintro e w1 ⟨rfl, rfl⟩)
    go_region_held3 (fun w' => Kept (fun _ => False) w w' ∧ w'.cell? ⟨w.heap.size, 0, none⟩ = some (.int .i64 k) ∧ w'.cell? ⟨w.heap.size, 1, none⟩ = some (.int .i64 q)) (first | (with_reducible exact ⟨KD2, b0, b1⟩) | go_keep)
      (first | (go_simp; go_at_call 64; refine (hg.out _ KD2).mono ?_; rintro e w1 ⟨rfl, hk1⟩; have KE := KD2.trans hk1 (fun _ _ h => h); have b0 := hk1.cell b0; have b1 := hk1.cell b1))
    have KF : Hid (Kept (fun _ => False) w w1) := Lib.hid KE
    have C0 := Lib.hid b0
    have C1 := Lib.hid b1
    clear b0 b1
    go_wp2_with (first
      | (refine wpList_load_row rfl 115 _ rfl w2.heap.size rfl 115 _ (0, 0) _ ((P2.out.row (cells (says L))).set_ k (.int .i64 q)) Tryz.underlying115 rfl (by rw [cells_add, cells_size]; kernel_rfl) ?_)
      | (refine wpList_store_row rfl 115 _ _ rfl w2.heap.size (cells (says L)) rfl rfl 115 zero17 P2.out (by rw [cells_size]; kernel_rfl) (by rw [cells_size]; rfl) (cells_one _) ?_; have f2 := (P2.out.row (cells (says L))).frozen k; have c2 := (P2.out.row (cells (says L))).cell' (cells_get (says L) hk17))
      | (go_at_call 76; refine (HO.out _ KF.out).mono ?_; rintro e w2 ⟨rfl, hk2⟩; have P2 := Lib.hid (Blk.new w2 115 zero17); have KG := Lib.hid (KF.out.trans hk2 (fun _ _ h => h)); have b0 := ((hk2.alloc (.cells zero17 115)).setRow (g := w2.heap.size) (fun h => by have := hk2.size; omega) (cells (says L))).cell C0.out; have b1 := ((hk2.alloc (.cells zero17 115)).setRow (g := w2.heap.size) (fun h => by have := hk2.size; omega) (cells (says L))).cell C1.out)
      | (go_at_call 79; rw [cells_add]; refine (vec_any _ _).mono ?_; rintro e w4 ⟨v4, rfl, ho4, hk4⟩))
    have K3 := ((KG.out.alloc (.cells zero17 115)).setRow (g := w2.heap.size) (fun h => by have := KG.out.size; omega) (cells (says L))).setCell (p := ⟨w2.heap.size, k, none⟩) (fun h => by have h : w2.heap.size < w.heap.size := h; have := KG.out.size; omega) (.int .i64 q)
    go_ret2
    exact ⟨_, by rw [WA.out]; rfl, ⟨fun h => absurd WA.out h, fun _ => owns_lower ho4 K3.size⟩, K3.trans hk4 (fun _ _ h => h)⟩
end Go.Proofs.YtaaeomapbigfgaaGreat
namespace Go.Proofs.YtaaeomapbigfgaaGreat
open Go.RowKit Go.Proofs.YtaaeomapbigfgaaGreat.St
theorem check_step {L : List Dot} {n : Nat} {d : Dot} (hd : L[n]? = some d) (last : Int) : chkV last (L.drop n) = if ¬ isSite d.site then 1 else if d.seq < 1 ∨ 2147483647 < d.seq then 6 else if d.site ≤ last then 9 else chkV d.site (L.drop (n + 1)) := by
  obtain ⟨h1, rfl⟩ := List.getElem?_eq_some_iff.1 hd
  rw [List.drop_eq_getElem_cons h1]
  rfl
set_option maxRecDepth 100000 in
set_option maxHeartbeats 4000000 in
theorem vcheck_any {w : World} {v : Value} {L : List Dot} (h : SlAt dotE w v L) (hb : L.length ≤ 1000000000) : Calls Tryz.prog 29 #[v] w fun e w' => e = .returned (.int .i64 (chkV 0 L)) ∧ Kept (fun _ => False) w w' := by
  obtain ⟨a, c, rfl, _, _⟩ := h.sl
  have HS := Lib.hid h
  clear h
  go_enter Tryz.func29, Tryz.ntmps29
  go_wp2_with fail
  go_loopw [3, 8] (fun lv iv wr => ∃ (n : Nat) (last : Int), iv = .int .i64 n ∧ lv = .int .i64 last ∧ n ≤ L.length ∧ chkV 0 L = chkV last (L.drop n) ∧ Kept (fun _ => False) w wr) (fun _ iv _ => L.length - (intOf iv).toNat)
  case atStart => exact ⟨0, 0, rfl, rfl, Nat.zero_le _, rfl, Kept.refl _ _⟩
  case round =>
    obtain ⟨n, last, rfl, rfl, hn, hch, hk⟩ := hrel
    have hn0 : (0 : Int) ≤ n := by omega
    by_cases hlt : n < L.length
    case neg =>
      have hnl : ¬ (n : Int) < L.length := by omega
      rw [List.drop_of_length_le (by omega)] at hch
      have CH := Lib.hid hch
      clear hch
      go_wp2_with fail
      go_ret
      exact ⟨by rw [CH.out]; rfl, hk⟩
    case pos =>
      have hltI : (n : Int) < L.length := by omega
      obtain ⟨⟨s, q⟩, hd⟩ := get_of_lt hlt
      obtain ⟨g, o, c', hv, hg, hc⟩ := SlAt.dot (HS.out.kept hk) (by omega)
      cases hv
      obtain ⟨c0, c1⟩ := hc n _ hd
      rw [check_step hd] at hch
      simp only at hch c0 c1
      have K0 := Lib.hid (hk.alloc (.cells #[.int .i64 s, .int .i64 q] 28))
      have hse := site_any s
      clear hc hd hk
      by_cases h1 : isSite s
      case neg =>
        rw [if_pos h1] at hch
        rw [decide_eq_false h1] at hse
        have CH := Lib.hid hch
        clear hch h1
        go_wp2_with (go_at_call 54; refine (hse _).mono ?_; rintro e w1 ⟨rfl, rfl⟩)
        go_ret
        exact ⟨by rw [CH.out]; rfl, K0.out⟩
      case pos =>
      rw [if_neg (fun h => h h1)] at hch
      rw [decide_eq_true h1] at hse
      clear h1
      by_cases h2 : q < 1 ∨ 2147483647 < q
      · rw [if_pos h2] at hch
        have CH := Lib.hid hch
        clear hch
        by_cases h3 : q < 1
        · clear h2
          go_wp2_with (go_at_call 54; refine (hse _).mono ?_; rintro e w1 ⟨rfl, rfl⟩)
          go_ret
          exact ⟨by rw [CH.out]; rfl, K0.out⟩
        · have h4 : 2147483647 < q := h2.resolve_left h3
          clear h2
          go_wp2_with (go_at_call 54; refine (hse _).mono ?_; rintro e w1 ⟨rfl, rfl⟩)
          go_ret
          exact ⟨by rw [CH.out]; rfl, K0.out⟩
      rw [if_neg h2] at hch
      have h3 : ¬ q < 1 := fun h => h2 (.inl h)
      have h4 : ¬ 2147483647 < q := fun h => h2 (.inr h)
      clear h2
      by_cases h5 : s ≤ last
      · rw [if_pos h5] at hch
        have CH := Lib.hid hch
        clear hch
        go_wp2_with (go_at_call 54; refine (hse _).mono ?_; rintro e w1 ⟨rfl, rfl⟩)
        go_ret
        exact ⟨by rw [CH.out]; rfl, K0.out⟩
      · rw [if_neg h5] at hch
        have CH := Lib.hid hch
        clear hch
        go_wp2_with (go_at_call 54; refine (hse _).mono ?_; rintro e w1 ⟨rfl, rfl⟩)
        go_roundw
        case rel => exact ⟨n + 1, s, by go_num, rfl, by omega, CH.out, K0.out⟩
        case measure => simp [intOf] <;> omega
end Go.Proofs.YtaaeomapbigfgaaGreat
namespace Go.Proofs.YtaaeomapbigfgaaGreat.St
open Go.RowKit

def idE : Enc ID := ⟨2, fun a => [.int .i64 a.t, .int .i64 a.s], fun _ => rfl, by decide, fun x u hu => by simp at hu; rcases hu with rfl | rfl <;> rfl⟩
def runE : Enc Run := ⟨3, fun r => [.int .i64 r.id.t, .int .i64 r.id.s, .int .i64 r.c], fun _ => rfl, by decide, fun x u hu => by simp at hu; rcases hu with rfl | rfl | rfl <;> rfl⟩
theorem info_id : (Tryz.prog.info? 39).map (fun i => (i.zero, i.size, i.bytes)) = some (some (.agg #[.int .i64 0, .int .i64 0]), 2, 16) := by kernel_rfl
theorem info_run : (Tryz.prog.info? 77).map (fun i => (i.zero, i.size, i.bytes)) = some (some (.agg #[.int .i64 0, .int .i64 0, .int .i64 0]), 3, 24) := by kernel_rfl
set_option maxRecDepth 100000 in
set_option maxHeartbeats 1000000 in
theorem clone_run {w : World} {v : Value} {L : List Run} (h : SlAt runE w v L) (hb : L.length ≤ 1000000000) :
    Calls Tryz.prog 66 #[v] w fun e w' => ∃ v', e = .returned v' ∧ w'.ownsRow w.heap.size 77 3 v' L.length (runE.flat L) ∧ Kept (fun _ => False) w w' := by
  have q := fun (w : World) (a : Option Addr) (n c n' c' : Nat) => Lib.run_eql_slice_nil (P := Tryz.prog) w 40 _ a n c n' c' Tryz.underlying40
  obtain ⟨a, c, rfl, hle, hc⟩ := h.sl
  cases a with
  | none =>
    obtain ⟨rfl, _, rfl⟩ := h.none_
    clear h hb hc hle
    go_enter Tryz.func66, Tryz.ntmps66
    go_wp2
    go_ret
    exact ⟨_, rfl, World.ownsRow_nil _ _ _ _, Kept.refl _ _⟩
  | some x =>
    obtain ⟨_, hn⟩ := h.at_
    obtain ⟨i0, hi, hz0, hz1, hz2⟩ := info_parts info_run
    have hl := runE.flat_len L
    have h1 := runE.flat_one_cell L
    generalize runE.flat L = news at hn hl h1 ⊢
    generalize L.length = n at *
    have hl2 : news.length = n * 3 := hl
    have hn2 : ∀ j u, news[j]? = some u → (w.alloc (.cells #[] 77)).cell? (x.add j) = some u := fun j u hu => by
      have hc := hn j u hu
      rw [World.cell?_of_block (a := x.add j) (w := w)]
      · exact hc
      · exact Below.heap_alloc w _ _ (World.block_lt_of_cell? w _ hc)
    have N := Lib.hid hn2
    have I := Lib.hid hi
    have Z0 := Lib.hid hz0
    have Z1 := Lib.hid hz1
    have Z2 := Lib.hid hz2
    have HL := Lib.hid hl2
    have H1 := Lib.hid h1
    have h63 : 0 + n ≤ maxLen := by unfold maxLen; omega
    have hby : (0 + n) * 24 ≤ 140737488355328 := by omega
    clear hn hn2 hi hz0 hz1 hz2 hl hl2 h1 h hc
    go_enter Tryz.func66, Tryz.ntmps66
    go_wp2_with (at_builtin; refine wpList_append_own _ rfl _ _ 40 rfl w.heap.size 77 i0 (.agg #[.int .i64 0, .int .i64 0, .int .i64 0]) 3 24 Tryz.underlying40 I.out Z0.out Z1.out Z2.out rfl (by decide) _ _ _ rfl (World.ownsRow_made w #[] 0 (Nat.le_refl _) (Nat.zero_le _) (by simp)) x n c news rfl HL.out N.out H1.out h63 hby (by simp) ?_)
    intro v' w1 hown hgrow _
    go_wp2
    go_ret
    refine ⟨v', rfl, by simpa using hown, ?_⟩
    exact ((Kept.refl _ _).alloc _).grown hgrow (fun k e hk => by simp [Value.ownBlock] at e; omega)
theorem SlAt.run {w : World} {v : Value} {L : List Run} (h : SlAt runE w v L) (hn : 0 < L.length) : ∃ g o c, v = .slice (some ⟨g, o, none⟩) L.length c ∧ g < w.heap.size ∧ ∀ (i : Nat) (x : Run), L[i]? = some x →
    w.cell? ⟨g, o + i * 3, none⟩ = some (.int .i64 x.id.t) ∧ w.cell? ⟨g, o + i * 3 + 1, none⟩ = some (.int .i64 x.id.s) ∧ w.cell? ⟨g, o + i * 3 + 2, none⟩ = some (.int .i64 x.c) := by
  obtain ⟨g, o, c, rfl, _, _, hg, hc⟩ := h.one hn
  exact ⟨g, o, c, rfl, hg, fun i x hx => ⟨hc i x hx 0 _ rfl, hc i x hx 1 _ rfl, hc i x hx 2 _ rfl⟩⟩
theorem SlAt.id {w : World} {v : Value} {L : List ID} (h : SlAt idE w v L) (hn : 0 < L.length) : ∃ g o c, v = .slice (some ⟨g, o, none⟩) L.length c ∧ g < w.heap.size ∧ ∀ (i : Nat) (x : ID), L[i]? = some x →
    w.cell? ⟨g, o + i * 2, none⟩ = some (.int .i64 x.t) ∧ w.cell? ⟨g, o + i * 2 + 1, none⟩ = some (.int .i64 x.s) := by
  obtain ⟨g, o, c, rfl, _, _, hg, hc⟩ := h.one hn
  exact ⟨g, o, c, rfl, hg, fun i x hx => ⟨hc i x hx 0 _ rfl, hc i x hx 1 _ rfl⟩⟩
end Go.Proofs.YtaaeomapbigfgaaGreat.St
