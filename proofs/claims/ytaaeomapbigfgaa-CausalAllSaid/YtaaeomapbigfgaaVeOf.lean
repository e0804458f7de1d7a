/- vector.of: what a list of Dots says, as a row of 17 numbers. -/
import Derived.Test.YtaaeomapbigfgaaStCmp
import Derived.Test.YtaaeomapbigfgaaStRow
import Derived.Test.YtaaeomapbigfgaaVePlain
import Derived.Test.YtaaeomapbigfgaaVeArr
namespace Go.Proofs.Ytaaeomapbigfgaa
open Go.RowKit Go.Proofs.Ytaaeomapbigfgaa.St
def dotE : Enc Dot := ⟨2, fun d => [.int .i64 d.site, .int .i64 d.seq], fun _ => rfl, by decide, fun d u hu => by
  rcases List.mem_cons.1 hu with rfl | hu
  · rfl
  · rw [List.mem_singleton.1 hu]; rfl⟩
/-- the cells of a row -/
def cells (f : Nat → Int) : Array Value := ((List.range 17).map fun i => Value.int .i64 (f i)).toArray
theorem cells_size (f : Nat → Int) : (cells f).size = 17 := by simp [cells]
theorem cells_get (f : Nat → Int) {i : Nat} (h : i < 17) : (cells f)[i]? = some (.int .i64 (f i)) := by simp [cells, h]
theorem cells_set (f : Nat → Int) (k : Nat) (x : Int) : (cells f).setIfInBounds k (.int .i64 x) = cells fun i => if i = k then x else f i := by
  apply Array.ext
  · simp [cells]
  · intro i h1 h2
    simp [cells] at h2
    by_cases h : k = i
    · subst h; simp [cells]
    · have h' : ¬ i = k := fun e => h e.symm
      simp [cells, h, h']
theorem cells_zero : cells (fun _ => 0) = #[.int .i64 0, .int .i64 0, .int .i64 0, .int .i64 0, .int .i64 0, .int .i64 0, .int .i64 0, .int .i64 0, .int .i64 0, .int .i64 0, .int .i64 0, .int .i64 0, .int .i64 0, .int .i64 0, .int .i64 0, .int .i64 0, .int .i64 0] := by rfl
theorem cells_congr {f g : Nat → Int} (h : ∀ i, i < 17 → f i = g i) : cells f = cells g := by
  unfold cells
  congr 1
  apply List.map_congr_left
  intro i hi
  rw [h i (List.mem_range.1 hi)]
theorem says_cells {f : Nat → Int} {k : Nat} {q : Int} (h : (⟨k, q⟩ : Dot).Ok) : (cells f).setIfInBounds k (.int .i64 (if f k < q then q else f k)) = cells (sayS f ⟨k, q⟩) := by
  rw [cells_set]
  refine cells_congr fun i _ => ?_
  unfold sayS
  by_cases hi : i = k
  · subst hi
    rw [if_pos rfl]
    have : (if (⟨i, q⟩ : Dot).Ok ∧ (⟨i, q⟩ : Dot).site = i then (if f i < q then q else f i) else f i) = if f i < q then q else f i := if_pos ⟨h, rfl⟩
    exact this.symm
  · rw [if_neg hi, if_neg]
    intro ⟨_, e⟩
    have e : (k : Int) = i := e
    omega
theorem sayS_none {f : Nat → Int} {d : Dot} (h : ¬ d.Ok) : sayS f d = f := by
  funext i
  unfold sayS
  rw [if_neg (fun e => h e.1)]
theorem cells_one (f : Nat → Int) : (cells f).all (·.oneCell') = true := by simp [cells, Value.oneCell']
theorem SlAt.dot {w : World} {v : Value} {L : List Dot} (h : SlAt dotE w v L) (hn : 0 < L.length) : ∃ g o c, v = .slice (some ⟨g, o, none⟩) L.length c ∧ g < w.heap.size ∧ ∀ (i : Nat) (x : Dot), L[i]? = some x →
    w.cell? ⟨g, o + i * 2, none⟩ = some (.int .i64 x.site) ∧ w.cell? ⟨g, o + i * 2 + 1, none⟩ = some (.int .i64 x.seq) := by
  obtain ⟨g, o, c, rfl, _, _, hg, hc⟩ := h.one hn
  exact ⟨g, o, c, rfl, hg, fun i x hx => ⟨hc i x hx 0 _ rfl, hc i x hx 1 _ rfl⟩⟩
theorem site_any (n : Int) (w : World) : Calls Try.prog 41 #[.int .i64 n] w fun e w' => e = .returned (.bool (decide (isSite n))) ∧ w' = w := by
  unfold isSite
  go_enter Try.func41, Try.ntmps41
  by_cases h1 : 1 ≤ n
  · by_cases h2 : n ≤ 16
    · have e : decide (1 ≤ n ∧ n ≤ 16) = true := decide_eq_true ⟨h1, h2⟩
      rw [e]
      go_wp2_with fail
      go_ret
      exact ⟨rfl, rfl⟩
    · have e : decide (1 ≤ n ∧ n ≤ 16) = false := decide_eq_false fun h => h2 h.2
      rw [e]
      go_wp2_with fail
      go_ret
      exact ⟨rfl, rfl⟩
  · have e : decide (1 ≤ n ∧ n ≤ 16) = false := decide_eq_false fun h => h1 h.1
    rw [e]
    go_wp2_with fail
    go_ret
    exact ⟨rfl, rfl⟩
set_option maxRecDepth 100000 in
set_option maxHeartbeats 4000000 in
theorem of_grew {w : World} {v : Value} {L : List Dot} (h : SlAt dotE w v L) (hb : L.length ≤ 1000000000) : Calls Try.prog 52 #[v] w fun e w' => e = .returned (.agg (cells (says L))) ∧ Grew w w' := by
  obtain ⟨a, c, rfl, _, _⟩ := h.sl
  have HS := Lib.hid h
  clear h
  go_enter Try.func52, Try.ntmps52
  go_wp2_with fail
  go_loopw [8] (fun iv wr => ∃ n : Nat, iv = .int .i64 n ∧ n ≤ L.length ∧ Blk wr (w.heap.size + 1) 104 (cells (says (L.take n))) ∧ Blk wr w.heap.size 104 (cells fun _ => 0) ∧ Grew w wr) (fun iv _ => L.length - (intOf iv).toNat)
  case atStart =>
    refine ⟨0, rfl, Nat.zero_le _, ?_, (Blk.new _ _ _).alloc _, ((Grew.refl _).alloc _).alloc _⟩
    have := Blk.new (w.alloc (.cells (cells fun _ => 0) 104)) 104 (cells fun _ => 0)
    rw [show (w.alloc (.cells (cells fun _ => 0) 104)).heap.size = w.heap.size + 1 by simp] at this
    exact this
  case round =>
    obtain ⟨n, rfl, hn, hs, hr, hk⟩ := hrel
    have hn0 : (0 : Int) ≤ n := by omega
    by_cases hlt : n < L.length
    case neg =>
      have hnl : ¬ (n : Int) < L.length := by omega
      rw [List.take_of_length_le (by omega)] at hs
      have HS' := Lib.hid hs
      have HR := Lib.hid hr
      have x3 := Lib.hid (hk.setRow (g := w.heap.size) (Nat.le_refl _) (cells (says L)))
      clear hs hr hk
      go_wp2_with (first
        | (refine wpList_load_row rfl 104 _ rfl (w.heap.size + 1) rfl 104 _ (0, 0) _ HS'.out Try.underlying104 rfl (by rw [cells_size]; kernel_rfl) ?_)
        | (refine wpList_store_row rfl 104 _ _ rfl w.heap.size (cells (says L)) rfl rfl 104 _ HR.out (by rw [cells_size]; kernel_rfl) (by rw [cells_size, cells_size]) (cells_one _) ?_))
      exact bodyPost_ret (Blk.result rfl _ (HR.out.row _) rfl Try.underlying104 rfl (by rw [cells_size]; kernel_rfl)) rfl ⟨rfl, x3.out⟩
    case pos =>
      have hltI : (n : Int) < L.length := by omega
      obtain ⟨d, hd⟩ := get_of_lt hlt
      obtain ⟨g, o, c', hv, hg, hc⟩ := SlAt.dot (HS.out.kept hk.kept) (by omega)
      cases hv
      obtain ⟨c0, c1⟩ := hc n d hd
      have hsay := Lib.hid (says_take hd)
      generalize says (L.take n) = f at *
      obtain ⟨ds, dq⟩ := d
      have K0 := Lib.hid (hk.alloc (.cells #[.int .i64 ds, .int .i64 dq] 27))
      have FS := Lib.hid (hs.alloc (.cells #[.int .i64 ds, .int .i64 dq] 27))
      have FR := Lib.hid (hr.alloc (.cells #[.int .i64 ds, .int .i64 dq] 27))
      have hsz := hs.lt
      have H1 := Lib.hid hs
      have H2 := Lib.hid hr
      have H3 := Lib.hid hk
      clear hc hd
      by_cases hok : (⟨ds, dq⟩ : Dot).Ok
      case pos =>
        have hok' := hok
        unfold Dot.Ok at hok'
        simp only at hok' c0 c1
        obtain ⟨k, rfl⟩ : ∃ k : Nat, ds = k := ⟨ds.toNat, by omega⟩
        have hsite : decide (isSite k) = true := decide_eq_true ⟨by omega, by omega⟩
        have h1 := hok'.2.2.1
        have h2 := hok'.2.2.2
        have hkl : k < 17 := by omega
        have hkI : (k : Int) < 17 := by omega
        have hk0 : (0 : Int) ≤ k := by omega
        have s0 := FS.out.cell' (cells_get f hkl)
        have fz := FS.out.frozen k
        have hse := Lib.hid (site_any k)
        have hmx : (if f k < dq then dq else f k) = sayS f ⟨k, dq⟩ k := by
          have : sayS f ⟨k, dq⟩ k = if f k < dq then dq else f k := if_pos ⟨hok, rfl⟩
          exact this.symm
        have OK := Lib.hid hok
        have MX := Lib.hid hmx
        clear hs hr hk hok' hok hmx
        go_wp2_with (go_at_call 41; refine (hse.out _).mono ?_; rintro e w1 ⟨rfl, rfl⟩; rw [hsite])
        go_region
        go_wp2_with fail
        go_roundw
        case rel =>
          refine ⟨n + 1, by go_num, by omega, ?_, ((H2.out.far (by show w.heap.size ≠ w.heap.size + 1; omega) _).alloc _).drewN 1, ((H3.out.setCell (by show w.heap.size ≤ w.heap.size + 1; omega) _).alloc _).drewN 1⟩
          rw [hsay.out, ← says_cells OK.out]
          exact ((H1.out.set_ k _).alloc _).drewN 1
        case measure => simp [intOf] <;> omega
      case neg =>
        have K1 := Lib.hid hok
        have S1 := Lib.hid hsay
        by_cases h1 : 1 ≤ ds
        by_cases h2 : ds ≤ 16
        by_cases h3 : 1 ≤ dq
        by_cases h4 : dq ≤ 2147483647
        · exact absurd ⟨h1, h2, h3, h4⟩ hok
        have hsite : decide (isSite ds) = true := decide_eq_true ⟨h1, h2⟩
        rotate_left
        have hsite : decide (isSite ds) = true := decide_eq_true ⟨h1, h2⟩
        rotate_left
        have hsite : decide (isSite ds) = false := decide_eq_false fun h => h2 h.2
        rotate_left
        have hsite : decide (isSite ds) = false := decide_eq_false fun h => h1 h.1
        rotate_left
        all_goals
          have hse := Lib.hid (site_any ds)
          clear hs hr hk hok hsay
          go_wp2_with (go_at_call 41; refine (hse.out _).mono ?_; rintro e w1 ⟨rfl, rfl⟩; rw [hsite])
          go_roundw
          focus
            refine ⟨n + 1, by go_num, by omega, ?_, FR.out, K0.out⟩
            rw [S1.out, sayS_none K1.out]
            exact FS.out
        all_goals simp [intOf] <;> omega
theorem of_any {w : World} {v : Value} {L : List Dot} (h : SlAt dotE w v L) (hb : L.length ≤ 1000000000) : Calls Try.prog 52 #[v] w fun e w' => e = .returned (.agg (cells (says L))) ∧ Kept (fun _ => False) w w' := (of_grew h hb).mono fun _ _ ⟨he, hg⟩ => ⟨he, hg.kept⟩
end Go.Proofs.Ytaaeomapbigfgaa

