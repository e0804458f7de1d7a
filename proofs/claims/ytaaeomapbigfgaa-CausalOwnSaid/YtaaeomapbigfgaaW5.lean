/- Vectors: plain laws, no program in sight. Arrays in blocks of their own: loaded whole, stored whole. They speak of no program of their own. vector.of: what a list of Dots says, as a row of 17 numbers. -/
import Derived.Test.YtaaeomapbigfgaaW2
import Derived.Laws.Rows
import Derived.Laws.Tables
import Derived.Deep.WholeRow
import Derived.Test.YtaaeomapbigfgaaW3
import Derived.Test.YtaaeomapbigfgaaW4
namespace Go.Proofs.Ytaaeomapbigfgaa.St
@[ext] structure Dot where
  site : Int
  seq : Int
deriving DecidableEq, Inhabited
def isSite (n : Int) : Prop := 1 ≤ n ∧ n ≤ 16
instance (n : Int) : Decidable (isSite n) := by unfold isSite; infer_instance
def Dot.Ok (d : Dot) : Prop := 1 ≤ d.site ∧ d.site ≤ 16 ∧ 1 ≤ d.seq ∧ d.seq ≤ 2147483647
instance (d : Dot) : Decidable d.Ok := by unfold Dot.Ok; infer_instance
/-- one Dot more -/
def sayS (f : Nat → Int) (d : Dot) : Nat → Int := fun i => if d.Ok ∧ d.site = i then (if f i < d.seq then d.seq else f i) else f i
/-- what a list of Dots says: of each site the greatest number -/
def says (L : List Dot) : Nat → Int := L.foldl sayS fun _ => 0
theorem says_snoc (L : List Dot) (d : Dot) : says (L ++ [d]) = sayS (says L) d := by unfold says; rw [List.foldl_append]; rfl
theorem says_take {L : List Dot} {n : Nat} {d : Dot} (h : L[n]? = some d) : says (L.take (n + 1)) = sayS (says (L.take n)) d := by
  rw [← says_snoc]
  congr 1
  obtain ⟨h1, rfl⟩ := List.getElem?_eq_some_iff.1 h
  exact List.take_succ_eq_append_getElem h1
theorem foldl_bd : ∀ (L : List Dot) (f : Nat → Int) (i : Nat), 0 ≤ f i ∧ f i ≤ 2147483647 → 0 ≤ L.foldl sayS f i ∧ L.foldl sayS f i ≤ 2147483647
  | [], _, _, h => h
  | d :: r, f, i, h => by
    refine foldl_bd r (sayS f d) i ?_
    unfold sayS
    split
    · rename_i h1
      have := h1.1
      unfold Dot.Ok at this
      split <;> omega
    · exact h
theorem says_bd (L : List Dot) (i : Nat) : 0 ≤ says L i ∧ says L i ≤ 2147483647 := foldl_bd L _ i (by decide)
theorem foldl_out : ∀ (L : List Dot) (f : Nat → Int) (i : Nat), ¬ (1 ≤ i ∧ i ≤ 16) → L.foldl sayS f i = f i
  | [], _, _, _ => rfl
  | d :: r, f, i, h => by
    rw [List.foldl_cons, foldl_out r _ i h]
    unfold sayS
    rw [if_neg]
    intro ⟨h1, h2⟩
    unfold Dot.Ok at h1
    omega
theorem says_out (L : List Dot) (i : Nat) (h : ¬ (1 ≤ i ∧ i ≤ 16)) : says L i = 0 := foldl_out L _ i h
/-- the vector of a row -/
def vecOf (f : Nat → Int) (n : Nat) : List Dot := (List.range n).filterMap fun i => if 0 < f i then some ⟨i, f i⟩ else none
theorem vecOf_succ (f : Nat → Int) (n : Nat) : vecOf f (n + 1) = if 0 < f n then vecOf f n ++ [⟨n, f n⟩] else vecOf f n := by
  unfold vecOf
  rw [List.range_succ, List.filterMap_append]
  by_cases h : 0 < f n <;> simp [h]
theorem vecOf_len (f : Nat → Int) (n : Nat) : (vecOf f n).length ≤ n := by
  unfold vecOf
  have := List.length_filterMap_le (fun i : Nat => if 0 < f i then some (⟨i, f i⟩ : Dot) else none) (List.range n)
  simpa using this
def getV (L : List Dot) (s : Int) : Int := if isSite s then says L s.toNat else 0
def hasV (L : List Dot) (d : Dot) : Prop := 1 ≤ d.seq ∧ d.seq ≤ getV L d.site
instance (L : List Dot) (d : Dot) : Decidable (hasV L d) := by unfold hasV; infer_instance
def coversV (A B : List Dot) : Prop := ∀ i, i < 17 → says B i ≤ says A i
instance (A B : List Dot) : Decidable (coversV A B) := by unfold coversV; infer_instance
def sumTo (f : Nat → Int) : Nat → Int
  | 0 => 0
  | n + 1 => sumTo f n + f n
def sumV (L : List Dot) : Int := sumTo (says L) 17
/-- why a vector is none: 1 ErrArg, 6 ErrForm, 9 ErrOrder, 0 -/
def chkV : Int → List Dot → Int
  | _, [] => 0
  | last, d :: r => if ¬ isSite d.site then 1 else if d.seq < 1 ∨ 2147483647 < d.seq then 6 else if d.site ≤ last then 9 else chkV d.site r
def addV (L : List Dot) (d : Dot) : List Dot := vecOf (fun i => if (i : Int) = d.site then d.seq else says L i) 17
def whyAdd (L : List Dot) (d : Dot) : Int := if ¬ isSite d.site ∨ d.seq < 1 then 1 else if 2147483647 < d.seq then 17 else if d.seq ≠ getV L d.site + 1 then 9 else 0
def maxV (A B : List Dot) : Nat → Int := fun i => if says A i < says B i then says B i else says A i
end Go.Proofs.Ytaaeomapbigfgaa.St
namespace Go.Proofs.Ytaaeomapbigfgaa
open Go.RowKit
section
variable {P : Program} {w w' : World} {g b : Nat} {t t' : TypeId} {cs old : Array Value}
theorem Blk.loads (h : Blk w g t cs) {n : Nat} (hn : cs.size = n) : (loadCellsFrom ⟨g, 0, none⟩ 0 n #[]).run P w = .ok cs w := by
  subst hn
  have := run_loadCells_list (P := P) w ⟨g, 0, none⟩ cs.toList (fun j v hv => by
    have hadd : (⟨g, 0, none⟩ : Addr).add j = ⟨g, j, none⟩ := by unfold Addr.add; split <;> simp_all
    rw [hadd, h.cell]
    simpa using hv)
  simpa [loadCells] using this
theorem Blk.stores (h : Blk w g t old) (hs : old.size = cs.size) (h1 : cs.all (·.oneCell') = true) : (storeCells ⟨g, 0, none⟩ cs.toList 0).run P w = .ok () (w.setRow g cs) := by
  have := run_storeCells_from (P := P) g t cs.toList 0 old w h (by simp; omega) (fun v hv => (Array.all_eq_true_iff_forall_mem.1 h1) v (by simpa using hv))
  simpa [hs] using this
theorem Blk.row (h : Blk w g t old) (cs : Array Value) : Blk (w.setRow g cs) g t cs := setRow_heap w g old cs t (0, 0) h
theorem Blk.row_far (h : Blk w b t old) (hne : b ≠ g) (cs : Array Value) : Blk (w.setRow g cs) b t old := (setRow_other w g b cs hne).trans h
theorem Kept.setRow {S : Nat → Prop} (h : Kept S w w') (hg : g < w.heap.size → S g) (cs : Array Value) : Kept S w (w'.setRow g cs) :=
  ⟨h.os, h.tape, h.output, by rw [setRow_size]; exact h.size, fun k hk hs => by rw [setRow_other _ _ _ _ (fun e => by subst e; exact hs (hg hk))]; exact h.block k hk hs⟩
theorem Grew.setRow (h : Grew w w') (hg : w.heap.size ≤ g) (cs : Array Value) : Grew w (w'.setRow g cs) := by
  obtain ⟨q, os, rfl⟩ := h
  have hs : ((Sort.grow (w.drewN q) os).setRow g cs).heap.size = w.heap.size + os.size := by rw [setRow_size]; simp [Sort.grow, World.drewN]
  have hh : ((Sort.grow (w.drewN q) os).setRow g cs).heap = w.heap ++ ((Sort.grow (w.drewN q) os).setRow g cs).heap.extract w.heap.size ((Sort.grow (w.drewN q) os).setRow g cs).heap.size := by
    apply Array.ext
    · simp [hs]
    · intro i h1 h2
      rw [Array.getElem_append]
      split
      · rename_i hi
        simp only [World.setRow, Sort.grow, World.drewN, Array.getElem_modify]
        rw [if_neg (by omega), Array.getElem_append_left hi]
      · rename_i hi
        rw [Array.getElem_extract]
        congr 1
        omega
  obtain ⟨os', hh⟩ : ∃ os', ((Sort.grow (w.drewN q) os).setRow g cs).heap = w.heap ++ os' := ⟨_, hh⟩
  refine ⟨q, os', ?_⟩
  have e : (Sort.grow (w.drewN q) os).setRow g cs = { w.drewN q with heap := ((Sort.grow (w.drewN q) os).setRow g cs).heap } := rfl
  rw [e, hh]
  rfl
theorem Kept.cell (hk : Kept (fun _ => False) w w') {a : Addr} {v : Value} (h : w.cell? a = some v) : w'.cell? a = some v := by
  have hlt := World.block_lt_of_cell? w _ h
  have hb := hk.block a.block hlt (fun h => h)
  unfold World.cell? at h ⊢
  rw [hb]
  exact h
theorem owns_lower {base base' n size : Nat} {e : TypeId} {v : Value} {xs : List Value} (h : w.ownsRow base e size v n xs) (hb : base' ≤ base) : w.ownsRow base' e size v n xs := by
  refine ⟨h.1, ?_⟩
  rcases h.2 with h2 | ⟨g, c, cur, e2, h1, h3⟩
  · exact .inl h2
  · exact .inr ⟨g, c, cur, e2, Nat.le_trans hb h1, h3⟩
theorem Blk.result {fn : Func} {p : Tmp} {ty : TypeId} {d : TypeDesc} (hr : fn.results = #[.cell p ty]) (tmps : Array Value) (h : Blk w g t cs) (hp : tmps.getD p undef = .pointer (some ⟨g, 0, none⟩))
    (hu : P.underlying ty = some d) (hd : (match d with | .struct _ | .array _ _ => true | _ => false) = true) (hi : (P.info? ty).map (·.size) = some cs.size) : (results fn tmps).run P w = .ok (.agg cs) w :=
  results_cell_row hr tmps w g t cs (0, 0) d hp h hu hd hi
end
end Go.Proofs.Ytaaeomapbigfgaa
namespace Go.Proofs.Ytaaeomapbigfgaa
open Go.RowKit Go.Proofs.Ytaaeomapbigfgaa.St
def dotE : Enc Dot := ⟨2, fun d => [.int .i64 d.site, .int .i64 d.seq], fun _ => rfl, by decide, fun d u hu => by
  rcases List.mem_cons.1 hu with rfl | hu
  · rfl
  · rw [List.mem_singleton.1 hu]; rfl⟩
/-- the cells of a row -/
def cells (f : Nat → Int) : Array Value := ((List.range 17).map fun i => Value.int .i64 (f i)).toArray
theorem cells_size (f : Nat → Int) : (cells f).size = 17 := by simp [cells]
theorem cells_get (f : Nat → Int) {i : Nat} (h : i < 17) : (cells f)[i]? = some (.int .i64 (f i)) := by simp [cells, h]
theorem cells_set (f : Nat → Int) (k : Nat) (x : Int) : (cells f).setIfInBounds k (.int .i64 x) = cells fun i => if i = k then x else f i := by
  apply Array.ext
  · simp [cells]
  · intro i h1 h2
    simp [cells] at h2
    by_cases h : k = i
    · subst h; simp [cells]
    · have h' : ¬ i = k := fun e => h e.symm
      simp [cells, h, h']
theorem cells_zero : cells (fun _ => 0) = #[.int .i64 0, .int .i64 0, .int .i64 0, .int .i64 0, .int .i64 0, .int .i64 0, .int .i64 0, .int .i64 0, .int .i64 0, .int .i64 0, .int .i64 0, .int .i64 0, .int .i64 0, .int .i64 0, .int .i64 0, .int .i64 0, .int .i64 0] := by rfl
theorem cells_congr {f g : Nat → Int} (h : ∀ i, i < 17 → f i = g i) : cells f = cells g := by
  unfold cells
  congr 1
  apply List.map_congr_left
  intro i hi
  rw [h i (List.mem_range.1 hi)]
theorem says_cells {f : Nat → Int} {k : Nat} {q : Int} (h : (⟨k, q⟩ : Dot).Ok) : (cells f).setIfInBounds k (.int .i64 (if f k < q then q else f k)) = cells (sayS f ⟨k, q⟩) := by
  rw [cells_set]
  refine cells_congr fun i _ => ?_
  unfold sayS
  by_cases hi : i = k
  · subst hi
    rw [if_pos rfl]
    have : (if (⟨i, q⟩ : Dot).Ok ∧ (⟨i, q⟩ : Dot).site = i then (if f i < q then q else f i) else f i) = if f i < q then q else f i := if_pos ⟨h, rfl⟩
    exact this.symm
  · rw [if_neg hi, if_neg]
    intro ⟨_, e⟩
    have e : (k : Int) = i := e
    omega
theorem sayS_none {f : Nat → Int} {d : Dot} (h : ¬ d.Ok) : sayS f d = f := by
  funext i
  unfold sayS
  rw [if_neg (fun e => h e.1)]
theorem cells_one (f : Nat → Int) : (cells f).all (·.oneCell') = true := by simp [cells, Value.oneCell']
theorem SlAt.dot {w : World} {v : Value} {L : List Dot} (h : SlAt dotE w v L) (hn : 0 < L.length) : ∃ g o c, v = .slice (some ⟨g, o, none⟩) L.length c ∧ g < w.heap.size ∧ ∀ (i : Nat) (x : Dot), L[i]? = some x →
    w.cell? ⟨g, o + i * 2, none⟩ = some (.int .i64 x.site) ∧ w.cell? ⟨g, o + i * 2 + 1, none⟩ = some (.int .i64 x.seq) := by
  obtain ⟨g, o, c, rfl, _, _, hg, hc⟩ := h.one hn
  exact ⟨g, o, c, rfl, hg, fun i x hx => ⟨hc i x hx 0 _ rfl, hc i x hx 1 _ rfl⟩⟩
theorem site_any (n : Int) (w : World) : Calls Try.prog 41 #[.int .i64 n] w fun e w' => e = .returned (.bool (decide (isSite n))) ∧ w' = w := by
  unfold isSite
  go_enter Try.func41, Try.ntmps41
  by_cases h1 : 1 ≤ n
  · by_cases h2 : n ≤ 16
    · have e : decide (1 ≤ n ∧ n ≤ 16) = true := decide_eq_true ⟨h1, h2⟩
      rw [e]
      go_wp2_with fail
      go_ret
      exact ⟨rfl, rfl⟩
    · have e : decide (1 ≤ n ∧ n ≤ 16) = false := decide_eq_false fun h => h2 h.2
      rw [e]
      go_wp2_with fail
      go_ret
      exact ⟨rfl, rfl⟩
  · have e : decide (1 ≤ n ∧ n ≤ 16) = false := decide_eq_false fun h => h1 h.1
    rw [e]
    go_wp2_with fail
    go_ret
    exact ⟨rfl, rfl⟩
set_option maxRecDepth 100000 in
set_option maxHeartbeats 4000000 in
theorem of_grew {w : World} {v : Value} {L : List Dot} (h : SlAt dotE w v L) (hb : L.length ≤ 1000000000) : Calls Try.prog 52 #[v] w fun e w' => e = .returned (.agg (cells (says L))) ∧ Grew w w' := by
  obtain ⟨a, c, rfl, _, _⟩ := h.sl
  have HS := Lib.hid h
  clear h
  go_enter Try.func52, Try.ntmps52
  go_wp2_with fail
  go_loopw [8] (fun iv wr => ∃ n : Nat, iv = .int .i64 n ∧ n ≤ L.length ∧ Blk wr (w.heap.size + 1) 104 (cells (says (L.take n))) ∧ Blk wr w.heap.size 104 (cells fun _ => 0) ∧ Grew w wr) (fun iv _ => L.length - (intOf iv).toNat)
  case atStart =>
    refine ⟨0, rfl, Nat.zero_le _, ?_, (Blk.new _ _ _).alloc _, ((Grew.refl _).alloc _).alloc _⟩
    have := Blk.new (w.alloc (.cells (cells fun _ => 0) 104)) 104 (cells fun _ => 0)
    rw [show (w.alloc (.cells (cells fun _ => 0) 104)).heap.size = w.heap.size + 1 by simp] at this
    exact this
  case round =>
    obtain ⟨n, rfl, hn, hs, hr, hk⟩ := hrel
    have hn0 : (0 : Int) ≤ n := by omega
    by_cases hlt : n < L.length
    case neg =>
      have hnl : ¬ (n : Int) < L.length := by omega
      rw [List.take_of_length_le (by omega)] at hs
      have HS' := Lib.hid hs
      have HR := Lib.hid hr
      have x3 := Lib.hid (hk.setRow (g := w.heap.size) (Nat.le_refl _) (cells (says L)))
      clear hs hr hk
      go_wp2_with (first
        | (refine wpList_load_row rfl 104 _ rfl (w.heap.size + 1) rfl 104 _ (0, 0) _ HS'.out Try.underlying104 rfl (by rw [cells_size]; kernel_rfl) ?_)
        | (refine wpList_store_row rfl 104 _ _ rfl w.heap.size (cells (says L)) rfl rfl 104 _ HR.out (by rw [cells_size]; kernel_rfl) (by rw [cells_size, cells_size]) (cells_one _) ?_))
      exact bodyPost_ret (Blk.result rfl _ (HR.out.row _) rfl Try.underlying104 rfl (by rw [cells_size]; kernel_rfl)) rfl ⟨rfl, x3.out⟩
    case pos =>
      have hltI : (n : Int) < L.length := by omega
      obtain ⟨d, hd⟩ := get_of_lt hlt
      obtain ⟨g, o, c', hv, hg, hc⟩ := SlAt.dot (HS.out.kept hk.kept) (by omega)
      cases hv
      obtain ⟨c0, c1⟩ := hc n d hd
      have hsay := Lib.hid (says_take hd)
      generalize says (L.take n) = f at *
      obtain ⟨ds, dq⟩ := d
      have K0 := Lib.hid (hk.alloc (.cells #[.int .i64 ds, .int .i64 dq] 27))
      have FS := Lib.hid (hs.alloc (.cells #[.int .i64 ds, .int .i64 dq] 27))
      have FR := Lib.hid (hr.alloc (.cells #[.int .i64 ds, .int .i64 dq] 27))
      have hsz := hs.lt
      have H1 := Lib.hid hs
      have H2 := Lib.hid hr
      have H3 := Lib.hid hk
      clear hc hd
      by_cases hok : (⟨ds, dq⟩ : Dot).Ok
      case pos =>
        have hok' := hok
        unfold Dot.Ok at hok'
        simp only at hok' c0 c1
        obtain ⟨k, rfl⟩ : ∃ k : Nat, ds = k := ⟨ds.toNat, by omega⟩
        have hsite : decide (isSite k) = true := decide_eq_true ⟨by omega, by omega⟩
        have h1 := hok'.2.2.1
        have h2 := hok'.2.2.2
        have hkl : k < 17 := by omega
        have hkI : (k : Int) < 17 := by omega
        have hk0 : (0 : Int) ≤ k := by omega
        have s0 := FS.out.cell' (cells_get f hkl)
        have fz := FS.out.frozen k
        have hse := Lib.hid (site_any k)
        have hmx : (if f k < dq then dq else f k) = sayS f ⟨k, dq⟩ k := by
          have : sayS f ⟨k, dq⟩ k = if f k < dq then dq else f k := if_pos ⟨hok, rfl⟩
          exact this.symm
        have OK := Lib.hid hok
        have MX := Lib.hid hmx
        clear hs hr hk hok' hok hmx
        go_wp2_with (go_at_call 41; refine (hse.out _).mono ?_; rintro e w1 ⟨rfl, rfl⟩; rw [hsite])
        go_region
        go_wp2_with fail
        go_roundw
        case rel =>
          refine ⟨n + 1, by go_num, by omega, ?_, ((H2.out.far (by show w.heap.size ≠ w.heap.size + 1; omega) _).alloc _).drewN 1, ((H3.out.setCell (by show w.heap.size ≤ w.heap.size + 1; omega) _).alloc _).drewN 1⟩
          rw [hsay.out, ← says_cells OK.out]
          exact ((H1.out.set_ k _).alloc _).drewN 1
        case measure => simp [intOf] <;> omega
      case neg =>
        have K1 := Lib.hid hok
        have S1 := Lib.hid hsay
        by_cases h1 : 1 ≤ ds
        by_cases h2 : ds ≤ 16
        by_cases h3 : 1 ≤ dq
        by_cases h4 : dq ≤ 2147483647
        · exact absurd ⟨h1, h2, h3, h4⟩ hok
        have hsite : decide (isSite ds) = true := decide_eq_true ⟨h1, h2⟩
        rotate_left
        have hsite : decide (isSite ds) = true := decide_eq_true ⟨h1, h2⟩
        rotate_left
        have hsite : decide (isSite ds) = false := decide_eq_false fun h => h2 h.2
        rotate_left
        have hsite : decide (isSite ds) = false := decide_eq_false fun h => h1 h.1
        rotate_left
        all_goals
          have hse := Lib.hid (site_any ds)
          clear hs hr hk hok hsay
          go_wp2_with (go_at_call 41; refine (hse.out _).mono ?_; rintro e w1 ⟨rfl, rfl⟩; rw [hsite])
          go_roundw
          focus
            refine ⟨n + 1, by go_num, by omega, ?_, FR.out, K0.out⟩
            rw [S1.out, sayS_none K1.out]
            exact FS.out
        all_goals simp [intOf] <;> omega
theorem of_any {w : World} {v : Value} {L : List Dot} (h : SlAt dotE w v L) (hb : L.length ≤ 1000000000) : Calls Try.prog 52 #[v] w fun e w' => e = .returned (.agg (cells (says L))) ∧ Kept (fun _ => False) w w' := (of_grew h hb).mono fun _ _ ⟨he, hg⟩ => ⟨he, hg.kept⟩
end Go.Proofs.Ytaaeomapbigfgaa
