/- slices.Insert of one pointer, walked. may, list, higher. (*tree.Tree).all: the iterator it hands back. -/
import Derived.Test.YtlafodnaifghcaaK9
import Derived.Laws.Externs
import Derived.Deep.DeepCutAuto
import Derived.IntWalk
import Derived.Test.YtlafodnaifghcaaK8
namespace Go.Proofs.Ytlafodnaifghcaa.Tr
open Go.RowKit Go.Proofs.Ytlafodnaifghcaa.St
theorem wpList_copy_at {P : Program} {w : World} {ops : Array Oper} {rest : List Oper} {o : Oper} {a : Act} {Q : Exit → Act → World → Prop} (hgd : o.guard = none) (d s : Operand) (dT sT : TypeId)
    (ho : o.op = .call { callee := .builtin .copy, args := #[d, s], argTypes := #[dT, sT] }) {vd vs n : Value} (hd : a.eval d = vd) (hs : a.eval s = vs) {w' : World} (hrun : (Builtin.copy_ #[dT, sT] o.type #[vd, vs]).run P w = .ok n w') (h : wpList P ops Q rest (a.put o.dst n) w') : wpList P ops Q (o :: rest) a w := by
  refine wpList_plain hgd fun K hK => ?_
  unfold Oper.wp
  simp [execOp, ho, resolve, invoke, builtin, hd, hs, hrun, Result.andThen]
  exact hK _ _ h
/-- what slices.Insert leaves -/
def InsPost (w : World) (s : Rw) (D : List Nat) (e : Ending) (w' : World) : Prop := ∃ s' : Rw, e = .returned s'.v ∧ RowAt w' s' D ∧ (s'.blk = s.blk ∨ ∃ b, s'.blk = some b ∧ w.heap.size ≤ b) ∧ Kept (fun b => s.blk = some b) w w'
theorem row_owns {w : World} {s : Rw} {D : List Nat} (h : RowAt w s D) : w.ownsRow 0 75 1 s.v D.length (ptrE.flat D) := by
  rcases h with ⟨rfl, rfl⟩ | ⟨b, cap, rfl, h⟩
  · exact World.ownsRow_nil ..
  · exact h.owns (Nat.zero_le _)
theorem owns_row {w : World} {v : Value} {D : List Nat} {n : Nat} (h : w.ownsRow 0 75 1 v n (ptrE.flat D)) : ∃ s : Rw, v = s.v ∧ RowAt w s D ∧ s.blk = v.ownBlock := by
  obtain ⟨hn, h1⟩ := own_of (E := ptrE) h
  rcases h1 with ⟨rfl, rfl⟩ | ⟨g, cap, rfl, _, h2⟩
  · exact ⟨⟨none, 0, 0⟩, rfl, .inl ⟨rfl, rfl⟩, rfl⟩
  · exact ⟨⟨some ⟨g, 0, none⟩, n, cap⟩, rfl, .inr ⟨g, cap, by rw [hn], h2⟩, rfl⟩
set_option maxRecDepth 100000 in
set_option maxHeartbeats 4000000 in
theorem ins_end {w : World} {s : Rw} {D : List Nat} (h : RowAt w s D) (hD : D.length ≤ 900000) {lb x : Nat} (hl : Blk w lb 75 #[.pointer (some ⟨x, 0, none⟩)]) :
    Calls Try.prog 66 #[s.v, .int .i64 D.length, .slice (some ⟨lb, 0, none⟩) 1 1] w (InsPost w s (D ++ [x])) := by
  have hlit : SlAt ptrE w (.slice (some ⟨lb, 0, none⟩) 1 1) [x] := .inr ⟨⟨lb, 0, none⟩, 1, rfl, Nat.le_refl _, by unfold maxLen; omega, fun _ => rfl, fun i y hy j u hu => by
    cases i with
    | zero =>
      cases j with
      | zero =>
        simp at hy; subst hy
        have h9 : u = .pointer (some ⟨x, 0, none⟩) := by simpa [ptrE] using hu.symm
        rw [h9]; exact hl.cell' rfl
      | succ j => simp [ptrE] at hu
    | succ i => simp at hy⟩
  have hown := row_owns h
  have HLIT := Lib.hid hlit
  have HD : Hid (D.length ≤ 1000000) := Lib.hid (by omega)
  obtain ⟨sa, sn, sc⟩ := s
  obtain ⟨hsn, hsc⟩ : D.length = sn ∧ sn ≤ sc := by
    rcases h with ⟨h1, rfl⟩ | ⟨b, cap, h1, h2⟩
    · cases h1; exact ⟨rfl, Nat.le_refl _⟩
    · cases h1; exact ⟨rfl, h2.le.1⟩
  have HN := Lib.hid hsn
  have HOWN := Lib.hid hown
  rw [hsn] at hD ⊢
  clear h hlit hown hl hsn
  unfold Rw.v at *
  simp only at *
  have fin : ∀ v' w', w'.ownsRow 0 75 1 v' (D.length + 1) (ptrE.flat (D ++ [x])) → Grow1 w w' (.slice sa sn sc) v' → InsPost w ⟨sa, sn, sc⟩ (D ++ [x]) (.returned v') w' := fun v' w' ho hg => by
    obtain ⟨s', rfl, h2, h3⟩ := owns_row ho
    have hsb : Value.ownBlock (.slice sa sn sc) = (⟨sa, sn, sc⟩ : Rw).blk := by cases sa <;> rfl
    refine ⟨s', rfl, h2, ?_, ?_⟩
    · rcases hg with ⟨h4, _⟩ | ⟨h4, _⟩
      · left; rw [h3, h4, hsb]
      · right; exact ⟨w.heap.size, by rw [h3, h4], Nat.le_refl _⟩
    · rcases hg with ⟨_, h5⟩ | ⟨_, h5⟩
      · rw [hsb] at h5; exact h5
      · exact h5.mono fun _ _ h => h.elim
  have FIN := Lib.hid fin
  clear fin
  by_cases hc : sc = sn
  case' pos => subst hc
  all_goals
    go_enter Try.func66, Try.ntmps66
    go_wp2_with (at_builtin; (refine wpList_append_keeps ptrE rfl (.tmp 23) (.tmp 24) 76 rfl 0 75 (.pointer none) 8 Try.underlying76 info_ptr rfl (by decide) rfl rfl HOWN.out HLIT.out HD.out (Nat.zero_le _) ?_); (intro v4 w4 ho4 hg4); have FF := FIN.out v4 w4 ho4 hg4; clear ho4 hg4)
    all_goals
      go_ret
      exact FF
set_option maxRecDepth 100000 in
set_option maxHeartbeats 4000000 in
theorem ins_room {w : World} {g c n i lb x : Nat} {D : List Nat} (h : OwnAt ptrE w 75 g c D) (hn : D.length = n) (hD : n ≤ 900000) (hi : i < n) (hc : n + 1 ≤ c) (hl : Blk w lb 75 #[.pointer (some ⟨x, 0, none⟩)]) (hne : lb ≠ g) :
    Calls Try.prog 66 #[.slice (some ⟨g, 0, none⟩) n c, .int .i64 i, .slice (some ⟨lb, 0, none⟩) 1 1] w (InsPost w ⟨some ⟨g, 0, none⟩, n, c⟩ (D.take i ++ x :: D.drop i)) := by
  have hw1 : w.drew.heap = w.heap := rfl
  obtain ⟨w1, cur, hr1, hb1, hs1, hm1, ha1, hd1, hk1⟩ := ins_up (w := w.drew) (h.keep ((Kept.refl (fun _ => False) w).drew) (fun h => h)) hn hi hc (c - (i + 1)) (c - i) 3
  have hlb1 : Blk w1 lb 75 #[.pointer (some ⟨x, 0, none⟩)] := hk1.blk hne hl
  obtain ⟨w2, hr2, ho2, hk2⟩ := ins_at hb1 hs1 hm1 hn hi hc ha1 hd1 (hlb1.cell' rfl) (c - i) 1 3
  obtain ⟨hcur0, _⟩ : (∃ cu, w.heap[g]? = some (.cells cu 75 (0, 0)) ∧ cu.size = c) ∧ True := by
    obtain ⟨cu, h5, h6, _⟩ := own_cur h
    exact ⟨⟨cu, h5, h6⟩, trivial⟩
  obtain ⟨cu, hcu, hcus⟩ := hcur0
  have hsa : w.shape? lb = some (75, 1) := by have h9 : w.heap[lb]? = some (.cells #[.pointer (some ⟨x, 0, none⟩)] 75 (0, 0)) := hl; simp [World.shape?, h9]
  have hsb : w.shape? g = some (75, c) := by simp [World.shape?, hcu, hcus]
  have hov : (callFunc 81 #[.slice (some ⟨lb, 0, none⟩) 1 1, .slice (some ⟨g, i + 1, none⟩) (n + 1 - (i + 1)) (c - (i + 1))]).run Try.prog w = .ok (.value (.bool false)) w := by
    rw [run_callFunc_extern Try.func81 (by kernel_rfl) (by kernel_rfl) (by kernel_rfl) (e := Extern.SlicesOverlaps.overlaps #[76, 76] #[4]) (by kernel_rfl), Lib.run_overlaps_apart w _ _ 75 Try.underlying76 1 (fun w => by kernel_rfl) _ _ _ _ _ _ hne _ _ _ _ hsa hsb (by omega) (hl.frozen 0) (hl.frozen 1)]
    rfl
  have hcm : c ≤ 9223372036854775807 := by unfold maxLen at hm1; omega
  rw [show n + 1 - (i + 1) = n - i by omega] at hr1 hov
  have K1 : Hid (Kept (fun b => some g = some b) w w2) := Lib.hid ((((Kept.refl (fun b => some g = some b) w).drew).trans (hk1.mono fun _ _ e => by rw [e]) fun _ _ h => h).trans (hk2.mono fun _ _ e => by rw [e]) fun _ _ h => h)
  have O2 := Lib.hid ho2
  have CP1 := Lib.hid hr1
  have CP2 := Lib.hid hr2
  have LN : Hid ((D.take i ++ x :: D.drop i).length = n + 1) := Lib.hid (by simp; omega)
  have g1 : (i : Int) ≤ n := by omega
  have g2 : ¬ (i : Int) = n := by omega
  have g3 : ¬ c = i := by omega
  have g4 : ¬ c = i + 1 := by omega
  have g5 : i ≤ c := by omega
  have g6 : i + 1 ≤ c := by omega
  have g7 : i + 1 ≤ n + 1 := by omega
  have g8 : i ≤ n + 1 := by omega
  have g9 : ¬ (c : Int) < (n : Int) + 1 := by omega
  have g10 : ((i : Int) + 1).toNat = i + 1 := by omega
  have g11 : ((n : Int) + 1).toNat = n + 1 := by omega
  have g12 : ((i : Int) == (n : Int)) = false := by simp; omega
  have g13 : IntKind.i64.wrap ((i : Int) + 1) = (i : Int) + 1 := IntWalk.i64_in _ (by omega)
  have g14 : (0 : Int) ≤ (i : Int) + 1 := by omega
  have g15 : (i : Int) + 1 ≤ (n : Int) + 1 := by omega
  have g16 : (0 : Int) ≤ (i : Int) := by omega
  have g17 : (i : Int) ≤ (n : Int) + 1 := by omega
  clear h hn hw1 hb1 hs1 hm1 ha1 hd1 hk1 hlb1 hr1 hr2 ho2 hk2 hcu hcus hsa hsb hl hne
  go_enter Try.func66, Try.ntmps66
  go_wp2_with fail
  have cp1 := CP1.out
  have cp2 := CP2.out
  go_region
  go_wp2
  go_ret
  exact ⟨⟨some ⟨g, 0, none⟩, n + 1, c⟩, rfl, .inr ⟨g, c, by rw [LN.out], O2.out⟩, .inl rfl, K1.out⟩
set_option maxRecDepth 100000 in
set_option maxHeartbeats 4000000 in
theorem ins_grow {w : World} {g c n i lb x : Nat} {D : List Nat} (h : OwnAt ptrE w 75 g c D) (hn : D.length = n) (hD : n ≤ 900000) (hi : i < n) (hc : c < n + 1) (hl : Blk w lb 75 #[.pointer (some ⟨x, 0, none⟩)]) :
    Calls Try.prog 66 #[.slice (some ⟨g, 0, none⟩) n c, .int .i64 i, .slice (some ⟨lb, 0, none⟩) 1 1] w (InsPost w ⟨some ⟨g, 0, none⟩, n, c⟩ (D.take i ++ x :: D.drop i)) := by
  obtain ⟨w1, cap, cur, hr1, hb1, hs1, hcap, hm1, ha1, hk1, hz1⟩ := ins_zeros h hn hi hc (by omega) 76
  have hlb1 := hk1.blk (fun h => h) hl
  have hnl : ¬ lb = w.heap.size := by have := hl.lt; omega
  have hng : ¬ g = w.heap.size := by have := h.lt; omega
  obtain ⟨w2, cur2, hr2, hb2, hs2, ha2, hk2⟩ := ins_lay1 hb1 hs1 hn hi hcap ha1 (hlb1.cell' rfl) (cap - i) 1 3
  have hkk : Kept (· = w.heap.size) w w2.drew := ((hk1.mono fun _ _ h => h.elim).trans hk2 fun _ _ h => h).drew
  have hos : OwnAt ptrE w2.drew 75 g c D := h.keep hkk hng
  have hb2' : Blk w2.drew w.heap.size 75 cur2 := hb2
  obtain ⟨w3, hr3, ho3, hk3⟩ := ins_lay2 hb2' hs2 hm1 hn hi hcap ha2 hos (cap - (i + 1)) (c - i) 3
  have hcm : cap ≤ 9223372036854775807 := by unfold maxLen at hm1; omega
  have hc0 : n ≤ c := by have := h.le.1; omega
  have K1 : Hid (Kept (fun b => some g = some b) w w3) := Lib.hid ((hkk.trans hk3 fun _ _ h => h).trans (Kept.refl (fun _ => False) _) (fun _ _ h => h.elim) |>.mono fun b hb e => by omega)
  have O2 := Lib.hid ho3
  have AP := Lib.hid hr1
  have CP1 := Lib.hid hr2
  have CP2 := Lib.hid hr3
  have LN : Hid ((D.take i ++ x :: D.drop i).length = n + 1) := Lib.hid (by simp; omega)
  have g1 : (i : Int) ≤ n := by omega
  have g2 : ¬ (i : Int) = n := by omega
  have g3 : ¬ c = i := by omega
  have g4 : ¬ cap = i + 1 := by omega
  have g41 : ¬ cap = i := by omega
  have g5 : i ≤ c := by omega
  have g6 : i + 1 ≤ cap := by omega
  have g61 : i ≤ cap := by omega
  have g7 : i + 1 ≤ n + 1 := by omega
  have g8 : i ≤ n + 1 := by omega
  have g9 : (c : Int) < (n : Int) + 1 := by omega
  have g10 : ((i : Int) + 1).toNat = i + 1 := by omega
  have g11 : ((n : Int) + 1).toNat = n + 1 := by omega
  have g12 : ((i : Int) == (n : Int)) = false := by simp; omega
  have g13 : IntKind.i64.wrap ((i : Int) + 1) = (i : Int) + 1 := IntWalk.i64_in _ (by omega)
  have g14 : (0 : Int) ≤ (i : Int) + 1 := by omega
  have g15 : (i : Int) + 1 ≤ (n : Int) + 1 := by omega
  have g16 : (0 : Int) ≤ (i : Int) := by omega
  have g17 : (i : Int) ≤ (n : Int) + 1 := by omega
  clear h hn hb1 hs1 hm1 ha1 hk1 hlb1 hr1 hr2 hk2 hl hz1 hcap hnl hng hb2 hs2 ha2 hkk hos hb2' hr3 ho3 hk3
  go_enter Try.func66, Try.ntmps66
  go_wp2_with (at_builtin; refine Lib.wpList_append_run _ rfl (.tmp 34) (.tmp 39) _ _ rfl _ _ rfl rfl _ _ AP.out ?_; have cp1 := CP1.out)
  have cp2 := CP2.out
  go_region
  go_wp2
  go_ret
  exact ⟨⟨some ⟨w.heap.size, 0, none⟩, n + 1, cap⟩, rfl, .inr ⟨w.heap.size, cap, by rw [LN.out], O2.out⟩, .inr ⟨w.heap.size, rfl, Nat.le_refl _⟩, K1.out⟩
/-- slices.Insert of one pointer -/
theorem insP_any {w : World} {s : Rw} {D : List Nat} (h : RowAt w s D) (hD : D.length ≤ 900000) {i : Nat} (hi : i ≤ D.length) {lb x : Nat} (hl : Blk w lb 75 #[.pointer (some ⟨x, 0, none⟩)]) (hne : ∀ b, s.blk = some b → lb ≠ b) :
    Calls Try.prog 66 #[s.v, .int .i64 i, .slice (some ⟨lb, 0, none⟩) 1 1] w (InsPost w s (D.take i ++ x :: D.drop i)) := by
  rcases Nat.lt_or_eq_of_le hi with hlt | rfl
  · rcases h with ⟨rfl, rfl⟩ | ⟨b, cap, rfl, h⟩
    · simp at hlt
    · rcases Nat.lt_or_ge cap (D.length + 1) with hc | hc
      · exact ins_grow h rfl hD hlt hc hl
      · exact ins_room h rfl hD hlt hc hl (hne b rfl)
  · rw [List.take_length, List.drop_length]
    exact ins_end h hD hl
end Go.Proofs.Ytlafodnaifghcaa.Tr
namespace Go.Proofs.Ytlafodnaifghcaa.Tr
open Go.RowKit Go.Proofs.Ytlafodnaifghcaa.St
theorem cell_keep {w w' : World} (hk : Kept (fun _ => False) w w') {a : Addr} {v : Value} (h : w.cell? a = some v) : w'.cell? a = some v :=
  (World.cell?_of_block (a := a) (hk.block a.block (World.block_lt_of_cell? w a h) (fun h => h))).trans h
theorem higher_any {w : World} {n : Nd} {b : Nat} (i : ID) (x0 : w.cell? ⟨b, 0, none⟩ = some (.int .i64 n.id.t)) (x1 : w.cell? ⟨b, 1, none⟩ = some (.int .i64 n.id.s)) :
    Calls Try.prog 65 #[.pointer (some ⟨b, 0, none⟩), idV i] w fun e w' => e = .returned (.int .i64 (i.cmp n.id)) ∧ Grew w w' := by
  obtain ⟨t, s⟩ := i
  show Calls _ _ #[_, .agg #[.int .i64 t, .int .i64 s]] _ _
  have hsz := World.block_lt_of_cell? w _ x0
  have hc : ∀ w, Calls Try.prog 53 #[.agg #[.int .i64 t, .int .i64 s], .agg #[.int .i64 n.id.t, .int .i64 n.id.s]] w fun e w' => e = .returned (.int .i64 ((⟨t, s⟩ : ID).cmp n.id)) ∧ Grew w w' := compare_any ⟨t, s⟩ n.id
  go_enter Try.func65, Try.ntmps65
  have hg0 : Grew w (w.alloc (.cells #[.int .i64 t, .int .i64 s] 27)) := (Grew.refl w).alloc _
  have b0 := Blk.new w 27 #[.int .i64 t, .int .i64 s]
  have c0 : _ = some (Value.int .i64 t) := b0.cell' (i := 0) rfl
  have c1 : _ = some (Value.int .i64 s) := b0.cell' (i := 1) rfl
  have hsz' : b < w.heap.size := hsz
  have y0 : (w.alloc (.cells #[.int .i64 t, .int .i64 s] 27)).cell? ⟨b, 0, none⟩ = some (.int .i64 n.id.t) := cell_keep ((Kept.refl (fun _ => False) w).alloc _) x0
  have y1 : (w.alloc (.cells #[.int .i64 t, .int .i64 s] 27)).cell? ⟨b, 1, none⟩ = some (.int .i64 n.id.s) := cell_keep ((Kept.refl (fun _ => False) w).alloc _) x1
  go_wp2_with fail
  go_region_held3 (fun w' => Grew w w' ∧ w'.cell? ⟨w.heap.size, 0, none⟩ = some (.int .i64 t) ∧ w'.cell? ⟨w.heap.size, 1, none⟩ = some (.int .i64 s) ∧ w'.cell? ⟨b, 0, none⟩ = some (.int .i64 n.id.t) ∧ w'.cell? ⟨b, 1, none⟩ = some (.int .i64 n.id.s)) (first | exact ⟨hg0.drew, c0, c1, y0, y1⟩ | exact ⟨hg0, c0, c1, y0, y1⟩ | exact ⟨hg1, d0, d1, d2, d3⟩)
    (first | (go_simp; go_at_call 53; refine (hc _).mono ?_; rintro e w' ⟨rfl, hg⟩; have hg1 := hg0.drew.trans hg; have d0 := cell_keep hg.kept c0; have d1 := cell_keep hg.kept c1; have d2 := cell_keep hg.kept y0; have d3 := cell_keep hg.kept y1))
  all_goals go_wp2
  all_goals go_ret
  all_goals exact ⟨rfl, hg1⟩
theorem may_any (i : ID) (w : World) : Calls Try.prog 34 #[idV i] w fun e w' => e = .returned (.bool (isB i)) ∧ Grew w w' := by
  obtain ⟨t, s⟩ := i
  show Calls _ _ #[.agg #[.int .i64 t, .int .i64 s]] _ _
  by_cases h1 : 1 ≤ t
  · by_cases h2 : t ≤ 2147483647
    · by_cases h3 : 1 ≤ s
      · by_cases h4 : s ≤ 16
        · have e : isB ⟨t, s⟩ = true := by simp [isB, ID.Is, h1, h2, h3, h4]
          rw [e]
          go_enter Try.func34, Try.ntmps34
          go_wp2
          go_ret
          exact ⟨rfl, (Grew.refl w).alloc _⟩
        · have e : isB ⟨t, s⟩ = false := by simp [isB, ID.Is, h4]
          rw [e]
          go_enter Try.func34, Try.ntmps34
          go_wp2
          go_ret
          exact ⟨rfl, (Grew.refl w).alloc _⟩
      · have e : isB ⟨t, s⟩ = false := by simp [isB, ID.Is, h3]
        rw [e]
        go_enter Try.func34, Try.ntmps34
        go_wp2
        go_ret
        exact ⟨rfl, (Grew.refl w).alloc _⟩
    · have e : isB ⟨t, s⟩ = false := by simp [isB, ID.Is, h2]
      rw [e]
      go_enter Try.func34, Try.ntmps34
      go_wp2
      go_ret
      exact ⟨rfl, (Grew.refl w).alloc _⟩
  · have e : isB ⟨t, s⟩ = false := by simp [isB, ID.Is, h1]
    rw [e]
    go_enter Try.func34, Try.ntmps34
    go_wp2
    go_ret
    exact ⟨rfl, (Grew.refl w).alloc _⟩
/-- where the row of those behind r lies -/
def place (g : Nat) (A : ID → Nat) (r : ID) : Addr := if r = ID.zero then ⟨g, 0, none⟩ else ⟨A r, 6, none⟩
set_option maxRecDepth 100000 in
theorem list_any {w : World} {g : Nat} {L : List Nd} {A : ID → Nat} {S : ID → Rw} {mp : Option Nat} (h : TAt w g L A S mp) {r : ID} (hr : Ref L r) :
    Calls Try.prog 42 #[.pointer (some ⟨g, 0, none⟩), idV r] w fun e w' => e = .returned (.pointer (some (place g A r))) ∧ Grew w w' := by
  obtain ⟨t, s⟩ := r
  have hgl : g < w.heap.size := h.top.lt
  have x1 : w.cell? ⟨g, 1, none⟩ = some (.map mp) := h.top.cell' rfl
  have heq := eqIn_id ⟨t, s⟩ ⟨0, 0⟩
  show Calls _ _ #[_, .agg #[.int .i64 t, .int .i64 s]] _ _
  unfold idV at heq
  by_cases hz : (⟨t, s⟩ : ID) = ID.zero
  · cases hz
    have e : place g A ID.zero = ⟨g, 0, none⟩ := if_pos rfl
    rw [show (⟨0, 0⟩ : ID) = ID.zero from rfl, e]
    go_enter Try.func42, Try.ntmps42
    go_wp2
    go_ret
    exact ⟨rfl, (Grew.refl w).alloc _⟩
  · have e : place g A ⟨t, s⟩ = ⟨A ⟨t, s⟩, 6, none⟩ := if_neg hz
    have hx : (⟨t, s⟩ : ID) ∈ ids L := hr.resolve_left hz
    obtain ⟨b, kvs, rfl, hm, hk⟩ := h.found hx
    have hne : decide ((⟨t, s⟩ : ID) = ⟨0, 0⟩) = false := decide_eq_false hz
    simp only [hne] at heq
    have hml := hm.lt
    have hm1 := hm.keep ((Kept.refl (fun _ => False) w).alloc (.cells #[.int .i64 t, .int .i64 s] 27)).drew (fun h => h)
    have hlk : (Instr.lookup 86 (.map (some b)) (.agg #[.int .i64 t, .int .i64 s]) false).run Try.prog (w.alloc (.cells #[.int .i64 t, .int .i64 s] 27)).drew = .ok (.pointer (some ⟨A ⟨t, s⟩, 0, none⟩)) (w.alloc (.cells #[.int .i64 t, .int .i64 s] 27)).drew := run_lookupK (K := keyI) (k := ⟨t, s⟩) Try.underlying86 hm1 hk
    rw [e]
    go_enter Try.func42, Try.ntmps42
    go_wp2_with fail
    · have h0 : t = 0 := by assumption
      have h1 : s = 0 := by assumption
      exact absurd (by rw [h0, h1]; rfl) hz
    · obtain rfl : t = 0 := by assumption
      go_region
      all_goals go_wp2
      all_goals go_ret
      all_goals exact ⟨rfl, ((Grew.refl w).alloc _).drew⟩
    · go_region
      all_goals go_wp2
      all_goals go_ret
      all_goals exact ⟨rfl, ((Grew.refl w).alloc _).drew⟩
end Go.Proofs.Ytlafodnaifghcaa.Tr
namespace Go.Proofs.Ytlafodnaifghcaa.Tr
open Go.RowKit Go.Proofs.Ytlafodnaifghcaa.St
theorem all_any (g : Nat) (w : World) : Calls Try.prog 33 #[.pointer (some ⟨g, 0, none⟩)] w fun e w' =>
    e = .returned (.func (.func 62) #[] #[.pointer (some ⟨w.heap.size, 0, none⟩)]) ∧ w' = w.alloc (.cells #[.pointer (some ⟨g, 0, none⟩)] 25) := by
  go_enter Try.func33, Try.ntmps33
  go_wp2
  go_ret
  exact ⟨rfl, rfl⟩
end Go.Proofs.Ytlafodnaifghcaa.Tr
