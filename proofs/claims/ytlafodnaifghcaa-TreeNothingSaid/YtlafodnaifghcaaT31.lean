/- The nil Tree: shown. -/
import Derived.Test.YtlafodnaifghcaaT28
import Derived.Test.YtlafodnaifghcaaT14
import Derived.Test.YtlafodnaifghcaaT30
namespace Go.Proofs.Ytlafodnaifghcaa.Tr
open Go.RowKit Go.Proofs.Ytlafodnaifghcaa.St Go.Shelf
attribute [local go_sem] Oper.semAt_some
/-- shown's own blocks, while nothing is handed over -/
def NilS (B t : Nat) (I : Nat → (Nat → Prop) → World → Prop) (_ : Nat) (X : Nat → Prop) (W : World) : Prop :=
  ∃ X', I 0 X' W ∧ (∀ b, X b → X' b ∧ B ≤ b) ∧ X' B ∧ X' (B + 1) ∧ Blk W t 25 #[.pointer none] ∧ t < B ∧ B + 1 < W.heap.size
set_option maxHeartbeats 4000000 in
theorem shown1_nil {pl : Nat} (enc : Nat → Array Value) :
    IterOk Fence.wide 5 Try.prog 55 #[.pointer (some ⟨pl, 0, none⟩)] 0 enc (fun w => w.cell? ⟨pl, 0, none⟩ = some (.pointer none)) := by
  intro yl I Z X0 w hrd hgr hgz hy h0
  have GR := Lib.hid hgr
  have r0 := hrd _ _ _ h0
  have hpl : pl < w.heap.size := World.block_lt_of_cell? w _ r0
  clear hrd hgr hgz hy
  refine callsIn_of_wp_marks Try.func55 rfl trivial ?_ rfl
  simp only [Try.ntmps55, List.size_toArray, List.length_cons, List.length_nil, Nat.reduceAdd, Nat.reduceSub, Array.replicate_succ, Array.replicate_zero, List.push_toArray, List.append_toArray, List.nil_append, List.cons_append]
  gi_wp2_with (refine ⟨trivial, ?_⟩; gi_at_call 33; refine (callsIn_wide.2 (all_nil _)).mono ?_; rintro e w' ⟨rfl, rfl⟩)
  obtain ⟨W0, hW0⟩ : ∃ W0, (((w.alloc (.cells #[.func (.yield yl) #[] #[]] 119)).alloc (.cells #[.int .i64 0] 3)).alloc (.cells #[.pointer none] 25)) = W0 := ⟨_, rfl⟩
  have z0 : W0.heap.size = w.heap.size + 3 := by rw [← hW0]; simp
  have k0 : Kept (fun _ => False) w W0 := by rw [← hW0]; exact (((Kept.refl _ _).alloc _).alloc _).alloc _
  have b2 : Blk W0 (w.heap.size + 1 + 1) 25 #[.pointer none] := by rw [← hW0]; have h9 := Blk.new ((w.alloc (.cells #[.func (.yield yl) #[] #[]] 119)).alloc (.cells #[.int .i64 0] 3)) 25 #[.pointer none]; simp only [World.size_alloc] at h9; exact h9
  have Z0 := Lib.hid z0
  have K0 := Lib.hid k0
  have H0 := Lib.hid h0
  have B0 := Lib.hid b2
  rw [hW0]
  clear hW0 z0 k0 h0 b2 r0
  refine wpIn_iter (N := 0) (enc := fun _ => #[]) rfl (by decide) (gf := 62) (lb := #[.pointer (some ⟨w.heap.size + 1 + 1, 0, none⟩)]) rfl trivial (enters_of Try.func62 (by kernel_rfl) rfl) (all1_nil trivial rfl _) (fun i h => absurd h (Nat.not_lt_zero _)) W0.heap.size rfl (NilS W0.heap.size (w.heap.size + 1 + 1) I) (fun _ _ _ => False) ?hrd ?hgr ?hgx ?hob ?hox ?h0 ?round ?done ?stop
  case hrd => rintro i X W ⟨X', h1, h2, h3, h4, h5, _⟩; exact h5.cell' rfl
  case hgr =>
    rintro i X W W' ⟨X', h1, h2, h3, h4, h5, h6, h7⟩ hk
    exact ⟨_, GR.out _ _ _ _ h1 (hk.mono fun b _ h => (h2 b h).1), fun b hb => hb.elim (fun h => ⟨.inl (h2 b h).1, (h2 b h).2⟩) (fun h => ⟨.inr h, by omega⟩), .inl h3, .inl h4, hk.blk (fun h => by have := (h2 _ h).2; omega) h5, h6, Nat.lt_of_lt_of_le h7 hk.size⟩
  case hgx => intro c X W W' h _; exact h
  case hob =>
    rintro i X W o' ⟨X', h1, h2, h3, h4, h5, h6, h7⟩
    have hk := kept_put W (W0.heap.size + 1) o'
    exact ⟨_, GR.out _ _ _ _ h1 (hk.mono fun b _ h => by rw [h]; exact h4), fun b hb => ⟨.inl (h2 b hb).1, (h2 b hb).2⟩, .inl h3, .inl h4, hk.blk (by omega) h5, h6, Nat.lt_of_lt_of_le h7 hk.size⟩
  case hox => intro c X W o' hJ; exact hJ
  case h0 =>
    intro o1 o2
    have hz := Z0.out
    have hk : Kept X0 w ((W0.alloc o1).alloc o2) := ((K0.out.alloc _).alloc _).mono fun _ _ h => h.elim
    have hs : ((W0.alloc o1).alloc o2).heap.size = w.heap.size + 5 := by simp; omega
    exact ⟨_, GR.out _ _ _ _ H0.out hk, fun _ h => h.elim, .inr ⟨by omega, by omega⟩, .inr ⟨by omega, by omega⟩, (B0.out.alloc _).alloc _, by omega, by omega⟩
  case round => intro i W K hi; exact absurd hi (Nat.not_lt_zero _)
  case done =>
    rintro X W ⟨X', h1, h2, h3, h4, h5, h6, h7⟩ hK
    have H1 := Lib.hid h1
    have H3 := Lib.hid h3
    have HK := Lib.hid hK
    clear h1 h2 h3 h4 h5 hK
    gi_wp2
    exact ret_range HK.out (results_none rfl _ _ _) ⟨⟨_, rfl⟩, .inl ⟨_, GR.out _ _ _ _ H1.out ((kept_put W W0.heap.size (.deferred none)).mono fun b _ h => by rw [h]; exact H3.out)⟩⟩
  case stop => rintro c X W h _; exact h.elim
theorem shown_nil (w : World) : Calls Try.prog 31 #[.pointer none] w fun e w' =>
    e = .returned (.func (.func 55) #[] #[.pointer (some ⟨w.heap.size, 0, none⟩)]) ∧ w' = w.alloc (.cells #[.pointer none] 25) := by
  go_enter Try.func31, Try.ntmps31
  go_wp2
  go_ret
  exact ⟨rfl, rfl⟩
set_option maxHeartbeats 4000000 in
theorem len_nil (w : World) :
    Calls Try.prog 18 #[.pointer none] w fun e w' => e = .returned (.int .i64 0) ∧ Kept (fun _ => False) w w' := by
  refine (callsIn_wide (n := 6)).1 ?_
  refine callsIn_of_wp_marks Try.func18 rfl trivial ?_ rfl
  simp only [Try.ntmps18, List.size_toArray, List.length_cons, List.length_nil, Nat.reduceAdd, Nat.reduceSub, Array.replicate_succ, Array.replicate_zero, List.push_toArray, List.append_toArray, List.nil_append, List.cons_append]
  gi_wp2_with (refine ⟨trivial, ?_⟩; gi_at_call 31; refine (callsIn_wide.2 (shown_nil _)).mono ?_; rintro e w' ⟨rfl, rfl⟩)
  obtain ⟨W0, hW0⟩ : ∃ W0, ((w.alloc (.cells #[.int .i64 0] 3)).alloc (.cells #[.pointer none] 25)) = W0 := ⟨_, rfl⟩
  have hJ0 : NilJ w W0.heap.size [(w.heap.size, 3, #[.int .i64 0]), (w.heap.size + 1, 25, #[.pointer none])] 0 (fun _ => False) W0 := by
    rw [← hW0]
    have h9 := ((NilJ.start w).boxed #[.int .i64 0] 3).boxed #[.pointer none] 25
    simp only [World.size_alloc] at h9 ⊢
    exact h9
  rw [hW0]
  clear hW0
  refine wpIn_iter (N := 0) (enc := fun _ => #[]) rfl (by decide) (gf := 55) (lb := #[.pointer (some ⟨w.heap.size + 1, 0, none⟩)]) rfl trivial (enters_of Try.func55 (by kernel_rfl) rfl) (shown1_nil _) (fun i h => absurd h (Nat.not_lt_zero _)) W0.heap.size rfl (NilJ w W0.heap.size [(w.heap.size, 3, #[.int .i64 0]), (w.heap.size + 1, 25, #[.pointer none])]) (fun _ _ _ => False) ?hrd ?hgr ?hgx ?hob ?hox ?h0 ?round ?done ?stop
  case hrd => intro i X W hJ; exact hJ.cell 1 rfl 0 rfl
  case hgr => intro i X W W' hJ hk; exact hJ.grow hk
  case hgx => intro c X W W' h _; exact h
  case hob => intro i X W o' hJ; exact hJ.step (kept_put W _ o') (fun b hb => by rw [hb]; omega) hJ.2.2.1
  case hox => intro c X W o' hJ; exact hJ
  case h0 => intro o1 o2; exact hJ0.step (((Kept.refl (fun _ => False) W0).alloc o1).alloc o2) (fun _ h => h.elim) (fun _ h => h.elim)
  case round => intro i W K hi; exact absurd hi (Nat.not_lt_zero _)
  case done =>
    intro X W hJ hK
    have c0 : W.cell? ⟨w.heap.size, 0, none⟩ = some (.int .i64 0) := hJ.cell 0 rfl 0 rfl
    have HJ := Lib.hid hJ
    have HK := Lib.hid hK
    clear hJ hK
    gi_wp2
    exact ret_range HK.out (results_tmp rfl _ _ _) ⟨rfl, (HJ.out.step (X' := fun _ => False) (kept_put W W0.heap.size (.deferred none)) (fun b hb => by rw [hb]; exact Nat.le_refl _) (fun _ h => h.elim)).1⟩
  case stop => rintro c X W h _; exact h.elim
set_option maxHeartbeats 4000000 in
theorem allf_nil (w : World) :
    Calls Try.prog 44 #[.pointer none] w fun e w' => e = .returned (.func (.func 70) #[] #[.pointer (some ⟨w.heap.size, 0, none⟩)]) ∧ Blk w' w.heap.size 42 #[.slice none 0 0] ∧ Kept (fun _ => False) w w' := by
  refine (callsIn_wide (n := 6)).1 ?_
  refine callsIn_of_wp_marks Try.func44 rfl trivial ?_ rfl
  simp only [Try.ntmps44, List.size_toArray, List.length_cons, List.length_nil, Nat.reduceAdd, Nat.reduceSub, Array.replicate_succ, Array.replicate_zero, List.push_toArray, List.append_toArray, List.nil_append, List.cons_append]
  gi_wp2_with (refine ⟨trivial, ?_⟩; gi_at_call 31; refine (callsIn_wide.2 (shown_nil _)).mono ?_; rintro e w' ⟨rfl, rfl⟩)
  obtain ⟨W0, hW0⟩ : ∃ W0, ((w.alloc (.cells #[.slice none 0 0] 42)).alloc (.cells #[.pointer none] 25)) = W0 := ⟨_, rfl⟩
  have hJ0 : NilJ w W0.heap.size [(w.heap.size, 42, #[.slice none 0 0]), (w.heap.size + 1, 25, #[.pointer none])] 0 (fun _ => False) W0 := by
    rw [← hW0]
    have h9 := ((NilJ.start w).boxed #[.slice none 0 0] 42).boxed #[.pointer none] 25
    simp only [World.size_alloc] at h9 ⊢
    exact h9
  rw [hW0]
  clear hW0
  refine wpIn_iter (N := 0) (enc := fun _ => #[]) rfl (by decide) (gf := 55) (lb := #[.pointer (some ⟨w.heap.size + 1, 0, none⟩)]) rfl trivial (enters_of Try.func55 (by kernel_rfl) rfl) (shown1_nil _) (fun i h => absurd h (Nat.not_lt_zero _)) W0.heap.size rfl (NilJ w W0.heap.size [(w.heap.size, 42, #[.slice none 0 0]), (w.heap.size + 1, 25, #[.pointer none])]) (fun _ _ _ => False) ?hrd ?hgr ?hgx ?hob ?hox ?h0 ?round ?done ?stop
  case hrd => intro i X W hJ; exact hJ.cell 1 rfl 0 rfl
  case hgr => intro i X W W' hJ hk; exact hJ.grow hk
  case hgx => intro c X W W' h _; exact h
  case hob => intro i X W o' hJ; exact hJ.step (kept_put W _ o') (fun b hb => by rw [hb]; omega) hJ.2.2.1
  case hox => intro c X W o' hJ; exact hJ
  case h0 => intro o1 o2; exact hJ0.step (((Kept.refl (fun _ => False) W0).alloc o1).alloc o2) (fun _ h => h.elim) (fun _ h => h.elim)
  case round => intro i W K hi; exact absurd hi (Nat.not_lt_zero _)
  case done =>
    intro X W hJ hK
    have HJ := Lib.hid hJ
    have HK := Lib.hid hK
    clear hJ hK
    gi_wp2
    have h9 := (HJ.out.step (X' := fun _ => False) (kept_put W W0.heap.size (.deferred none)) (fun b hb => by rw [hb]; exact Nat.le_refl _) (fun _ h => h.elim))
    exact ret_range HK.out (results_tmp rfl _ _ _) ⟨rfl, (h9.2.1 _ List.mem_cons_self).1, h9.1⟩
  case stop => rintro c X W h _; exact h.elim
def fnilB (z : Nat) (t s : Int) : List Box :=
  [(z, 27, #[.int .i64 t, .int .i64 s]), (z + 1, 3, #[.int .i64 0]), (z + 1 + 1, 3, #[.int .i64 0]), (z + 1 + 1 + 1, 3, #[.int .i64 0]), (z + 1 + 1 + 1 + 1, 25, #[.pointer none])]
set_option maxHeartbeats 4000000 in
theorem find_nil (i : ID) (w : World) :
    Calls Try.prog 12 #[.pointer none, idV i] w fun e w' => e = .returned (.tuple #[.int .i64 0, .int .i64 0]) ∧ Kept (fun _ => False) w w' := by
  obtain ⟨t, s⟩ := i
  show Calls _ _ #[_, .agg #[.int .i64 t, .int .i64 s]] _ _
  refine (callsIn_wide (n := 6)).1 ?_
  refine callsIn_of_wp_marks Try.func12 rfl trivial ?_ rfl
  simp only [Try.ntmps12, List.size_toArray, List.length_cons, List.length_nil, Nat.reduceAdd, Nat.reduceSub, Array.replicate_succ, Array.replicate_zero, List.push_toArray, List.append_toArray, List.nil_append, List.cons_append]
  gi_wp2_with (refine ⟨trivial, ?_⟩; gi_at_call 33; refine (callsIn_wide.2 (all_nil _)).mono ?_; rintro e w' ⟨rfl, rfl⟩)
  obtain ⟨W0, hW0⟩ : ∃ W0, (((((w.alloc (.cells #[.int .i64 t, .int .i64 s] 27)).alloc (.cells #[.int .i64 0] 3)).alloc (.cells #[.int .i64 0] 3)).alloc (.cells #[.int .i64 0] 3)).alloc (.cells #[.pointer none] 25)) = W0 := ⟨_, rfl⟩
  have hJ0 : NilJ w W0.heap.size (fnilB w.heap.size t s) 0 (fun _ => False) W0 := by
    rw [← hW0]
    have h9 := (((((NilJ.start w).boxed #[.int .i64 t, .int .i64 s] 27).boxed #[.int .i64 0] 3).boxed #[.int .i64 0] 3).boxed #[.int .i64 0] 3).boxed #[.pointer none] 25
    simp only [World.size_alloc] at h9 ⊢
    exact h9
  rw [hW0]
  clear hW0
  refine wpIn_iter (N := 0) (enc := fun _ => #[]) rfl (by decide) (gf := 62) (lb := #[.pointer (some ⟨w.heap.size + 1 + 1 + 1 + 1, 0, none⟩)]) rfl trivial (enters_of Try.func62 (by kernel_rfl) rfl) (all1_nil trivial rfl _) (fun i h => absurd h (Nat.not_lt_zero _)) W0.heap.size rfl (NilJ w W0.heap.size (fnilB w.heap.size t s)) (fun _ _ _ => False) ?hrd ?hgr ?hgx ?hob ?hox ?h0 ?round ?done ?stop
  case hrd => intro i X W hJ; exact hJ.cell 4 rfl 0 rfl
  case hgr => intro i X W W' hJ hk; exact hJ.grow hk
  case hgx => intro c X W W' h _; exact h
  case hob => intro i X W o' hJ; exact hJ.step (kept_put W _ o') (fun b hb => by rw [hb]; omega) hJ.2.2.1
  case hox => intro c X W o' hJ; exact hJ
  case h0 => intro o1 o2; exact hJ0.step (((Kept.refl (fun _ => False) W0).alloc o1).alloc o2) (fun _ h => h.elim) (fun _ h => h.elim)
  case round => intro i W K hi; exact absurd hi (Nat.not_lt_zero _)
  case done =>
    intro X W hJ hK
    have b1 : Blk W (w.heap.size + 1) 3 #[.int .i64 0] := (hJ.2.1 _ (List.mem_of_getElem? (i := 1) rfl)).1
    have b2 : Blk W (w.heap.size + 1 + 1) 3 #[.int .i64 0] := (hJ.2.1 _ (List.mem_of_getElem? (i := 2) rfl)).1
    have hl : w.heap.size + 1 + 1 + 1 + 1 < W0.heap.size := (hJ.2.1 _ (List.mem_of_getElem? (i := 4) rfl)).2
    have c1 : W.cell? ⟨w.heap.size + 1, 0, none⟩ = some (.int .i64 0) := b1.cell' rfl
    have c2 : W.cell? ⟨w.heap.size + 1 + 1, 0, none⟩ = some (.int .i64 0) := b2.cell' rfl
    have f1 := b1.frozen 0
    have f2 := b2.frozen 0
    have HJ := Lib.hid hJ
    have HK := Lib.hid hK
    have B1 := Lib.hid b1
    have B2 := Lib.hid b2
    clear hJ hK b1 b2
    gi_wp2
    have hk : Kept (fun b => b = w.heap.size + 1 ∨ b = w.heap.size + 1 + 1) W ((W.setCell ⟨w.heap.size + 1, 0, none⟩ (.int .i64 0)).setCell ⟨w.heap.size + 1 + 1, 0, none⟩ (.int .i64 0)) := ((Kept.refl _ _).setCell (p := ⟨w.heap.size + 1, 0, none⟩) (fun _ => .inl rfl) _).setCell (p := ⟨w.heap.size + 1 + 1, 0, none⟩) (fun _ => .inr rfl) _
    obtain ⟨W2, hW2⟩ : ∃ W2, (W.setCell ⟨w.heap.size + 1, 0, none⟩ (.int .i64 0)).setCell ⟨w.heap.size + 1 + 1, 0, none⟩ (.int .i64 0) = W2 := ⟨_, rfl⟩
    have e1 := (B1.out.set_ 0 (.int .i64 0)).far (p := ⟨w.heap.size + 1 + 1, 0, none⟩) (by simp) (.int .i64 0)
    have e2 := (B2.out.far (p := ⟨w.heap.size + 1, 0, none⟩) (by simp) (.int .i64 0)).set_ 0 (.int .i64 0)
    rw [hW2] at hk e1 e2 ⊢
    have k3 := kept_put W2 W0.heap.size (.deferred none)
    have g1 := k3.blk (by omega) e1
    have g2 := k3.blk (by omega) e2
    have d1 := g1.cell' (i := 0) (v := .int .i64 0) rfl
    have d2 := g2.cell' (i := 0) (v := .int .i64 0) rfl
    refine ret_range (v := .tuple #[.int .i64 0, .int .i64 0]) ((hk.block _ (by have := (Array.getElem?_eq_some_iff.1 HK.out).1; exact this) (by omega)).trans HK.out) ?_ ⟨rfl, ?_⟩
    · simp [results, Try.results12, go_sem, d1, d2]
    · refine (HJ.out.1.trans hk (fun b hb h => by omega)).trans k3 (fun b hb h => ?_)
      have := HJ.out.2.2.2.2
      omega
  case stop => rintro c X W h _; exact h.elim
set_option maxHeartbeats 4000000 in
theorem span_nil (ix n : Int) (w : World) : Calls Try.prog 11 #[.pointer none, .int .i64 ix, .int .i64 n] w fun e w' => e = .returned (.tuple #[.slice none 0 0, .int .i64 1]) ∧ Kept (fun _ => False) w w' := by
  go_enter Try.func11, Try.ntmps11
  go_wp2
  go_ret2
  exact ⟨rfl, by repeat (first | exact Kept.refl _ _ | apply Kept.alloc)⟩
set_option maxHeartbeats 4000000 in
theorem at_nil (ix : Int) (w : World) : Calls Try.prog 10 #[.pointer none, .int .i64 ix] w fun e w' => e = .returned (.tuple #[.agg #[.int .i64 0, .int .i64 0], .int .i64 1]) ∧ Kept (fun _ => False) w w' := by
  have b1 := ((Blk.new (w.alloc (.cells #[.int .i64 ix] 3)) 27 #[.int .i64 0, .int .i64 0]).alloc (.cells #[.int .i64 1] 31))
  have b2 := Blk.new ((w.alloc (.cells #[.int .i64 ix] 3)).alloc (.cells #[.int .i64 0, .int .i64 0] 27)) 31 #[.int .i64 1]
  simp only [World.size_alloc] at b1 b2
  have d1 := b1.cell' (i := 0) (v := .int .i64 0) rfl
  have d2 := b1.cell' (i := 1) (v := .int .i64 0) rfl
  have d3 := b2.cell' (i := 0) (v := .int .i64 1) rfl
  have k : Kept (fun _ => False) w (((w.alloc (.cells #[.int .i64 ix] 3)).alloc (.cells #[.int .i64 0, .int .i64 0] 27)).alloc (.cells #[.int .i64 1] 31)) := (((Kept.refl _ _).alloc _).alloc _).alloc _
  have D := Lib.hid (And.intro d1 (And.intro d2 (And.intro d3 k)))
  clear b1 b2 d1 d2 d3 k
  go_enter Try.func10, Try.ntmps10
  go_wp2
  obtain ⟨d1, d2, d3, k⟩ := D.out
  refine bodyPost_ret (v := .tuple #[.agg #[.int .i64 0, .int .i64 0], .int .i64 1]) ?_ rfl ⟨rfl, k⟩
  simp [results, Try.results10, go_sem, d1, d2, d3]
theorem text_nil0 (w : World) : Calls Try.prog 17 #[.pointer none] w fun e w' => e = .returned (.string ⟨(textB []).toArray⟩) ∧ Kept (fun _ => False) w w' :=
  text_core (Nat.zero_le _) ((allf_nil _).mono fun _ _ ⟨h1, h2, h3⟩ => ⟨⟨_, _, h1, Nat.le_refl _, h2, World.ownsRow_nil ..⟩, h3⟩)
end Go.Proofs.Ytlafodnaifghcaa.Tr
