/- The nil Tree: shown. shown: All goes through the shown nodes. hearsaylaw11.alike: the tree and the document are the same. -/
import Derived.Test.YtlafodnaifghcaaGreatH34
import Derived.Test.YtlafodnaifghcaaGreatH10
import Derived.Test.YtlafodnaifghcaaGreatH21
import Derived.Test.YtlafodnaifghcaaGreatH30
import Derived.Test.YtlafodnaifghcaaGreatH29
namespace Go.Proofs.YtlafodnaifghcaaGreat.Tr
open Go.RowKit Go.Proofs.YtlafodnaifghcaaGreat.St Go.Shelf
attribute [local go_sem] Oper.semAt_some
/-- shown's own blocks, while nothing is handed over -/
def NilS (B t : Nat) (I : Nat → (Nat → Prop) → World → Prop) (_ : Nat) (X : Nat → Prop) (W : World) : Prop :=
  ∃ X', I 0 X' W ∧ (∀ b, X b → X' b ∧ B ≤ b) ∧ X' B ∧ X' (B + 1) ∧ Blk W t 25 #[.pointer none] ∧ t < B ∧ B + 1 < W.heap.size
set_option maxHeartbeats 4000000 in
theorem shown1_nil {pl : Nat} (enc : Nat → Array Value) :
    IterOk Fence.wide 5 Tryz.prog 85 #[.pointer (some ⟨pl, 0, none⟩)] 0 enc (fun w => w.cell? ⟨pl, 0, none⟩ = some (.pointer none)) := by
  intro yl I Z X0 w hrd hgr hgz hy h0
  have GR := Lib.hid hgr
  have r0 := hrd _ _ _ h0
  have hpl : pl < w.heap.size := World.block_lt_of_cell? w _ r0
  clear hrd hgr hgz hy
  refine callsIn_of_wp_marks Tryz.func85 rfl trivial ?_ rfl
  simp only [Tryz.ntmps85, List.size_toArray, List.length_cons, List.length_nil, Nat.reduceAdd, Nat.reduceSub, Array.replicate_succ, Array.replicate_zero, List.push_toArray, List.append_toArray, List.nil_append, List.cons_append]
  gi_wp2_with (refine ⟨trivial, ?_⟩; gi_at_call 63; refine (callsIn_wide.2 (all_nil _)).mono ?_; rintro e w' ⟨rfl, rfl⟩)
  obtain ⟨W0, hW0⟩ : ∃ W0, (((w.alloc (.cells #[.func (.yield yl) #[] #[]] 138)).alloc (.cells #[.int .i64 0] 3)).alloc (.cells #[.pointer none] 25)) = W0 := ⟨_, rfl⟩
  have z0 : W0.heap.size = w.heap.size + 3 := by rw [← hW0]; simp
  have k0 : Kept (fun _ => False) w W0 := by rw [← hW0]; exact (((Kept.refl _ _).alloc _).alloc _).alloc _
  have b2 : Blk W0 (w.heap.size + 1 + 1) 25 #[.pointer none] := by rw [← hW0]; have h9 := Blk.new ((w.alloc (.cells #[.func (.yield yl) #[] #[]] 138)).alloc (.cells #[.int .i64 0] 3)) 25 #[.pointer none]; simp only [World.size_alloc] at h9; exact h9
  have Z0 := Lib.hid z0
  have K0 := Lib.hid k0
  have H0 := Lib.hid h0
  have B0 := Lib.hid b2
  rw [hW0]
  clear hW0 z0 k0 h0 b2 r0
  refine wpIn_iter (N := 0) (enc := fun _ => #[]) rfl (by decide) (gf := 95) (lb := #[.pointer (some ⟨w.heap.size + 1 + 1, 0, none⟩)]) rfl trivial (enters_of Tryz.func95 (by kernel_rfl) rfl) (all1_nil trivial rfl _) (fun i h => absurd h (Nat.not_lt_zero _)) W0.heap.size rfl (NilS W0.heap.size (w.heap.size + 1 + 1) I) (fun _ _ _ => False) ?hrd ?hgr ?hgx ?hob ?hox ?h0 ?round ?done ?stop
  case hrd => rintro i X W ⟨X', h1, h2, h3, h4, h5, _⟩; exact h5.cell' rfl
  case hgr =>
    rintro i X W W' ⟨X', h1, h2, h3, h4, h5, h6, h7⟩ hk
    exact ⟨_, GR.out _ _ _ _ h1 (hk.mono fun b _ h => (h2 b h).1), fun b hb => hb.elim (fun h => ⟨.inl (h2 b h).1, (h2 b h).2⟩) (fun h => ⟨.inr h, by omega⟩), .inl h3, .inl h4, hk.blk (fun h => by have := (h2 _ h).2; omega) h5, h6, Nat.lt_of_lt_of_le h7 hk.size⟩
  case hgx => intro c X W W' h _; exact h
  case hob =>
    rintro i X W o' ⟨X', h1, h2, h3, h4, h5, h6, h7⟩
    have hk := kept_put W (W0.heap.size + 1) o'
    exact ⟨_, GR.out _ _ _ _ h1 (hk.mono fun b _ h => by rw [h]; exact h4), fun b hb => ⟨.inl (h2 b hb).1, (h2 b hb).2⟩, .inl h3, .inl h4, hk.blk (by omega) h5, h6, Nat.lt_of_lt_of_le h7 hk.size⟩
  case hox => intro c X W o' hJ; exact hJ
  case h0 =>
    intro o1 o2
    have hz := Z0.out
    have hk : Kept X0 w ((W0.alloc o1).alloc o2) := ((K0.out.alloc _).alloc _).mono fun _ _ h => h.elim
    have hs : ((W0.alloc o1).alloc o2).heap.size = w.heap.size + 5 := by simp; omega
    exact ⟨_, GR.out _ _ _ _ H0.out hk, fun _ h => h.elim, .inr ⟨by omega, by omega⟩, .inr ⟨by omega, by omega⟩, (B0.out.alloc _).alloc _, by omega, by omega⟩
  case round => intro i W K hi; exact absurd hi (Nat.not_lt_zero _)
  case done =>
    rintro X W ⟨X', h1, h2, h3, h4, h5, h6, h7⟩ hK
    have H1 := Lib.hid h1
    have H3 := Lib.hid h3
    have HK := Lib.hid hK
    clear h1 h2 h3 h4 h5 hK
    gi_wp2
    exact ret_range HK.out (results_none rfl _ _ _) ⟨⟨_, rfl⟩, .inl ⟨_, GR.out _ _ _ _ H1.out ((kept_put W W0.heap.size (.deferred none)).mono fun b _ h => by rw [h]; exact H3.out)⟩⟩
  case stop => rintro c X W h _; exact h.elim
theorem shown_nil (w : World) : Calls Tryz.prog 51 #[.pointer none] w fun e w' =>
    e = .returned (.func (.func 85) #[] #[.pointer (some ⟨w.heap.size, 0, none⟩)]) ∧ w' = w.alloc (.cells #[.pointer none] 25) := by
  go_enter Tryz.func51, Tryz.ntmps51
  go_wp2
  go_ret
  exact ⟨rfl, rfl⟩
set_option maxHeartbeats 4000000 in
theorem len_nil (w : World) :
    Calls Tryz.prog 30 #[.pointer none] w fun e w' => e = .returned (.int .i64 0) ∧ Kept (fun _ => False) w w' := by
  refine (callsIn_wide (n := 6)).1 ?_
  refine callsIn_of_wp_marks Tryz.func30 rfl trivial ?_ rfl
  simp only [Tryz.ntmps30, List.size_toArray, List.length_cons, List.length_nil, Nat.reduceAdd, Nat.reduceSub, Array.replicate_succ, Array.replicate_zero, List.push_toArray, List.append_toArray, List.nil_append, List.cons_append]
  gi_wp2_with (refine ⟨trivial, ?_⟩; gi_at_call 51; refine (callsIn_wide.2 (shown_nil _)).mono ?_; rintro e w' ⟨rfl, rfl⟩)
  obtain ⟨W0, hW0⟩ : ∃ W0, ((w.alloc (.cells #[.int .i64 0] 3)).alloc (.cells #[.pointer none] 25)) = W0 := ⟨_, rfl⟩
  have hJ0 : NilJ w W0.heap.size [(w.heap.size, 3, #[.int .i64 0]), (w.heap.size + 1, 25, #[.pointer none])] 0 (fun _ => False) W0 := by
    rw [← hW0]
    have h9 := ((NilJ.start w).boxed #[.int .i64 0] 3).boxed #[.pointer none] 25
    simp only [World.size_alloc] at h9 ⊢
    exact h9
  rw [hW0]
  clear hW0
  refine wpIn_iter (N := 0) (enc := fun _ => #[]) rfl (by decide) (gf := 85) (lb := #[.pointer (some ⟨w.heap.size + 1, 0, none⟩)]) rfl trivial (enters_of Tryz.func85 (by kernel_rfl) rfl) (shown1_nil _) (fun i h => absurd h (Nat.not_lt_zero _)) W0.heap.size rfl (NilJ w W0.heap.size [(w.heap.size, 3, #[.int .i64 0]), (w.heap.size + 1, 25, #[.pointer none])]) (fun _ _ _ => False) ?hrd ?hgr ?hgx ?hob ?hox ?h0 ?round ?done ?stop
  case hrd => intro i X W hJ; exact hJ.cell 1 rfl 0 rfl
  case hgr => intro i X W W' hJ hk; exact hJ.grow hk
  case hgx => intro c X W W' h _; exact h
  case hob => intro i X W o' hJ; exact hJ.step (kept_put W _ o') (fun b hb => by rw [hb]; omega) hJ.2.2.1
  case hox => intro c X W o' hJ; exact hJ
  case h0 => intro o1 o2; exact hJ0.step (((Kept.refl (fun _ => False) W0).alloc o1).alloc o2) (fun _ h => h.elim) (fun _ h => h.elim)
  case round => intro i W K hi; exact absurd hi (Nat.not_lt_zero _)
  case done =>
    intro X W hJ hK
    have c0 : W.cell? ⟨w.heap.size, 0, none⟩ = some (.int .i64 0) := hJ.cell 0 rfl 0 rfl
    have HJ := Lib.hid hJ
    have HK := Lib.hid hK
    clear hJ hK
    gi_wp2
    exact ret_range HK.out (results_tmp rfl _ _ _) ⟨rfl, (HJ.out.step (X' := fun _ => False) (kept_put W W0.heap.size (.deferred none)) (fun b hb => by rw [hb]; exact Nat.le_refl _) (fun _ h => h.elim)).1⟩
  case stop => rintro c X W h _; exact h.elim
set_option maxHeartbeats 4000000 in
theorem allf_nil (w : World) :
    Calls Tryz.prog 15 #[.pointer none] w fun e w' => e = .returned (.func (.func 52) #[] #[.pointer (some ⟨w.heap.size, 0, none⟩)]) ∧ Blk w' w.heap.size 31 #[.slice none 0 0] ∧ Kept (fun _ => False) w w' := by
  refine (callsIn_wide (n := 6)).1 ?_
  refine callsIn_of_wp_marks Tryz.func15 rfl trivial ?_ rfl
  simp only [Tryz.ntmps15, List.size_toArray, List.length_cons, List.length_nil, Nat.reduceAdd, Nat.reduceSub, Array.replicate_succ, Array.replicate_zero, List.push_toArray, List.append_toArray, List.nil_append, List.cons_append]
  gi_wp2_with (refine ⟨trivial, ?_⟩; gi_at_call 51; refine (callsIn_wide.2 (shown_nil _)).mono ?_; rintro e w' ⟨rfl, rfl⟩)
  obtain ⟨W0, hW0⟩ : ∃ W0, ((w.alloc (.cells #[.slice none 0 0] 31)).alloc (.cells #[.pointer none] 25)) = W0 := ⟨_, rfl⟩
  have hJ0 : NilJ w W0.heap.size [(w.heap.size, 31, #[.slice none 0 0]), (w.heap.size + 1, 25, #[.pointer none])] 0 (fun _ => False) W0 := by
    rw [← hW0]
    have h9 := ((NilJ.start w).boxed #[.slice none 0 0] 31).boxed #[.pointer none] 25
    simp only [World.size_alloc] at h9 ⊢
    exact h9
  rw [hW0]
  clear hW0
  refine wpIn_iter (N := 0) (enc := fun _ => #[]) rfl (by decide) (gf := 85) (lb := #[.pointer (some ⟨w.heap.size + 1, 0, none⟩)]) rfl trivial (enters_of Tryz.func85 (by kernel_rfl) rfl) (shown1_nil _) (fun i h => absurd h (Nat.not_lt_zero _)) W0.heap.size rfl (NilJ w W0.heap.size [(w.heap.size, 31, #[.slice none 0 0]), (w.heap.size + 1, 25, #[.pointer none])]) (fun _ _ _ => False) ?hrd ?hgr ?hgx ?hob ?hox ?h0 ?round ?done ?stop
  case hrd => intro i X W hJ; exact hJ.cell 1 rfl 0 rfl
  case hgr => intro i X W W' hJ hk; exact hJ.grow hk
  case hgx => intro c X W W' h _; exact h
  case hob => intro i X W o' hJ; exact hJ.step (kept_put W _ o') (fun b hb => by rw [hb]; omega) hJ.2.2.1
  case hox => intro c X W o' hJ; exact hJ
  case h0 => intro o1 o2; exact hJ0.step (((Kept.refl (fun _ => False) W0).alloc o1).alloc o2) (fun _ h => h.elim) (fun _ h => h.elim)
  case round => intro i W K hi; exact absurd hi (Nat.not_lt_zero _)
  case done =>
    intro X W hJ hK
    have HJ := Lib.hid hJ
    have HK := Lib.hid hK
    clear hJ hK
    gi_wp2
    have h9 := (HJ.out.step (X' := fun _ => False) (kept_put W W0.heap.size (.deferred none)) (fun b hb => by rw [hb]; exact Nat.le_refl _) (fun _ h => h.elim))
    exact ret_range HK.out (results_tmp rfl _ _ _) ⟨rfl, (h9.2.1 _ List.mem_cons_self).1, h9.1⟩
  case stop => rintro c X W h _; exact h.elim
def fnilB (z : Nat) (t s : Int) : List Box :=
  [(z, 37, #[.int .i64 t, .int .i64 s]), (z + 1, 3, #[.int .i64 0]), (z + 1 + 1, 3, #[.int .i64 0]), (z + 1 + 1 + 1, 3, #[.int .i64 0]), (z + 1 + 1 + 1 + 1, 25, #[.pointer none])]
set_option maxHeartbeats 4000000 in
theorem find_nil (i : ID) (w : World) :
    Calls Tryz.prog 25 #[.pointer none, idV i] w fun e w' => e = .returned (.tuple #[.int .i64 0, .int .i64 0]) ∧ Kept (fun _ => False) w w' := by
  obtain ⟨t, s⟩ := i
  show Calls _ _ #[_, .agg #[.int .i64 t, .int .i64 s]] _ _
  refine (callsIn_wide (n := 6)).1 ?_
  refine callsIn_of_wp_marks Tryz.func25 rfl trivial ?_ rfl
  simp only [Tryz.ntmps25, List.size_toArray, List.length_cons, List.length_nil, Nat.reduceAdd, Nat.reduceSub, Array.replicate_succ, Array.replicate_zero, List.push_toArray, List.append_toArray, List.nil_append, List.cons_append]
  gi_wp2_with (refine ⟨trivial, ?_⟩; gi_at_call 63; refine (callsIn_wide.2 (all_nil _)).mono ?_; rintro e w' ⟨rfl, rfl⟩)
  obtain ⟨W0, hW0⟩ : ∃ W0, (((((w.alloc (.cells #[.int .i64 t, .int .i64 s] 37)).alloc (.cells #[.int .i64 0] 3)).alloc (.cells #[.int .i64 0] 3)).alloc (.cells #[.int .i64 0] 3)).alloc (.cells #[.pointer none] 25)) = W0 := ⟨_, rfl⟩
  have hJ0 : NilJ w W0.heap.size (fnilB w.heap.size t s) 0 (fun _ => False) W0 := by
    rw [← hW0]
    have h9 := (((((NilJ.start w).boxed #[.int .i64 t, .int .i64 s] 37).boxed #[.int .i64 0] 3).boxed #[.int .i64 0] 3).boxed #[.int .i64 0] 3).boxed #[.pointer none] 25
    simp only [World.size_alloc] at h9 ⊢
    exact h9
  rw [hW0]
  clear hW0
  refine wpIn_iter (N := 0) (enc := fun _ => #[]) rfl (by decide) (gf := 95) (lb := #[.pointer (some ⟨w.heap.size + 1 + 1 + 1 + 1, 0, none⟩)]) rfl trivial (enters_of Tryz.func95 (by kernel_rfl) rfl) (all1_nil trivial rfl _) (fun i h => absurd h (Nat.not_lt_zero _)) W0.heap.size rfl (NilJ w W0.heap.size (fnilB w.heap.size t s)) (fun _ _ _ => False) ?hrd ?hgr ?hgx ?hob ?hox ?h0 ?round ?done ?stop
  case hrd => intro i X W hJ; exact hJ.cell 4 rfl 0 rfl
  case hgr => intro i X W W' hJ hk; exact hJ.grow hk
  case hgx => intro c X W W' h _; exact h
  case hob => intro i X W o' hJ; exact hJ.step (kept_put W _ o') (fun b hb => by rw [hb]; omega) hJ.2.2.1
  case hox => intro c X W o' hJ; exact hJ
  case h0 => intro o1 o2; exact hJ0.step (((Kept.refl (fun _ => False) W0).alloc o1).alloc o2) (fun _ h => h.elim) (fun _ h => h.elim)
  case round => intro i W K hi; exact absurd hi (Nat.not_lt_zero _)
  case done =>
    intro X W hJ hK
    have b1 : Blk W (w.heap.size + 1) 3 #[.int .i64 0] := (hJ.2.1 _ (List.mem_of_getElem? (i := 1) rfl)).1
    have b2 : Blk W (w.heap.size + 1 + 1) 3 #[.int .i64 0] := (hJ.2.1 _ (List.mem_of_getElem? (i := 2) rfl)).1
    have hl : w.heap.size + 1 + 1 + 1 + 1 < W0.heap.size := (hJ.2.1 _ (List.mem_of_getElem? (i := 4) rfl)).2
    have c1 : W.cell? ⟨w.heap.size + 1, 0, none⟩ = some (.int .i64 0) := b1.cell' rfl
    have c2 : W.cell? ⟨w.heap.size + 1 + 1, 0, none⟩ = some (.int .i64 0) := b2.cell' rfl
    have f1 := b1.frozen 0
    have f2 := b2.frozen 0
    have HJ := Lib.hid hJ
    have HK := Lib.hid hK
    have B1 := Lib.hid b1
    have B2 := Lib.hid b2
    clear hJ hK b1 b2
    gi_wp2
    have hk : Kept (fun b => b = w.heap.size + 1 ∨ b = w.heap.size + 1 + 1) W ((W.setCell ⟨w.heap.size + 1, 0, none⟩ (.int .i64 0)).setCell ⟨w.heap.size + 1 + 1, 0, none⟩ (.int .i64 0)) := ((Kept.refl _ _).setCell (p := ⟨w.heap.size + 1, 0, none⟩) (fun _ => .inl rfl) _).setCell (p := ⟨w.heap.size + 1 + 1, 0, none⟩) (fun _ => .inr rfl) _
    obtain ⟨W2, hW2⟩ : ∃ W2, (W.setCell ⟨w.heap.size + 1, 0, none⟩ (.int .i64 0)).setCell ⟨w.heap.size + 1 + 1, 0, none⟩ (.int .i64 0) = W2 := ⟨_, rfl⟩
    have e1 := (B1.out.set_ 0 (.int .i64 0)).far (p := ⟨w.heap.size + 1 + 1, 0, none⟩) (by simp) (.int .i64 0)
    have e2 := (B2.out.far (p := ⟨w.heap.size + 1, 0, none⟩) (by simp) (.int .i64 0)).set_ 0 (.int .i64 0)
    rw [hW2] at hk e1 e2 ⊢
    have k3 := kept_put W2 W0.heap.size (.deferred none)
    have g1 := k3.blk (by omega) e1
    have g2 := k3.blk (by omega) e2
    have d1 := g1.cell' (i := 0) (v := .int .i64 0) rfl
    have d2 := g2.cell' (i := 0) (v := .int .i64 0) rfl
    refine ret_range (v := .tuple #[.int .i64 0, .int .i64 0]) ((hk.block _ (by have := (Array.getElem?_eq_some_iff.1 HK.out).1; exact this) (by omega)).trans HK.out) ?_ ⟨rfl, ?_⟩
    · simp [results, Tryz.results25, go_sem, d1, d2]
    · refine (HJ.out.1.trans hk (fun b hb h => by omega)).trans k3 (fun b hb h => ?_)
      have := HJ.out.2.2.2.2
      omega
  case stop => rintro c X W h _; exact h.elim
set_option maxHeartbeats 4000000 in
theorem span_nil (ix n : Int) (w : World) : Calls Tryz.prog 23 #[.pointer none, .int .i64 ix, .int .i64 n] w fun e w' => e = .returned (.tuple #[.slice none 0 0, .int .i64 1]) ∧ Kept (fun _ => False) w w' := by
  go_enter Tryz.func23, Tryz.ntmps23
  go_wp2
  go_ret2
  exact ⟨rfl, by repeat (first | exact Kept.refl _ _ | apply Kept.alloc)⟩
set_option maxHeartbeats 4000000 in
theorem at_nil (ix : Int) (w : World) : Calls Tryz.prog 22 #[.pointer none, .int .i64 ix] w fun e w' => e = .returned (.tuple #[.agg #[.int .i64 0, .int .i64 0], .int .i64 1]) ∧ Kept (fun _ => False) w w' := by
  have b1 := ((Blk.new (w.alloc (.cells #[.int .i64 ix] 3)) 37 #[.int .i64 0, .int .i64 0]).alloc (.cells #[.int .i64 1] 46))
  have b2 := Blk.new ((w.alloc (.cells #[.int .i64 ix] 3)).alloc (.cells #[.int .i64 0, .int .i64 0] 37)) 46 #[.int .i64 1]
  simp only [World.size_alloc] at b1 b2
  have d1 := b1.cell' (i := 0) (v := .int .i64 0) rfl
  have d2 := b1.cell' (i := 1) (v := .int .i64 0) rfl
  have d3 := b2.cell' (i := 0) (v := .int .i64 1) rfl
  have k : Kept (fun _ => False) w (((w.alloc (.cells #[.int .i64 ix] 3)).alloc (.cells #[.int .i64 0, .int .i64 0] 37)).alloc (.cells #[.int .i64 1] 46)) := (((Kept.refl _ _).alloc _).alloc _).alloc _
  have D := Lib.hid (And.intro d1 (And.intro d2 (And.intro d3 k)))
  clear b1 b2 d1 d2 d3 k
  go_enter Tryz.func22, Tryz.ntmps22
  go_wp2
  obtain ⟨d1, d2, d3, k⟩ := D.out
  refine bodyPost_ret (v := .tuple #[.agg #[.int .i64 0, .int .i64 0], .int .i64 1]) ?_ rfl ⟨rfl, k⟩
  simp [results, Tryz.results22, go_sem, d1, d2, d3]
theorem text_nil0 (w : World) : Calls Tryz.prog 21 #[.pointer none] w fun e w' => e = .returned (.string ⟨(textB []).toArray⟩) ∧ Kept (fun _ => False) w w' :=
  text_core (Nat.zero_le _) ((allf_nil _).mono fun _ _ ⟨h1, h2, h3⟩ => ⟨⟨_, _, h1, Nat.le_refl _, h2, World.ownsRow_nil ..⟩, h3⟩)
end Go.Proofs.YtlafodnaifghcaaGreat.Tr
namespace Go.Proofs.YtlafodnaifghcaaGreat.Tr
open Go.RowKit Go.Sort Go.Proofs.YtlafodnaifghcaaGreat.St
theorem seq_not_nil (p : Value) (w : World) : (binOp .neq 54 (.func (.func 52) #[] #[p]) .nilFunc).run Tryz.prog w = .ok (.bool true) w := by kernel_rfl
set_option maxRecDepth 100000 in
theorem lshown_nil (w : World) : Calls Tryz.prog 43 #[.pointer none, .slice none 0 0, .int .i64 0] w fun e w' => e = .returned (.bool true) ∧ Kept (fun _ => False) w w' := by
  have AL := Lib.hid (allf_nil w)
  have hnf := seq_not_nil
  go_enter Tryz.func43, Tryz.ntmps43
  go_wp2_with (first | (go_at_call 15; refine AL.out.mono ?_; rintro e w1 ⟨rfl, hb, hk⟩; have GO := Lib.hid (goes_any (M := []) hb (.inl ⟨rfl, rfl⟩) (.inl ⟨rfl, rfl⟩) (by decide) 0); have K := Lib.hid hk; clear hb hk) | (go_at_call 16; refine GO.out.mono ?_; rintro e w2 ⟨rfl, hk2⟩))
  go_ret
  exact ⟨rfl, K.out.trans hk2 fun _ _ h => h⟩
theorem TBox.all {w : World} {g : Nat} {L : List Nd} {F : Nat → Prop} (h : TBox w g L F) (hlen : L.length ≤ 900000) :
    Calls Tryz.prog 15 #[.pointer (some ⟨g, 0, none⟩)] w fun e w' => (∃ b v, e = .returned (.func (.func 52) #[] #[.pointer (some ⟨b, 0, none⟩)]) ∧ w.heap.size ≤ b ∧ Blk w' b 31 #[v] ∧ w'.ownsRow w.heap.size 45 6 v (shL L).length (nodeE.flat (shL L))) ∧ Kept (fun _ => False) w w' := by
  obtain ⟨A, S, mp, h1, _⟩ := h.at_
  exact allf_any h1 h.doc hlen
set_option maxRecDepth 100000 in
theorem TBox.shown {w : World} {g : Nat} {L : List Nd} {F : Nat → Prop} (h : TBox w g L F) (hlen : L.length ≤ 900000) {lv : Value} (hl : SlAt nodeE w lv L) :
    Calls Tryz.prog 43 #[.pointer (some ⟨g, 0, none⟩), lv, .int .i64 0] w fun e w' => e = .returned (.bool true) ∧ Kept (fun _ => False) w w' := by
  have AL := Lib.hid (h.all hlen)
  have HL := Lib.hid hl
  obtain ⟨la, lc, rfl, _, _⟩ := hl.sl
  clear h hl
  have hnf := seq_not_nil
  go_enter Tryz.func43, Tryz.ntmps43
  go_wp2_with (first | (go_at_call 15; refine AL.out.mono ?_; rintro e w1 ⟨⟨b, v, rfl, _, hb, ho⟩, hk⟩; have GO := Lib.hid (goes_any (M := L) hb (owns_slAt ho) (HL.out.kept hk) hlen 0); have K := Lib.hid hk; clear hb hk ho) | (go_at_call 16; refine GO.out.mono ?_; rintro e w2 ⟨rfl, hk2⟩))
  go_ret
  exact ⟨rfl, K.out.trans hk2 fun _ _ h => h⟩
end Go.Proofs.YtlafodnaifghcaaGreat.Tr
namespace Go.Proofs.YtlafodnaifghcaaGreat.Tr
open Go.RowKit Go.Sort Go.Proofs.YtlafodnaifghcaaGreat.St Go.Proofs.YtlafodnaifghcaaGreat Go.Proofs.YtlafodnaifghcaaGreat.Gl
theorem TBox.nodes9 {w : World} {g : Nat} {L : List Nd} {F : Nat → Prop} (h : TBox w g L F) (hlen : L.length ≤ 900000) :
    Calls Tryz.prog 40 #[.pointer (some ⟨g, 0, none⟩)] w fun e w' => (∃ a c, e = .returned (.slice a L.length c) ∧ SlAt nodeE w' (.slice a L.length c) L) ∧ Kept (fun _ => False) w w' := by
  obtain ⟨A, S, mp, h1, _⟩ := h.at_
  refine (nodes_any h1 h.doc hlen).mono ?_
  rintro e w' ⟨⟨v, rfl, hc⟩, hk⟩
  refine ⟨?_, hk⟩
  rcases hc with ⟨rfl, rfl⟩ | ⟨b, cap, rfl, hb, ho⟩
  · exact ⟨none, 0, rfl, .inl ⟨rfl, rfl⟩⟩
  · exact ⟨_, _, rfl, .inr ⟨⟨b, 0, none⟩, L.length, rfl, Nat.le_refl _, by have := ho.le; omega, fun _ => rfl, fun i y hy j u hu => by rw [Nat.zero_add]; exact ho.cell hy hu⟩⟩
set_option maxRecDepth 100000 in
set_option maxHeartbeats 8000000 in
theorem talike_any {w : World} {g : Nat} {L : List Nd} {F : Nat → Prop} (h : TBox w g L F) {v : Value} (hv : SlAt nodeE w v L) (hlen : L.length ≤ 800000) (hr : ∀ n ∈ L, isRuneP n.rune) :
    Calls Tryz.prog 11 #[.pointer (some ⟨g, 0, none⟩), .agg #[v]] w fun e w' => e = .returned (.bool true) ∧ Kept (fun _ => False) w w' := by
  obtain ⟨a, c, rfl, _, _⟩ := hv.sl
  obtain ⟨w1, hw1⟩ : ∃ w1, w.alloc (.cells #[.slice a L.length c] 33) = w1 := ⟨_, rfl⟩
  have k1 : Kept (fun _ => False) w w1 := by rw [← hw1]; exact (Kept.refl _ _).alloc _
  have b0 := Blk.new w 33 #[.slice a L.length c]
  rw [hw1] at b0
  have K1 := Lib.hid k1
  have H := Lib.hid (h.still k1)
  have HV := Lib.hid (hv.kept k1)
  have hlen9 : L.length ≤ 900000 := by omega
  have CN : Hid (∀ W, Kept (fun _ => False) w1 W → Calls Tryz.prog 40 #[.pointer (some ⟨g, 0, none⟩)] W fun e w' => (∃ a c, e = .returned (.slice a L.length c) ∧ SlAt nodeE w' (.slice a L.length c) L) ∧ Kept (fun _ => False) w1 w') := Lib.hid fun W hk => ((H.out.still hk).nodes9 hlen9).mono fun e w' h => ⟨h.1, hk.trans h.2 fun _ _ h => h⟩
  have CE : Hid (∀ W (na : Option Addr) (nc : Nat), Kept (fun _ => False) w1 W → SlAt nodeE W (.slice na L.length nc) L → Calls Tryz.prog 14 #[.slice na L.length nc, .slice a L.length c] W fun e w' => e = .returned (.bool true) ∧ Kept (fun _ => False) w1 w') := Lib.hid fun W na nc hk hn => (lnodes_eq hn (HV.out.kept hk) (by omega)).mono fun e w' h => by
    obtain ⟨he, q, rfl⟩ := h
    rw [decide_eq_true rfl] at he
    exact ⟨he, hk.drewN q⟩
  have CT : Hid (∀ W, Kept (fun _ => False) w1 W → Calls Tryz.prog 21 #[.pointer (some ⟨g, 0, none⟩)] W fun e w' => e = .returned (.string ⟨(textB (shL L)).toArray⟩) ∧ Kept (fun _ => False) w1 w') := Lib.hid fun W hk => ((H.out.still hk).text hlen9).mono fun e w' h => ⟨h.1, hk.trans h.2 fun _ _ h => h⟩
  have CRT : Hid (∀ W, Kept (fun _ => False) w1 W → Calls Tryz.prog 41 #[.agg #[.slice a L.length c]] W fun e w' => e = .returned (.string ⟨(textB (shL L)).toArray⟩) ∧ Kept (fun _ => False) w1 w') := Lib.hid fun W hk => (rtext_any (HV.out.kept hk) hlen9 hr).mono fun e w' h => ⟨h.1, hk.trans h.2 fun _ _ h => h⟩
  have CL : Hid (∀ W, Kept (fun _ => False) w1 W → Calls Tryz.prog 30 #[.pointer (some ⟨g, 0, none⟩)] W fun e w' => e = .returned (.int .i64 (shL L).length) ∧ Kept (fun _ => False) w1 w') := Lib.hid fun W hk => ((H.out.still hk).len hlen9).mono fun e w' h => ⟨h.1, hk.trans h.2 fun _ _ h => h⟩
  have CRL : Hid (∀ W, Kept (fun _ => False) w1 W → Calls Tryz.prog 18 #[.agg #[.slice a L.length c]] W fun e w' => e = .returned (.int .i64 (shL L).length) ∧ Kept (fun _ => False) w1 w') := Lib.hid fun W hk => (rlen_any (HV.out.kept hk) hlen9).mono fun e w' h => ⟨h.1, hk.trans h.2 fun _ _ h => h⟩
  have CK : Hid (∀ W, Kept (fun _ => False) w1 W → Calls Tryz.prog 29 #[.pointer (some ⟨g, 0, none⟩)] W fun e w' => e = .returned (.int .i64 L.length) ∧ Kept (fun _ => False) w1 w') := Lib.hid fun W hk => (H.out.still hk).kept.mono fun e w' h => ⟨h.1, by rw [← h.2]; exact hk⟩
  have CRK : Hid (∀ W, Kept (fun _ => False) w1 W → Calls Tryz.prog 42 #[.agg #[.slice a L.length c]] W fun e w' => e = .returned (.int .i64 L.length) ∧ Kept (fun _ => False) w1 w') := Lib.hid fun W hk => (rkept_any (HV.out.kept hk)).mono fun e w' h => ⟨h.1, hk.trans h.2 fun _ _ h => h⟩
  have CS : Hid (∀ W, Kept (fun _ => False) w1 W → Calls Tryz.prog 43 #[.pointer (some ⟨g, 0, none⟩), .slice a L.length c, .int .i64 0] W fun e w' => e = .returned (.bool true) ∧ Kept (fun _ => False) w1 w') := Lib.hid fun W hk => ((H.out.still hk).shown hlen9 (HV.out.kept hk)).mono fun e w' h => ⟨h.1, hk.trans h.2 fun _ _ h => h⟩
  obtain ⟨z, hz⟩ : ∃ z, w.heap.size = z := ⟨_, rfl⟩
  rw [hz] at b0
  have BX : Hid (∀ W, Kept (fun _ => False) w1 W → W.cell? ⟨z, 0, none⟩ = some (.slice a L.length c)) := Lib.hid fun W hk => (hk.blk (fun h => h) b0).cell' (i := 0) rfl
  obtain ⟨T, hT⟩ : ∃ T, (⟨(textB (shL L)).toArray⟩ : ByteArray) = T := ⟨_, rfl⟩
  rw [hT] at CT CRT
  obtain ⟨S, hS⟩ : ∃ S, (shL L).length = S := ⟨_, rfl⟩
  rw [hS] at CL CRL
  clear h hv k1 b0 H HV hlen hlen9 hr hT hS
  go_enter Tryz.func11, Tryz.ntmps11
  go_upto_region 1 with fail
  clear hz hw1
  go_region_held3 (fun W : World => W.cell? ⟨z, 0, none⟩ = some (.slice a L.length c)) (first | exact BX.out _ (Kept.refl _ _) | exact BX.out _ (Kept.refl _ _).drew | exact BX.out _ K2.out | exact BX.out _ K3.out | exact BX.out _ K4.out | exact BX.out _ K5.out | exact BX.out _ K6.out | exact BX.out _ K7.out | exact BX.out _ K8.out | exact BX.out _ K9.out | exact BX.out _ K10.out) (first
    | (go_at_call 40; (first | refine (CN.out _ (Kept.refl _ _)).mono ?_ | refine (CN.out _ (Kept.refl _ _).drew).mono ?_); rintro e w2 ⟨⟨na, nc, rfl, hr⟩, hk⟩; have R2 := Lib.hid hr; have K2 := Lib.hid hk; clear hr hk)
    | (go_at_call 14; refine (CE.out _ _ _ K2.out R2.out).mono ?_; rintro e w3 ⟨rfl, hk⟩; have K3 := Lib.hid hk; clear hk)
    | (go_at_call 21; refine (CT.out _ K3.out).mono ?_; rintro e w4 ⟨rfl, hk⟩; have K4 := Lib.hid hk; clear hk)
    | (go_at_call 41; refine (CRT.out _ K4.out).mono ?_; rintro e w5 ⟨rfl, hk⟩; have K5 := Lib.hid hk; clear hk)
    | (go_at_call 30; refine (CL.out _ K5.out).mono ?_; rintro e w6 ⟨rfl, hk⟩; have K6 := Lib.hid hk; clear hk)
    | (go_at_call 18; refine (CRL.out _ K6.out).mono ?_; rintro e w7 ⟨rfl, hk⟩; have K7 := Lib.hid hk; clear hk)
    | (go_at_call 29; refine (CK.out _ K7.out).mono ?_; rintro e w8 ⟨rfl, hk⟩; have K8 := Lib.hid hk; clear hk)
    | (go_at_call 42; refine (CRK.out _ K8.out).mono ?_; rintro e w9 ⟨rfl, hk⟩; have K9 := Lib.hid hk; clear hk)
    | (go_at_call 43; refine (CS.out _ K9.out).mono ?_; rintro e w10 ⟨rfl, hk⟩; have K10 := Lib.hid hk; clear hk))
  all_goals go_wp2_with fail
  all_goals go_ret
  all_goals exact ⟨rfl, K1.out.trans K10.out fun _ _ h => h⟩
end Go.Proofs.YtlafodnaifghcaaGreat.Tr
