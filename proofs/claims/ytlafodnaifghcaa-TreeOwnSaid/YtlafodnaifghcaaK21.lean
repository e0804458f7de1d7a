/- shown, an iterator that ranges over all. Len, by a range over shown. All, by a range over shown. -/
import Derived.Test.YtlafodnaifghcaaK13
import Derived.Test.YtlafodnaifghcaaK20
namespace Go.Proofs.Ytlafodnaifghcaa.Tr
open Go.RowKit Go.Proofs.Ytlafodnaifghcaa.St Go.Shelf
attribute [local go_sem] Oper.semAt_some
def shL (L : List Nd) : List Nd := L.filter fun n => decide (n.st = 1)
def shC (L : List Nd) (i : Nat) : Nat := (shL (L.take i)).length
theorem shC_up {L : List Nd} {i : Nat} {m : Nd} (hm : L[i]? = some m) (hs : m.st = 1) : shC L (i + 1) = shC L i + 1 ∧ (shL L)[shC L i]? = some m := by
  have hi := (List.getElem?_eq_some_iff.1 hm).1
  have hmm := (List.getElem?_eq_some_iff.1 hm).2
  have h1 : shL (L.take (i + 1)) = shL (L.take i) ++ [m] := by
    unfold shL; rw [List.take_add_one, hm, List.filter_append]; simp [hs]
  refine ⟨by unfold shC; rw [h1]; simp, ?_⟩
  have h2 : L = L.take (i + 1) ++ L.drop (i + 1) := (List.take_append_drop _ _).symm
  have h3 : shL L = shL (L.take (i + 1)) ++ shL (L.drop (i + 1)) := by conv => lhs; rw [h2]
                                                                       unfold shL; rw [List.filter_append]
  rw [h3, h1]
  unfold shC
  simp
theorem shC_same {L : List Nd} {i : Nat} {m : Nd} (hm : L[i]? = some m) (hs : ¬ m.st = 1) : shC L (i + 1) = shC L i := by
  unfold shC shL; rw [List.take_add_one, hm, List.filter_append]; simp [hs]
theorem shC_le (L : List Nd) (i : Nat) : shC L i ≤ L.length := by
  unfold shC shL
  have := List.length_filter_le (fun n : Nd => decide (n.st = 1)) (L.take i)
  have := List.length_take_le' i L
  omega
theorem shC_all (L : List Nd) : shC L L.length = (shL L).length := by unfold shC; rw [List.take_length]
def shEnc (L : List Nd) (A : ID → Nat) (i : Nat) : Array Value := #[.int .i64 i, .pointer (some ⟨A (nth (shL L) i).id, 0, none⟩)]
theorem yield_any {F : Fence} (hd : F.depth = none) {m : Nat} (m' l' : Nat) {P : Program} {l : Nat} {args : Array Value} {W : World} {R : Ending → World → Prop} (h : YieldAt F m P l args W R) :
    ∃ fn tmps assign body, (Instr.yield l args).run P W = .ok (.round l fn tmps assign body) W ∧ RoundIn (F.inRound l') m' P l fn tmps assign body W R := by
  obtain ⟨fn, tmps, assign, body, hy, hR⟩ := h
  exact ⟨fn, tmps, assign, body, hy, hR.1, fun c cs _ => hR.2 c cs fun d hd' => by rw [hd] at hd'; cases hd'⟩
structure ShB (z B g yl k : Nat) (X X' : Nat → Prop) (W : World) : Prop where
  y : Blk W z 119 #[.func (.yield yl) #[] #[]]
  n : Blk W (z + 1) 3 #[.int .i64 k]
  t : Blk W (z + 1 + 1) 25 #[.pointer (some ⟨g, 0, none⟩)]
  sub : ∀ b, X b → X' b ∧ B ≤ b
  own : X' z ∧ X' (z + 1) ∧ X' (z + 1 + 1) ∧ X' B ∧ X' (B + 1)
  lt : z + 3 ≤ B
  sz : B ≤ W.heap.size
theorem ShB.keep {z B g yl k : Nat} {X X' Y Y' U : Nat → Prop} {W W' : World} (h : ShB z B g yl k X X' W) (hk : Kept U W W') (hU : ∀ b, U b → B ≤ b) (hX : ∀ b, X' b → Y' b) (hY : ∀ b, Y b → Y' b ∧ B ≤ b) : ShB z B g yl k Y Y' W' where
  y := hk.blk (fun h1 => by have := hU _ h1; have := h.lt; omega) h.y
  n := hk.blk (fun h1 => by have := hU _ h1; have := h.lt; omega) h.n
  t := hk.blk (fun h1 => by have := hU _ h1; have := h.lt; omega) h.t
  sub := hY
  own := ⟨hX _ h.own.1, hX _ h.own.2.1, hX _ h.own.2.2.1, hX _ h.own.2.2.2.1, hX _ h.own.2.2.2.2⟩
  lt := h.lt
  sz := Nat.le_trans h.sz hk.size
/-- the rounds' state: the outer one's, and the boxes -/
def shownJ (I : Nat → (Nat → Prop) → World → Prop) (z B g yl : Nat) (L : List Nd) (i : Nat) (X : Nat → Prop) (W : World) : Prop := ∃ X', I (shC L i) X' W ∧ ShB z B g yl (shC L i) X X' W
def shownX (Z : (Nat → Prop) → World → Prop) (B : Nat) (c : Code) (X : Nat → Prop) (W : World) : Prop := c = .ret ∧ ∃ X', Z X' W ∧ (∀ b, X b → X' b) ∧ X' B ∧ X' (B + 1)
set_option maxHeartbeats 8000000 in
theorem shown1_iter {L : List Nd} {A : ID → Nat} {S : ID → Rw} {mp : Option Nat} {pl g : Nat} (hdoc : Doc L) (hlen : L.length ≤ 900000) :
    IterOk Fence.wide 5 Try.prog 55 #[.pointer (some ⟨pl, 0, none⟩)] (shL L).length (shEnc L A) (fun w => w.cell? ⟨pl, 0, none⟩ = some (.pointer (some ⟨g, 0, none⟩)) ∧ TAt w g L A S mp) := by
  intro yl I Z X0 w hrd hgr hgz hy h0
  have RD := Lib.hid hrd
  have GR := Lib.hid hgr
  have GZ := Lib.hid hgz
  have HY := Lib.hid hy
  have r0 := (hrd _ _ _ h0).1
  have hpl : pl < w.heap.size := World.block_lt_of_cell? w _ r0
  clear hrd hgr hgz hy
  refine callsIn_of_wp_marks Try.func55 rfl trivial ?_ rfl
  simp only [Try.ntmps55, List.size_toArray, List.length_cons, List.length_nil, Nat.reduceAdd, Nat.reduceSub, Array.replicate_succ, Array.replicate_zero, List.push_toArray, List.append_toArray, List.nil_append, List.cons_append]
  gi_wp2_with (refine ⟨trivial, ?_⟩; gi_at_call 33; refine (callsIn_wide.2 (all_any g _)).mono ?_; rintro e w' ⟨rfl, rfl⟩)
  obtain ⟨W0, hW0⟩ : ∃ W0, (((w.alloc (.cells #[.func (.yield yl) #[] #[]] 119)).alloc (.cells #[.int .i64 0] 3)).alloc (.cells #[.pointer (some ⟨g, 0, none⟩)] 25)) = W0 := ⟨_, rfl⟩
  have z0 : W0.heap.size = w.heap.size + 3 := by rw [← hW0]; simp
  have k0 : Kept (fun _ => False) w W0 := by rw [← hW0]; exact (((Kept.refl _ _).alloc _).alloc _).alloc _
  have b0 : Blk W0 w.heap.size 119 #[.func (.yield yl) #[] #[]] := by rw [← hW0]; exact ((Blk.new _ _ _).alloc _).alloc _
  have b1 : Blk W0 (w.heap.size + 1) 3 #[.int .i64 0] := by rw [← hW0]; have h9 := Blk.new (w.alloc (.cells #[.func (.yield yl) #[] #[]] 119)) 3 #[.int .i64 0]; simp only [World.size_alloc] at h9; exact h9.alloc _
  have b2 : Blk W0 (w.heap.size + 1 + 1) 25 #[.pointer (some ⟨g, 0, none⟩)] := by rw [← hW0]; have h9 := Blk.new ((w.alloc (.cells #[.func (.yield yl) #[] #[]] 119)).alloc (.cells #[.int .i64 0] 3)) 25 #[.pointer (some ⟨g, 0, none⟩)]; simp only [World.size_alloc] at h9; exact h9
  have Z0 := Lib.hid z0
  have K0 := Lib.hid k0
  have H0 := Lib.hid h0
  have B0 := Lib.hid (And.intro b0 (And.intro b1 b2))
  rw [hW0]
  clear hW0 z0 k0 h0 b0 b1 b2 r0
  refine wpIn_iter rfl (by decide) (gf := 62) (lb := #[.pointer (some ⟨w.heap.size + 1 + 1, 0, none⟩)]) rfl trivial (enters_of Try.func62 (by kernel_rfl) rfl) (all1_iter (A := A) (S := S) (g := g) trivial rfl (by decide) hdoc hlen) (fun _ _ => rfl) W0.heap.size rfl (shownJ I w.heap.size W0.heap.size g yl L) (shownX Z W0.heap.size) ?hrd ?hgr ?hgx ?hob ?hox ?h0 ?round ?done ?stop
  case hrd => rintro i X W ⟨X', h1, h2⟩; exact ⟨h2.t.cell' rfl, (RD.out _ _ _ h1).2.shape⟩
  case hgr =>
    rintro i X W W' ⟨X', h1, h2⟩ hk
    exact ⟨_, GR.out _ _ _ _ h1 (hk.mono fun b _ h => (h2.sub b h).1), h2.keep hk (fun b hb => (h2.sub b hb).2) (fun _ h => .inl h) fun b hb => by
      rcases hb with hb | hb
      · exact ⟨.inl (h2.sub b hb).1, (h2.sub b hb).2⟩
      · exact ⟨.inr hb, by have := h2.sz; omega⟩⟩
  case hgx =>
    rintro c X W W' ⟨hc, X', h1, h2, h3, h4⟩ hk
    exact ⟨hc, _, GZ.out _ _ _ h1 (hk.mono fun b _ h => h2 b h), fun b hb => hb.imp (h2 b) id, .inl h3, .inl h4⟩
  case hob =>
    rintro i X W o' ⟨X', h1, h2⟩
    have hk := kept_put W (W0.heap.size + 1) o'
    exact ⟨_, GR.out _ _ _ _ h1 (hk.mono fun b _ h => by rw [h]; exact h2.own.2.2.2.2), h2.keep hk (fun b hb => by rw [hb]; omega) (fun _ h => .inl h) fun b hb => ⟨.inl (h2.sub b hb).1, (h2.sub b hb).2⟩⟩
  case hox =>
    rintro c X W o' ⟨hc, X', h1, h2, h3, h4⟩
    have hk := kept_put W (W0.heap.size + 1) o'
    exact ⟨hc, _, GZ.out _ _ _ h1 (hk.mono fun b _ h => by rw [h]; exact h4), fun b hb => .inl (h2 b hb), .inl h3, .inl h4⟩
  case h0 =>
    intro o1 o2
    have hz := Z0.out
    have hk : Kept X0 w ((W0.alloc o1).alloc o2) := ((K0.out.alloc _).alloc _).mono fun _ _ h => h.elim
    have hs : ((W0.alloc o1).alloc o2).heap.size = w.heap.size + 5 := by simp; omega
    refine ⟨_, GR.out _ _ _ _ H0.out hk, ?_⟩
    obtain ⟨b0, b1, b2⟩ := B0.out
    exact { y := (b0.alloc _).alloc _, n := (b1.alloc _).alloc _, t := (b2.alloc _).alloc _, sub := fun _ h => h.elim, lt := by omega, sz := by simp; omega,
            own := ⟨.inr ⟨by omega, by omega⟩, .inr ⟨by omega, by omega⟩, .inr ⟨by omega, by omega⟩, .inr ⟨by omega, by omega⟩, .inr ⟨by omega, by omega⟩⟩ }
  case round =>
    intro i W K hi hK
    have hm := nth_lt hi
    unfold allEnc
    generalize nth L i = m at hm ⊢
    gi_wp2
    rintro X W h2 ⟨X', hI, hB⟩
    have he := (RD.out _ _ _ hI).2.elt m (List.mem_of_getElem? hm)
    have e5 : W.cell? ⟨A m.id, 5, none⟩ = some (.int .i64 m.st) := he.cell' rfl
    have c0 : W.cell? ⟨w.heap.size, 0, none⟩ = some (.func (.yield yl) #[] #[]) := hB.y.cell' rfl
    have c1 : W.cell? ⟨w.heap.size + 1, 0, none⟩ = some (.int .i64 (shC L i)) := hB.n.cell' rfl
    have f1 := hB.n.frozen 0
    have H2 := Lib.hid h2
    have HI := Lib.hid hI
    have HB := Lib.hid hB
    have HM := Lib.hid hm
    clear h2 hI hB hm he
    by_cases q5 : m.st = 1
    · obtain ⟨u1, u2⟩ := shC_up HM.out q5
      have hk0 : shC L i < (shL L).length := (List.getElem?_eq_some_iff.1 u2).1
      have hyy := HY.out _ _ _ hk0 HI.out
      unfold shEnc at hyy
      rw [nth_some u2] at hyy
      have hle := shC_le L i
      have hs1 : (0 : Int) ≤ shC L i := by omega
      have hs2 : ((shC L i : Nat) : Int) ≤ 900000 := by omega
      obtain ⟨fn, tmps, assign, body, hy, hR⟩ := yield_any rfl 2 (W0.heap.size + 1) hyy
      have U1 := Lib.hid u1
      have HRR := Lib.hid hR
      clear u1 u2 hk0 hyy hle hR
      gi_wp2
      refine HRR.out.mono ?_
      rintro e w2 ⟨bb, rfl, hX2, hz2, ht, hf⟩
      have hsub : ∀ x, X x ∨ x = W0.heap.size ∨ x = W0.heap.size + 1 → w2.heap[x]? = W.heap[x]? := fun x hx => hX2 x (by
        rcases hx with hx | rfl | rfl
        · exact (HB.out.sub x hx).1
        · exact HB.out.own.2.2.2.1
        · exact HB.out.own.2.2.2.2)
      have HS := Lib.hid hsub
      have HZ2 := Lib.hid hz2
      have hBk : ∀ g' T us, X' g' → Blk W g' T us → Blk w2 g' T us := fun g' T us h1 h2 => (hX2 g' h1).trans h2
      cases bb with
      | false =>
        have ZZ := Lib.hid (hf rfl)
        clear ht hf hX2 hz2 hsub hBk e5 c0 c1 f1 hy
        gi_wp2
        exact ⟨HS.out, HZ2.out, rfl, X', ZZ.out, fun b hb => (HB.out.sub b hb).1, HB.out.own.2.2.2.1, HB.out.own.2.2.2.2⟩
      | true =>
        have II := Lib.hid (ht rfl)
        have hB2 : ShB w.heap.size W0.heap.size g yl (shC L i) X X' w2 :=
          { y := hBk _ _ _ HB.out.own.1 HB.out.y, n := hBk _ _ _ HB.out.own.2.1 HB.out.n, t := hBk _ _ _ HB.out.own.2.2.1 HB.out.t, sub := HB.out.sub, own := HB.out.own, lt := HB.out.lt, sz := Nat.le_trans HB.out.sz hz2 }
        have d1 : w2.cell? ⟨w.heap.size + 1, 0, none⟩ = some (.int .i64 (shC L i)) := hB2.n.cell' rfl
        have g1 := hB2.n.frozen 0
        have HB2 := Lib.hid hB2
        clear ht hf hX2 hz2 hsub hBk e5 c0 c1 f1 hy hB2
        gi_wp2
        have hk := kept_cell w2 (w.heap.size + 1) (.int .i64 ((shC L i : Int) + 1))
        have hlt := HB.out.lt
        refine ⟨fun x hx => ?_, Nat.le_trans HZ2.out hk.size, _, (by rw [U1.out]; exact GR.out _ _ _ _ II.out (hk.mono fun b _ h => by rw [h]; exact HB.out.own.2.1)), ?_⟩
        · have hne : x ≠ w.heap.size + 1 := by
            rcases hx with hx | hx | hx
            · have := (HB.out.sub x hx).2; omega
            · omega
            · omega
          exact (Below.heap_setCell _ _ _ _ hne).trans (HS.out x hx)
        · rw [U1.out]
          have hb := HB2.out
          exact { y := hk.blk (by omega) hb.y, n := hb.n.set_ 0 _, t := hk.blk (by omega) hb.t, sub := fun b hb' => ⟨.inl (hb.sub b hb').1, (hb.sub b hb').2⟩, lt := hb.lt, sz := Nat.le_trans hb.sz hk.size,
                  own := ⟨.inl hb.own.1, .inl hb.own.2.1, .inl hb.own.2.2.1, .inl hb.own.2.2.2.1, .inl hb.own.2.2.2.2⟩ }
    · have U1 := Lib.hid (shC_same HM.out q5)
      gi_wp2
      exact ⟨fun _ _ => rfl, Nat.le_refl _, X', by rw [U1.out]; exact HI.out, by rw [U1.out]; exact HB.out⟩
  case done =>
    rintro X W ⟨X', h1, h2⟩ hK
    rw [shC_all] at h1
    have H1 := Lib.hid h1
    have H2 := Lib.hid h2
    have HK := Lib.hid hK
    clear h1 h2 hK
    gi_wp2
    exact ret_range HK.out (results_none rfl _ _ _) ⟨⟨_, rfl⟩, .inl ⟨_, GR.out _ _ _ _ H1.out ((kept_put W W0.heap.size (.deferred none)).mono fun b _ h => by rw [h]; exact H2.out.own.2.2.2.1)⟩⟩
  case stop =>
    rintro c X W ⟨rfl, X', h1, h2, h3, h4⟩ hK
    have H1 := Lib.hid h1
    have HK := Lib.hid hK
    clear h1 h2 hK
    gi_wp2
    exact ret_range HK.out (results_none rfl _ _ _) ⟨⟨_, rfl⟩, .inr ⟨_, GZ.out _ _ _ H1.out ((kept_put W W0.heap.size (.deferred none)).mono fun b _ h => by rw [h]; exact h3)⟩⟩
end Go.Proofs.Ytlafodnaifghcaa.Tr
namespace Go.Proofs.Ytlafodnaifghcaa.Tr
open Go.RowKit Go.Proofs.Ytlafodnaifghcaa.St Go.Shelf
attribute [local go_sem] Oper.semAt_some
theorem shown_any (g : Nat) (w : World) : Calls Try.prog 31 #[.pointer (some ⟨g, 0, none⟩)] w fun e w' =>
    e = .returned (.func (.func 55) #[] #[.pointer (some ⟨w.heap.size, 0, none⟩)]) ∧ w' = w.alloc (.cells #[.pointer (some ⟨g, 0, none⟩)] 25) := by
  go_enter Try.func31, Try.ntmps31
  go_wp2
  go_ret
  exact ⟨rfl, rfl⟩
theorem shL_le (L : List Nd) : (shL L).length ≤ L.length := List.length_filter_le _ _
def lenB (z g : Nat) (k : Int) : List Box := [(z, 3, #[.int .i64 k]), (z + 1, 25, #[.pointer (some ⟨g, 0, none⟩)])]
theorem lenB_nodup (z g : Nat) (k : Int) : ((lenB z g k).map (·.1)).Nodup := by simp [lenB]
def lenJ (w : World) (B g : Nat) (L : List Nd) (A : ID → Nat) (S : ID → Rw) (mp : Option Nat) (i : Nat) (X : Nat → Prop) (W : World) : Prop := CJ w B (fun _ => False) (lenB w.heap.size g i) g L A S mp X W
set_option maxHeartbeats 8000000 in
theorem len_any {w : World} {g : Nat} {L : List Nd} {A : ID → Nat} {S : ID → Rw} {mp : Option Nat} (h : TAt w g L A S mp) (hdoc : Doc L) (hlen : L.length ≤ 900000) :
    Calls Try.prog 18 #[.pointer (some ⟨g, 0, none⟩)] w fun e w' => e = .returned (.int .i64 (shL L).length) ∧ Kept (fun _ => False) w w' := by
  refine (callsIn_wide (n := 6)).1 ?_
  refine callsIn_of_wp_marks Try.func18 rfl trivial ?_ rfl
  simp only [Try.ntmps18, List.size_toArray, List.length_cons, List.length_nil, Nat.reduceAdd, Nat.reduceSub, Array.replicate_succ, Array.replicate_zero, List.push_toArray, List.append_toArray, List.nil_append, List.cons_append]
  gi_wp2_with (refine ⟨trivial, ?_⟩; gi_at_call 31; refine (callsIn_wide.2 (shown_any g _)).mono ?_; rintro e w' ⟨rfl, rfl⟩)
  obtain ⟨W0, hW0⟩ : ∃ W0, ((w.alloc (.cells #[.int .i64 0] 3)).alloc (.cells #[.pointer (some ⟨g, 0, none⟩)] 25)) = W0 := ⟨_, rfl⟩
  have hC : CJ w W0.heap.size (fun _ => False) (lenB w.heap.size g 0) g L A S mp (fun _ => False) W0 := by
    rw [← hW0]
    have h9 := ((CJ.start (M := fun _ => False) h).boxed #[.int .i64 0] 3).boxed #[.pointer (some ⟨g, 0, none⟩)] 25
    simp only [World.size_alloc] at h9 ⊢
    exact h9
  rw [hW0]
  clear hW0
  refine wpIn_iter rfl (by decide) (gf := 55) (lb := #[.pointer (some ⟨w.heap.size + 1, 0, none⟩)]) rfl trivial (enters_of Try.func55 (by kernel_rfl) rfl) (shown1_iter (A := A) (S := S) (g := g) (mp := mp) hdoc hlen) (fun _ _ => rfl) W0.heap.size rfl (lenJ w W0.heap.size g L A S mp) (fun _ _ _ => False) ?hrd ?hgr ?hgx ?hob ?hox ?h0 ?round ?done ?stop
  case hrd => intro i X W hJ; exact ⟨hJ.cell 1 rfl 0 rfl, hJ.tree⟩
  case hgr => intro i X W W' hJ hk; exact CJ.grow hJ hk
  case hgx => intro c X W W' h _; exact h
  case hob => intro i X W o' hJ; exact CJ.put hJ (Nat.le_succ _) o'
  case hox => intro c X W o' h; exact h
  case h0 => intro o1 o2; exact (hC.alloc o1).alloc o2
  case round =>
    intro i W K hi hK
    have hle := shL_le L
    have hs2 : (i : Int) ≤ 900000 := by omega
    unfold shEnc
    generalize nth (shL L) i = m
    clear hle
    gi_wp2
    rintro X W h2 hJ
    have hJ : CJ w W0.heap.size (fun _ => False) (lenB w.heap.size g i) g L A S mp X W := hJ
    have HJ := Lib.hid hJ
    have H2 := Lib.hid h2
    have c0 : W.cell? ⟨w.heap.size, 0, none⟩ = some (.int .i64 i) := hJ.cell 0 rfl 0 rfl
    have f0 := hJ.frozen 0 rfl 0
    clear hJ h2
    gi_wp2
    have ho := HJ.out.off H2.out (Y := (· = w.heap.size)) (kept_cell W w.heap.size (.int .i64 ((i : Int) + 1))) (fun b hb => by rw [hb]; exact (HJ.out.box _ (.head _)).1.2)
    refine ⟨ho.1, ho.2, ?_⟩
    show CJ _ _ _ (lenB w.heap.size g ((i + 1 : Nat) : Int)) _ _ _ _ _ _ _
    rw [show ((i + 1 : Nat) : Int) = (i : Int) + 1 by omega]
    exact HJ.out.set 0 (.int .i64 ((i : Int) + 1)) rfl (lenB_nodup ..)
  case done =>
    rintro X W hJ hK
    have hJ : CJ w W0.heap.size (fun _ => False) (lenB w.heap.size g (shL L).length) g L A S mp X W := hJ
    have HJ := Lib.hid hJ
    have HK := Lib.hid hK
    have c0 : W.cell? ⟨w.heap.size, 0, none⟩ = some (.int .i64 (shL L).length) := hJ.cell 0 rfl 0 rfl
    clear hJ hK
    gi_wp2
    exact ret_range HK.out (results_tmp rfl _ _ _) ⟨rfl, (HJ.out.taken (.deferred none)).kept⟩
  case stop =>
    rintro c X W h _
    exact h.elim
end Go.Proofs.Ytlafodnaifghcaa.Tr
namespace Go.Proofs.Ytlafodnaifghcaa.Tr
open Go.RowKit Go.Proofs.Ytlafodnaifghcaa.St Go.Shelf
attribute [local go_sem] Oper.semAt_some
def allJ (w : World) (B g : Nat) (L : List Nd) (A : ID → Nat) (S : ID → Rw) (mp : Option Nat) (i : Nat) (X : Nat → Prop) (W : World) : Prop :=
  Gro nodeE 59 w B (fun _ => False) (nodesB w.heap.size g) g L A S mp ((shL L).take i) X W
set_option maxRecDepth 100000 in
set_option maxHeartbeats 8000000 in
theorem allf_any {w : World} {g : Nat} {L : List Nd} {A : ID → Nat} {S : ID → Rw} {mp : Option Nat} (h : TAt w g L A S mp) (hdoc : Doc L) (hlen : L.length ≤ 900000) :
    Calls Try.prog 44 #[.pointer (some ⟨g, 0, none⟩)] w fun e w' => (∃ b v, e = .returned (.func (.func 70) #[] #[.pointer (some ⟨b, 0, none⟩)]) ∧ w.heap.size ≤ b ∧ Blk w' b 42 #[v] ∧ w'.ownsRow w.heap.size 59 6 v (shL L).length (nodeE.flat (shL L))) ∧ Kept (fun _ => False) w w' := by
  refine (callsIn_wide (n := 6)).1 ?_
  refine callsIn_of_wp_marks Try.func44 rfl trivial ?_ rfl
  simp only [Try.ntmps44, List.size_toArray, List.length_cons, List.length_nil, Nat.reduceAdd, Nat.reduceSub, Array.replicate_succ, Array.replicate_zero, List.push_toArray, List.append_toArray, List.nil_append, List.cons_append]
  gi_wp2_with (refine ⟨trivial, ?_⟩; gi_at_call 31; refine (callsIn_wide.2 (shown_any g _)).mono ?_; rintro e w' ⟨rfl, rfl⟩)
  obtain ⟨W0, hW0⟩ : ∃ W0, ((w.alloc (.cells #[.slice none 0 0] 42)).alloc (.cells #[.pointer (some ⟨g, 0, none⟩)] 25)) = W0 := ⟨_, rfl⟩
  have hC : CJ w W0.heap.size (fun _ => False) (nodesB w.heap.size g (.slice none 0 0)) g L A S mp (fun _ => False) W0 := by
    rw [← hW0]
    have h9 := (((CJ.start (M := fun _ => False) h).boxed #[.slice none 0 0] 42)).boxed #[.pointer (some ⟨g, 0, none⟩)] 25
    simp only [World.size_alloc] at h9 ⊢
    exact h9
  rw [hW0]
  clear hW0
  refine wpIn_iter rfl (by decide) (gf := 55) (lb := #[.pointer (some ⟨w.heap.size + 1, 0, none⟩)]) rfl trivial (enters_of Try.func55 (by kernel_rfl) rfl) (shown1_iter (A := A) (S := S) (g := g) (mp := mp) hdoc hlen) (fun _ _ => rfl) W0.heap.size rfl (allJ w W0.heap.size g L A S mp) (fun _ _ _ => False) ?hrd ?hgr ?hgx ?hob ?hox ?h0 ?round ?done ?stop
  case hrd => rintro i X W ⟨v, hJ, _⟩; exact ⟨hJ.cell 1 rfl 0 rfl, hJ.tree⟩
  case hgr => intro i X W W' hJ hk; exact Gro.grow hJ hk
  case hgx => intro c X W W' h _; exact h
  case hob => intro i X W o' hJ; exact Gro.put hJ o'
  case hox => intro c X W o' hJ; exact hJ
  case h0 =>
    intro o1 o2
    have h9 : Gro nodeE 59 w W0.heap.size (fun _ => False) (nodesB w.heap.size g) g L A S mp [] (fun _ => False) W0 := ⟨_, hC, World.ownsRow_nil .., fun b hb => by cases hb⟩
    exact (h9.alloc o1).alloc o2
  case round =>
    intro i W K hi hK
    have hm := nth_lt hi
    unfold shEnc
    generalize nth (shL L) i = m at hm ⊢
    gi_wp2
    rintro X W h2 ⟨v, hJ, hO, hX⟩
    have hmL : m ∈ L := (List.mem_filter.1 (List.mem_of_getElem? hm)).1
    have he := hJ.tree.elt m hmL
    have e0 : W.cell? ⟨A m.id, 0, none⟩ = some (.int .i64 m.id.t) := he.cell' rfl
    have e1 : W.cell? ⟨A m.id, 1, none⟩ = some (.int .i64 m.id.s) := he.cell' rfl
    have e2 : W.cell? ⟨A m.id, 2, none⟩ = some (.int .i64 m.ref.t) := he.cell' rfl
    have e3 : W.cell? ⟨A m.id, 3, none⟩ = some (.int .i64 m.ref.s) := he.cell' rfl
    have e4 : W.cell? ⟨A m.id, 4, none⟩ = some (.int .i32 m.rune) := he.cell' rfl
    have e5 : W.cell? ⟨A m.id, 5, none⟩ = some (.int .i64 m.st) := he.cell' rfl
    obtain ⟨va, vc, rfl⟩ := owns_sl hO
    have f0 := hJ.frozen 0 rfl 0
    have hlen2 : ((shL L).take i).length ≤ 1000000 := by have := List.length_take_le i (shL L); have := shL_le L; omega
    have hli : ((shL L).take i).length = i := by rw [List.length_take]; omega
    have n1 : ¬ A m.id = w.heap.size := by have := hJ.low (A m.id) (.inr (.inr (.inl ⟨m.id, List.mem_map.2 ⟨m, hmL, rfl⟩, rfl⟩))); omega
    have hzl : w.heap.size < W.heap.size := (hJ.at_ 0 rfl).lt
    have hlit : SlAt nodeE (W.drew.alloc (.cells #[.int .i64 m.id.t, .int .i64 m.id.s, .int .i64 m.ref.t, .int .i64 m.ref.s, .int .i32 m.rune, .int .i64 m.st] 59)) (.slice (some ⟨W.heap.size, 0, none⟩) 1 1) [m] := SlAt.lit [m] _ (by simp [Enc.flat, nodeE, ndC]) (by unfold maxLen; simp)
    have hk1 : Kept (fun _ => False) W (W.drew.alloc (.cells #[.int .i64 m.id.t, .int .i64 m.id.s, .int .i64 m.ref.t, .int .i64 m.ref.s, .int .i32 m.rune, .int .i64 m.st] 59)) := ((Kept.refl _ _).drew).alloc _
    have hown := owns_keep hO hk1 (fun _ _ h => h)
    rw [show Value.slice va ((shL L).take i).length vc = .slice va i vc by rw [hli]] at hown hO hJ hX
    have HOWN := Lib.hid hown
    have HK1 := Lib.hid hk1
    have HB := Lib.hid (show W0.heap.size + 2 ≤ (W.drew.alloc (.cells #[.int .i64 m.id.t, .int .i64 m.id.s, .int .i64 m.ref.t, .int .i64 m.ref.s, .int .i32 m.rune, .int .i64 m.st] 59)).heap.size by simp; omega)
    clear hown hk1
    have c0 : W.cell? ⟨w.heap.size, 0, none⟩ = some (.slice va i vc) := hJ.cell 0 rfl 0 rfl
    have HJ := Lib.hid hJ
    have HO := Lib.hid hO
    have HX := Lib.hid hX
    have H2 := Lib.hid h2
    have HM := Lib.hid hm
    have HLIT := Lib.hid hlit
    have HL2 := Lib.hid hlen2
    have HLI := Lib.hid hli
    clear hJ hO hX h2 hm hlit hlen2 hli he hmL
    gi_wp2
    refine region_any (GroR nodeE 59 w W0.heap.size (fun _ => False) (nodesB w.heap.size g) g L A S mp ((shL L).take i ++ [m]) X W) ?_ ?_
    focus
      gi_region_with ((refine step_append_in (w := W.drew.alloc (.cells #[.int .i64 m.id.t, .int .i64 m.id.s, .int .i64 m.ref.t, .int .i64 m.ref.s, .int .i32 m.rune, .int .i64 m.st] 59)) nodeE (.tmp 10) (.tmp 15) 42 rfl (W0.heap.size + 2) 59 (.agg #[.int .i64 0, .int .i64 0, .int .i64 0, .int .i64 0, .int .i32 0, .int .i64 0]) 48 Try.underlying42 info_node rfl (by decide) rfl rfl (by go_simp) HOWN.out HLIT.out HL2.out HB.out ?_; rintro v2 w2 ho2 hg2; have hJ2 := Gro.after HJ.out HO.out HK1.out hg2; rw [HLI.out] at ho2; obtain ⟨va2, vc2, rfl⟩ := owns_sl ho2; have d0 : w2.cell? ⟨w.heap.size, 0, none⟩ = some (.slice va i vc) := hJ2.cell 0 rfl 0 rfl; have g0 := hJ2.frozen 0 rfl 0; clear hJ2))
      all_goals exact ⟨rfl, Gro.appended HJ.out HO.out HX.out H2.out HK1.out hg2 (by rw [HLI.out]) ho2 0 rfl (nodesB_nodup ..) rfl⟩
    rintro a' W' ⟨ho, hG⟩
    gi_wp2
    refine ⟨ho.1, ho.2, ?_⟩
    show Gro _ _ _ _ _ _ _ _ _ _ _ _ _ _
    rw [List.take_add_one, HM.out]
    exact hG
  case done =>
    rintro X W hJ0 hK
    obtain ⟨v, hJ, hO, hX⟩ := hJ0
    rw [List.take_length] at hO
    have HJ := Lib.hid hJ
    have HO := Lib.hid hO
    have HK := Lib.hid hK
    clear hJ hO hX hK
    gi_wp2
    have hC2 := HJ.out.taken (.deferred none)
    have hO3 := owns_keep HO.out (kept_put W W0.heap.size (.deferred none)) fun b hb e => by have := (owns_lt HO.out b hb).1; omega
    have hs0 := HJ.out.size.1
    refine ret_range HK.out (results_tmp rfl _ _ _) ⟨⟨w.heap.size, rfl, Nat.le_refl _, v, hC2.at_ 0 rfl, hO3.1, ?_⟩, hC2.kept⟩
    rcases hO3.2 with h5 | ⟨g', cap, cur, e1, e2, e3⟩
    · exact .inl h5
    · exact .inr ⟨g', cap, cur, e1, by omega, e3⟩
  case stop =>
    rintro c X W h _
    exact h.elim
end Go.Proofs.Ytlafodnaifghcaa.Tr
