/- Span, by a range over shown. Span, by a range over shown: what may be asked for. -/
import Derived.Test.YtlafodnaifghcaaK21
import Derived.Test.YtlafodnaifghcaaK20
import Derived.Test.YtlafodnaifghcaaK30
import Derived.Sort.QuietTacIn
import Derived.IntWalk
namespace Go.Proofs.Ytlafodnaifghcaa.Tr
open Go.RowKit Go.Proofs.Ytlafodnaifghcaa.St Go.Shelf
attribute [local go_sem] Oper.semAt_some
/-- may so many be asked for -/
def spanOk (L : List Nd) (i n : Int) : Prop := 0 ≤ i ∧ 0 ≤ n ∧ i ≤ (shL L).length ∧ n ≤ (shL L).length - i
/-- the identifiers of n shown ones from i on -/
def spanL (L : List Nd) (i n : Int) (k : Nat) : List ID := (ids ((shL L).take k)).drop i.toNat |>.take n.toNat
theorem spanL_up {L : List Nd} {i n : Int} (h : spanOk L i n) {k : Nat} {m : Nd} (hm : (shL L)[k]? = some m) (h1 : i ≤ k) (h2 : (k : Int) < i + n) : spanL L i n (k + 1) = spanL L i n k ++ [m.id] ∧ (spanL L i n k).length = k - i.toNat := by
  have hk := (List.getElem?_eq_some_iff.1 hm).1
  obtain ⟨h3, h4, h5, h6⟩ := h
  have hl : (ids ((shL L).take k)).length = k := by simp [ids]; omega
  have e1 : spanL L i n k = (ids ((shL L).take k)).drop i.toNat := by
    unfold spanL; exact List.take_of_length_le (by rw [List.length_drop, hl]; omega)
  have e2 : spanL L i n (k + 1) = (ids ((shL L).take (k + 1))).drop i.toNat := by
    unfold spanL; exact List.take_of_length_le (by rw [List.length_drop]; simp [ids]; omega)
  refine ⟨?_, by rw [e1, List.length_drop, hl]⟩
  rw [e1, e2, List.take_add_one, hm]
  show List.drop i.toNat (ids (List.take k (shL L) ++ [m])) = _
  rw [ids_append, List.drop_append_of_le_length (by rw [hl]; omega)]
  rfl
theorem spanL_low {L : List Nd} {i n : Int} {k : Nat} (h1 : (k : Int) < i) : spanL L i n (k + 1) = spanL L i n k := by
  have e : ∀ j : Nat, (j : Int) ≤ i → spanL L i n j = [] := fun j hj => by
    unfold spanL
    rw [List.drop_eq_nil_of_le (by simp [ids]; omega), List.take_nil]
  rw [e k (by omega), e (k + 1) (by omega)]
theorem spanL_high {L : List Nd} {i n : Int} {k : Nat} (h0 : 0 ≤ i ∧ 0 ≤ n) (h1 : i + n ≤ (k : Int)) (hk : k < (shL L).length) : spanL L i n (k + 1) = spanL L i n k := by
  unfold spanL
  rw [List.take_add_one, List.getElem?_eq_getElem hk]
  show List.take n.toNat (List.drop i.toNat (ids (List.take k (shL L) ++ [_]))) = _
  have hl : (ids ((shL L).take k)).length = k := by simp [ids]; omega
  rw [ids_append, List.drop_append_of_le_length (by omega), List.take_append_of_le_length (by rw [List.length_drop, hl]; omega)]
/-- ahead of the rounds: the two boxes -/
structure SpanW (w : World) (g : Nat) (ix n : Int) (L : List Nd) (A : ID → Nat) (S : ID → Rw) (mp : Option Nat) (W : World) : Prop where
  cj : CJ w (w.heap.size + 2) (fun _ => False) [(w.heap.size, 3, #[.int .i64 ix]), (w.heap.size + 1, 3, #[.int .i64 n])] g L A S mp (fun _ => False) W
variable {w W : World} {g : Nat} {ix n : Int} {L : List Nd} {A : ID → Nat} {S : ID → Rw} {mp : Option Nat}
theorem SpanW.c0 (h : SpanW w g ix n L A S mp W) : W.cell? ⟨w.heap.size, 0, none⟩ = some (.int .i64 ix) := h.cj.cell 0 rfl 0 rfl
theorem SpanW.c1 (h : SpanW w g ix n L A S mp W) : W.cell? ⟨w.heap.size + 1, 0, none⟩ = some (.int .i64 n) := h.cj.cell 1 rfl 0 rfl
theorem SpanW.drew (h : SpanW w g ix n L A S mp W) : SpanW w g ix n L A S mp W.drew := ⟨h.cj.drew⟩
theorem span_len (_h : TAt w g L A S mp) (hdoc : Doc L) (hlen : L.length ≤ 900000) : ∀ W, SpanW w g ix n L A S mp W → Calls Try.prog 18 #[.pointer (some ⟨g, 0, none⟩)] W fun e w' => e = .returned (.int .i64 (shL L).length) ∧ SpanW w g ix n L A S mp w' := fun _ hW =>
  (len_any hW.cj.tree hdoc hlen).mono fun _ _ ⟨h1, h2⟩ => ⟨h1, ⟨hW.cj.step h2 fun _ h => h.elim⟩⟩
theorem span_start (h : TAt w g L A S mp) : SpanW w g ix n L A S mp ((w.alloc (.cells #[.int .i64 ix] 3)).alloc (.cells #[.int .i64 n] 3)) := by
  have h9 := ((CJ.start (M := fun _ => False) h).boxed #[.int .i64 ix] 3).boxed #[.int .i64 n] 3
  simp only [World.size_alloc] at h9
  exact ⟨h9⟩
set_option maxRecDepth 100000 in
set_option maxHeartbeats 8000000 in
theorem span_no (h : TAt w g L A S mp) (hdoc : Doc L) (hlen : L.length ≤ 900000) (hx : I64 ix ∧ I64 n) (hno : ¬ spanOk L ix n) :
    Calls Try.prog 11 #[.pointer (some ⟨g, 0, none⟩), .int .i64 ix, .int .i64 n] w fun e w' => e = .returned (.tuple #[.slice none 0 0, .int .i64 3]) ∧ Kept (fun _ => False) w w' := by
  refine (callsIn_wide (n := 6)).1 ?_
  unfold I64 at hx
  have hl2 := shL_le L
  have hln := span_len (ix := ix) (n := n) h hdoc hlen
  unfold spanOk at hno
  have HP0 := Lib.hid (span_start (ix := ix) (n := n) h).drew
  clear h hdoc
  obtain ⟨sl, hsl⟩ : ∃ sl : Int, ((shL L).length : Int) = sl := ⟨_, rfl⟩
  rw [hsl] at hln hno
  have hb1 : 0 ≤ sl := by omega
  have hb2 : sl ≤ 900000 := by omega
  have LN := Lib.hid hln
  have c0 := HP0.out.c0
  have c1 := HP0.out.c1
  clear hsl hl2 hlen hln
  refine callsIn_of_wp_marks Try.func11 rfl trivial ?_ rfl
  simp only [Try.ntmps11, List.size_toArray, List.length_cons, List.length_nil, Nat.reduceAdd, Nat.reduceSub, Array.replicate_succ, Array.replicate_zero, List.push_toArray, List.append_toArray, List.nil_append, List.cons_append]
  by_cases a1 : ix < 0
  · clear hno
    gi_wp2
    refine wpIn_region_quiet (C := SpanW w g ix n L A S mp) rfl (by kernel_rfl) (by kernel_rfl) HP0.out ?_
    simp only
    repeat
      refine wpQuietIn_step (fun _ _ _ _ => trivial) (fun K hK => ?_)
      go_simp
      first
        | (refine hK _ ?_; clear hK K)
        | (apply Exists.intro
           refine ⟨fun W hW => ?_, hK _ ?_⟩
           focus
             have d0 := hW.c0
             have d1 := hW.c1
             go_simp
             all_goals (first | exact rfl | exact ⟨rfl, rfl⟩ | exact callsIn_wide.2 (LN.out _ hW))
           clear hK K)
    refine wpQuietIn_nil ?_
    intro W' hW'
    clear c0 c1
    gi_wp2
    exact ⟨_, results_tmp2 rfl _ _ _, rfl, hW'.cj.kept⟩
  · by_cases a2 : n < 0
    · clear hno
      gi_wp2
      refine wpIn_region_quiet (C := SpanW w g ix n L A S mp) rfl (by kernel_rfl) (by kernel_rfl) HP0.out ?_
      simp only
      repeat
        refine wpQuietIn_step (fun _ _ _ _ => trivial) (fun K hK => ?_)
        go_simp
        first
          | (refine hK _ ?_; clear hK K)
          | (apply Exists.intro
             refine ⟨fun W hW => ?_, hK _ ?_⟩
             focus
               have d0 := hW.c0
               have d1 := hW.c1
               go_simp
               all_goals (first | exact rfl | exact ⟨rfl, rfl⟩ | exact callsIn_wide.2 (LN.out _ hW))
             clear hK K)
      refine wpQuietIn_nil ?_
      intro W' hW'
      clear c0 c1
      gi_wp2
      exact ⟨_, results_tmp2 rfl _ _ _, rfl, hW'.cj.kept⟩
    · by_cases a3 : sl < ix
      · clear hno
        gi_wp2
        refine wpIn_region_quiet (C := SpanW w g ix n L A S mp) rfl (by kernel_rfl) (by kernel_rfl) HP0.out ?_
        simp only
        repeat
          refine wpQuietIn_step (fun _ _ _ _ => trivial) (fun K hK => ?_)
          go_simp
          first
            | (refine hK _ ?_; clear hK K)
            | (apply Exists.intro
               refine ⟨fun W hW => ?_, hK _ ?_⟩
               focus
                 have d0 := hW.c0
                 have d1 := hW.c1
                 go_simp
                 all_goals (first | exact rfl | exact ⟨rfl, rfl⟩ | exact callsIn_wide.2 (LN.out _ hW))
               clear hK K)
        refine wpQuietIn_nil ?_
        intro W' hW'
        clear c0 c1
        gi_wp2
        exact ⟨_, results_tmp2 rfl _ _ _, rfl, hW'.cj.kept⟩
      · have a4 : sl - ix < n := by omega
        have b1 : decide (ix < 0) = false := decide_eq_false a1
        have b2 : decide (n < 0) = false := decide_eq_false a2
        have b3 : decide (sl < ix) = false := decide_eq_false a3
        have b5 : IntKind.i64.wrap (sl - ix) = sl - ix := IntWalk.i64_in _ (by omega)
        have b4 : decide (IntKind.i64.wrap (sl - ix) < n) = true := by rw [b5]; exact decide_eq_true a4
        clear hno b5 a1 a2 a3 a4
        gi_wp2
        refine wpIn_region_quiet (C := SpanW w g ix n L A S mp) rfl (by kernel_rfl) (by kernel_rfl) HP0.out ?_
        simp only
        repeat
          refine wpQuietIn_step (fun _ _ _ _ => trivial) (fun K hK => ?_)
          go_simp
          first
            | (refine hK _ ?_; clear hK K)
            | (apply Exists.intro
               refine ⟨fun W hW => ?_, hK _ ?_⟩
               focus
                 have d0 := hW.c0
                 have d1 := hW.c1
                 go_simp
                 all_goals (first | exact rfl | exact ⟨rfl, rfl⟩ | exact callsIn_wide.2 (LN.out _ hW))
               clear hK K)
        refine wpQuietIn_nil ?_
        intro W' hW'
        clear c0 c1
        gi_wp2
        exact ⟨_, results_tmp2 rfl _ _ _, rfl, hW'.cj.kept⟩
end Go.Proofs.Ytlafodnaifghcaa.Tr
namespace Go.Proofs.Ytlafodnaifghcaa.Tr
open Go.RowKit Go.Proofs.Ytlafodnaifghcaa.St Go.Shelf
attribute [local go_sem] Oper.semAt_some
def spanB (z y g : Nat) (i n : Int) (v : Value) : List Box :=
  [(z, 3, #[.int .i64 i]), (z + 1, 3, #[.int .i64 n]), (y, 79, #[v]), (y + 1, 25, #[.pointer (some ⟨g, 0, none⟩)])]
theorem spanB_nodup {z y : Nat} (hy : z + 2 ≤ y) (g : Nat) (i n : Int) (v : Value) : ((spanB z y g i n v).map (·.1)).Nodup := by
  simp [spanB]
  omega
theorem CJ.raise {w W : World} {B : Nat} {M : Nat → Prop} {bs : List Box} {g : Nat} {L : List Nd} {A : ID → Nat} {S : ID → Rw} {mp : Option Nat} (h : CJ w B M bs g L A S mp (fun _ => False) W) : CJ w W.heap.size M bs g L A S mp (fun _ => False) W :=
  { box := fun x hx => ⟨⟨(h.box x hx).1.1, Nat.lt_of_lt_of_le (h.box x hx).1.2 h.size.2⟩, (h.box x hx).2⟩
    tree := h.tree, low := h.low, far := fun _ h => h.elim, size := ⟨Nat.le_trans h.size.1 h.size.2, Nat.le_refl _⟩, kept := h.kept }
def spanJ (w : World) (y B g : Nat) (ix n : Int) (L : List Nd) (A : ID → Nat) (S : ID → Rw) (mp : Option Nat) (i : Nat) (X : Nat → Prop) (W : World) : Prop :=
  Gro idE 27 w B (fun _ => False) (spanB w.heap.size y g ix n) g L A S mp (spanL L ix n i) X W
variable {w W : World} {g : Nat} {ix n : Int} {L : List Nd} {A : ID → Nat} {S : ID → Rw} {mp : Option Nat}
set_option maxRecDepth 100000 in
set_option maxHeartbeats 8000000 in
theorem span_ok (h : TAt w g L A S mp) (hdoc : Doc L) (hlen : L.length ≤ 900000) (hok : spanOk L ix n) :
    Calls Try.prog 11 #[.pointer (some ⟨g, 0, none⟩), .int .i64 ix, .int .i64 n] w fun e w' => (∃ v T, e = .returned (.tuple #[v, .int .i64 0]) ∧ SetOf (spanL L ix n (shL L).length) T ∧ w'.ownsRow w.heap.size 61 3 v (packL T).length (runE.flat (packL T))) ∧ Kept (fun _ => False) w w' := by
  refine (callsIn_wide (n := 6)).1 ?_
  have hl2 := shL_le L
  have hln := span_len (ix := ix) (n := n) h hdoc hlen
  have OK := Lib.hid hok
  have HL := Lib.hid hlen
  have HD := Lib.hid hdoc
  unfold spanOk at hok
  have HP0 := Lib.hid (span_start (ix := ix) (n := n) h).drew
  clear h hdoc
  obtain ⟨sl, hsl⟩ : ∃ sl : Int, ((shL L).length : Int) = sl := ⟨_, rfl⟩
  rw [hsl] at hln hok
  have hb1 : 0 ≤ sl := by omega
  have hb2 : sl ≤ 900000 := by omega
  have LN := Lib.hid hln
  have SL := Lib.hid hsl
  have c0 := HP0.out.c0
  have c1 := HP0.out.c1
  obtain ⟨o1, o2, o3, o4⟩ := hok
  have b1 : decide (ix < 0) = false := decide_eq_false (by omega)
  have b2 : decide (n < 0) = false := decide_eq_false (by omega)
  have b3 : decide (sl < ix) = false := decide_eq_false (by omega)
  have b5 : IntKind.i64.wrap (sl - ix) = sl - ix := IntWalk.i64_in _ (by omega)
  have b4 : decide (IntKind.i64.wrap (sl - ix) < n) = false := by rw [b5]; exact decide_eq_false (by omega)
  have O := Lib.hid (And.intro o1 (And.intro o2 (And.intro o3 o4)))
  clear hsl hl2 hlen hln b5 o1 o2 o3 o4
  refine callsIn_of_wp_marks Try.func11 rfl trivial ?_ rfl
  simp only [Try.ntmps11, List.size_toArray, List.length_cons, List.length_nil, Nat.reduceAdd, Nat.reduceSub, Array.replicate_succ, Array.replicate_zero, List.push_toArray, List.append_toArray, List.nil_append, List.cons_append]
  gi_wp2
  refine wpIn_region_quiet (C := SpanW w g ix n L A S mp) rfl (by kernel_rfl) (by kernel_rfl) HP0.out ?_
  simp only
  repeat
    refine wpQuietIn_step (fun _ _ _ _ => trivial) (fun K hK => ?_)
    go_simp
    first
      | (refine hK _ ?_; clear hK K)
      | (apply Exists.intro
         refine ⟨fun W hW => ?_, hK _ ?_⟩
         focus
           have d0 := hW.c0
           have d1 := hW.c1
           go_simp
           all_goals (first | exact rfl | exact ⟨rfl, rfl⟩ | exact callsIn_wide.2 (LN.out _ hW))
         clear hK K)
  refine wpQuietIn_nil ?_
  intro W1 hW1
  clear c0 c1
  have HW1 := Lib.hid hW1
  clear hW1
  gi_wp2_with (refine ⟨trivial, ?_⟩; gi_at_call 31; refine (callsIn_wide.2 (shown_any g _)).mono ?_; rintro e w' ⟨rfl, rfl⟩)
  have hy0 : w.heap.size + 2 ≤ W1.heap.size := HW1.out.cj.size.2
  have hcj := HW1.out.cj
  obtain ⟨y, hy⟩ : ∃ y, W1.heap.size = y := ⟨_, rfl⟩
  obtain ⟨W0, hW0⟩ : ∃ W0, ((W1.alloc (.cells #[.slice none 0 0] 79)).alloc (.cells #[.pointer (some ⟨g, 0, none⟩)] 25)) = W0 := ⟨_, rfl⟩
  have hC : CJ w W0.heap.size (fun _ => False) (spanB w.heap.size y g ix n (.slice none 0 0)) g L A S mp (fun _ => False) W0 := by
    rw [← hW0, ← hy]
    have h9 := (hcj.raise.boxed #[.slice none 0 0] 79).boxed #[.pointer (some ⟨g, 0, none⟩)] 25
    simp only [World.size_alloc] at h9 ⊢
    exact h9
  rw [hW0, hy]
  rw [hy] at hy0
  have HY0 := Lib.hid hy0
  clear hW0 hcj hy hy0
  refine wpIn_iter rfl (by decide) (gf := 55) (lb := #[.pointer (some ⟨y + 1, 0, none⟩)]) rfl trivial (enters_of Try.func55 (by kernel_rfl) rfl) (shown1_iter (A := A) (S := S) (g := g) (mp := mp) HD.out HL.out) (fun _ _ => rfl) W0.heap.size rfl (spanJ w y W0.heap.size g ix n L A S mp) (fun _ _ _ => False) ?hrd ?hgr ?hgx ?hob ?hox ?h0 ?round ?done ?stop
  case hrd => rintro i X W ⟨v, hJ, _⟩; exact ⟨hJ.cell 3 rfl 0 rfl, hJ.tree⟩
  case hgr => intro i X W W' hJ hk; exact Gro.grow hJ hk
  case hgx => intro c X W W' h _; exact h
  case hob => intro i X W o' hJ; exact Gro.put hJ o'
  case hox => intro c X W o' hJ; exact hJ
  case h0 =>
    intro o1 o2
    have h8 : spanL L ix n 0 = [] := by unfold spanL; simp [ids]
    have h9 : Gro idE 27 w W0.heap.size (fun _ => False) (spanB w.heap.size y g ix n) g L A S mp [] (fun _ => False) W0 := ⟨_, hC, World.ownsRow_nil .., fun b hb => by cases hb⟩
    show Gro _ _ _ _ _ _ _ _ _ _ _ _ _ _
    rw [h8]
    exact (h9.alloc o1).alloc o2
  case round =>
    intro i W K hi hK
    have hm := nth_lt hi
    unfold shEnc
    generalize nth (shL L) i = m at *
    gi_wp2
    rintro X W h2 ⟨v, hJ, hO, hX⟩
    have hmL : m ∈ L := (List.mem_filter.1 (List.mem_of_getElem? hm)).1
    have he := hJ.tree.elt m hmL
    have e0 : W.cell? ⟨A m.id, 0, none⟩ = some (.int .i64 m.id.t) := he.cell' rfl
    have e1 : W.cell? ⟨A m.id, 1, none⟩ = some (.int .i64 m.id.s) := he.cell' rfl
    have d0 : W.cell? ⟨w.heap.size, 0, none⟩ = some (.int .i64 ix) := hJ.cell 0 rfl 0 rfl
    have d1 : W.cell? ⟨w.heap.size + 1, 0, none⟩ = some (.int .i64 n) := hJ.cell 1 rfl 0 rfl
    have hle := shL_le L
    have hi2 : (i : Int) ≤ 900000 := by have := HL.out; omega
    have hi3 : (0 : Int) ≤ i := by omega
    have p1 : 0 ≤ ix := O.out.1
    have p2 : 0 ≤ n := O.out.2.1
    have p3 : ix ≤ 900000 := by have := O.out; omega
    have p4 : n ≤ 900000 := by have := O.out; omega
    have HJ := Lib.hid hJ
    have HO := Lib.hid hO
    have HX := Lib.hid hX
    have H2 := Lib.hid h2
    have HM := Lib.hid hm
    have HI := Lib.hid hi
    clear hm hle he hmL
    by_cases q1 : ix ≤ (i : Int)
    · by_cases q2 : (i : Int) < ix + n
      · obtain ⟨u1, u2⟩ := spanL_up OK.out HM.out q1 q2
        have g1 : decide (ix ≤ (i : Int)) = true := decide_eq_true q1
        have g2 : decide ((i : Int) < ix + n) = true := decide_eq_true q2
        obtain ⟨N, hN⟩ : ∃ N, (spanL L ix n i).length = N := ⟨_, rfl⟩
        have hN1 : N ≤ 1000000 := by have := O.out; have := HL.out; omega
        have n1 : ¬ A m.id = y := by have := hJ.low (A m.id) (.inr (.inr (.inl ⟨m.id, List.mem_map.2 ⟨m, (List.mem_filter.1 (List.mem_of_getElem? HM.out)).1, rfl⟩, rfl⟩))); have := HY0.out; omega
        have hlit : SlAt idE (W.drew.alloc (.cells #[.int .i64 m.id.t, .int .i64 m.id.s] 27)) (.slice (some ⟨W.heap.size, 0, none⟩) 1 1) [m.id] := SlAt.lit [m.id] _ (by simp [Enc.flat, idE]) (by unfold maxLen; simp)
        have hk1 : Kept (fun _ => False) W (W.drew.alloc (.cells #[.int .i64 m.id.t, .int .i64 m.id.s] 27)) := ((Kept.refl _ _).drew).alloc _
        have hown := owns_keep hO hk1 (fun _ _ h => h)
        obtain ⟨va, vc, rfl⟩ := owns_sl hO
        rw [show Value.slice va (spanL L ix n i).length vc = .slice va N vc by rw [hN]] at hown hO hJ hX
        have HJ := Lib.hid hJ
        have HO := Lib.hid hO
        have HX := Lib.hid hX
        have HOWN := Lib.hid hown
        have HK1 := Lib.hid hk1
        have HB := Lib.hid (show W0.heap.size + 2 ≤ (W.drew.alloc (.cells #[.int .i64 m.id.t, .int .i64 m.id.s] 27)).heap.size by have := H2.out; simp; omega)
        have HLIT := Lib.hid hlit
        have HLEN : Hid ((spanL L ix n i).length ≤ 1000000) := Lib.hid (by rw [hN]; exact hN1)
        have HLI := Lib.hid hN
        have U1 := Lib.hid u1
        have d2 : W.cell? ⟨y, 0, none⟩ = some (.slice va N vc) := hJ.cell 2 rfl 0 rfl
        have f2 := hJ.frozen 2 rfl 0
        have hyl : y < W.heap.size := (hJ.at_ 2 rfl).lt
        clear hJ hO hX hlit hk1 hown hN u1 u2 h2 hi q1 q2
        gi_wp2
        refine region_any (GroR idE 27 w W0.heap.size (fun _ => False) (spanB w.heap.size y g ix n) g L A S mp (spanL L ix n i ++ [m.id]) X W) ?_ ?_
        focus
          gi_region_with ((refine step_append_in (w := W.drew.alloc (.cells #[.int .i64 m.id.t, .int .i64 m.id.s] 27)) idE (.tmp 49) (.tmp 55) 79 rfl (W0.heap.size + 2) 27 (.agg #[.int .i64 0, .int .i64 0]) 16 Try.underlying79 info_id rfl (by decide) rfl rfl (by go_simp) HOWN.out HLIT.out HLEN.out HB.out ?_; rintro v2 w2 ho2 hg2; have hJ2 := Gro.after HJ.out HO.out HK1.out hg2; rw [HLI.out] at ho2; obtain ⟨va2, vc2, rfl⟩ := owns_sl ho2; have z2 : w2.cell? ⟨y, 0, none⟩ = some (.slice va N vc) := hJ2.cell 2 rfl 0 rfl; have zf := hJ2.frozen 2 rfl 0; clear hJ2))
          all_goals exact ⟨rfl, Gro.appended HJ.out HO.out HX.out H2.out HK1.out hg2 (by rw [HLI.out]) ho2 2 rfl (spanB_nodup HY0.out ..) rfl⟩
        rintro a' W' ⟨ho, hG⟩
        gi_wp2
        refine ⟨ho.1, ho.2, ?_⟩
        show Gro _ _ _ _ _ _ _ _ _ _ _ _ _ _
        rw [U1.out]
        exact hG
      · have u1 := spanL_high (L := L) ⟨O.out.1, O.out.2.1⟩ (by omega) HI.out
        have g1 : decide (ix ≤ (i : Int)) = true := decide_eq_true q1
        have g2 : decide ((i : Int) < ix + n) = false := decide_eq_false q2
        have U1 := Lib.hid u1
        clear hJ hO hX u1 h2 hi q1 q2
        gi_wp2
        refine ⟨fun _ _ => rfl, Nat.le_refl _, ?_⟩
        show Gro _ _ _ _ _ _ _ _ _ _ _ _ _ _
        rw [U1.out]
        exact ⟨v, HJ.out, HO.out, HX.out⟩
    · have u1 := spanL_low (L := L) (i := ix) (n := n) (k := i) (by omega)
      have g1 : decide (ix ≤ (i : Int)) = false := decide_eq_false q1
      have U1 := Lib.hid u1
      clear hJ hO hX u1 h2 hi q1
      gi_wp2
      refine ⟨fun _ _ => rfl, Nat.le_refl _, ?_⟩
      show Gro _ _ _ _ _ _ _ _ _ _ _ _ _ _
      rw [U1.out]
      exact ⟨v, HJ.out, HO.out, HX.out⟩
  case done =>
    rintro X W ⟨v, hJ, hO, hX⟩ hK
    obtain ⟨va, vc, rfl⟩ := owns_sl hO
    have hpl : (spanL L ix n (shL L).length).length ≤ 1000000 := by
      unfold spanL
      have h1 := List.length_take_le n.toNat (List.drop ix.toNat (ids (List.take (shL L).length (shL L))))
      have h2 := O.out
      have h3 := HL.out
      have h4 := shL_le L
      have h5 := SL.out
      omega
    have hpk := pack_any (owns_slAt hO) hpl
    have d2 : W.cell? ⟨y, 0, none⟩ = some (.slice va (spanL L ix n (shL L).length).length vc) := hJ.cell 2 rfl 0 rfl
    have HJ := Lib.hid hJ
    have HK := Lib.hid hK
    have HP := Lib.hid hpk
    clear hJ hO hX hK hpl hpk
    gi_wp2_with (refine ⟨trivial, ?_⟩; gi_at_call 32; refine (callsIn_wide.2 HP.out).mono ?_; rintro e w2 ⟨v2, T, rfl, hT, hO2, hk2⟩)
    have hs1 := HJ.out.size
    have hC2 := (HJ.out.step hk2 fun _ h => h.elim).taken (.deferred none)
    refine ret_range ((hk2.block _ (Array.getElem?_eq_some_iff.1 HK.out).1 (fun h => h)).trans HK.out) (results_tmp2 rfl _ _ _) ⟨⟨v2, T, rfl, hT, ?_⟩, hC2.kept⟩
    have hO3 := owns_keep hO2 (kept_put w2 W0.heap.size (.deferred none)) fun b hb e => by have := (owns_lt hO2 b hb).1; have := (Array.getElem?_eq_some_iff.1 HK.out).1; omega
    refine ⟨hO3.1, ?_⟩
    rcases hO3.2 with h5 | ⟨g', cap, cur, e1, e2, e3⟩
    · exact .inl h5
    · exact .inr ⟨g', cap, cur, e1, by omega, e3⟩
  case stop =>
    rintro c X W h _
    exact h.elim
end Go.Proofs.Ytlafodnaifghcaa.Tr
