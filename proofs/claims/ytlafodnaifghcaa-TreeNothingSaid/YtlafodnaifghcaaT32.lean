/- shown: All goes through the shown nodes. The nil Tree: slices.AppendSeq and Collect over all. The nil Tree: Collect. Arguments opened: a script's steps, runs, nodes, pieces, numbers. -/
import Derived.Test.YtlafodnaifghcaaT15
import Derived.Test.YtlafodnaifghcaaT28
import Derived.Test.YtlafodnaifghcaaT31
import Derived.Test.YtlafodnaifghcaaT26
import Derived.Test.YtlafodnaifghcaaT8
import Derived.Test.YtlafodnaifghcaaT14
import Derived.Test.YtlafodnaifghcaaChecked
import Derived.Deep.Slices
import Derived.Deep.Fields
import Derived.ChangeSame
import Derived.Lib.SmallJoins
import Derived.OpenShut
namespace Go.Proofs.Ytlafodnaifghcaa.Tr
open Go.RowKit Go.Sort Go.Proofs.Ytlafodnaifghcaa.St
theorem seq_not_nil (p : Value) (w : World) : (binOp .neq 102 (.func (.func 70) #[] #[p]) .nilFunc).run Try.prog w = .ok (.bool true) w := by kernel_rfl
set_option maxRecDepth 100000 in
theorem lshown_nil (w : World) : Calls Try.prog 21 #[.pointer none, .slice none 0 0, .int .i64 0] w fun e w' => e = .returned (.bool true) ∧ Kept (fun _ => False) w w' := by
  have AL := Lib.hid (allf_nil w)
  have hnf := seq_not_nil
  go_enter Try.func21, Try.ntmps21
  go_wp2_with (first | (go_at_call 44; refine AL.out.mono ?_; rintro e w1 ⟨rfl, hb, hk⟩; have GO := Lib.hid (goes_any (M := []) hb (.inl ⟨rfl, rfl⟩) (.inl ⟨rfl, rfl⟩) (by decide) 0); have K := Lib.hid hk; clear hb hk) | (go_at_call 49; refine GO.out.mono ?_; rintro e w2 ⟨rfl, hk2⟩))
  go_ret
  exact ⟨rfl, K.out.trans hk2 fun _ _ h => h⟩
theorem TBox.all {w : World} {g : Nat} {L : List Nd} {F : Nat → Prop} (h : TBox w g L F) (hlen : L.length ≤ 900000) :
    Calls Try.prog 44 #[.pointer (some ⟨g, 0, none⟩)] w fun e w' => (∃ b v, e = .returned (.func (.func 70) #[] #[.pointer (some ⟨b, 0, none⟩)]) ∧ w.heap.size ≤ b ∧ Blk w' b 42 #[v] ∧ w'.ownsRow w.heap.size 59 6 v (shL L).length (nodeE.flat (shL L))) ∧ Kept (fun _ => False) w w' := by
  obtain ⟨A, S, mp, h1, _⟩ := h.at_
  exact allf_any h1 h.doc hlen
set_option maxRecDepth 100000 in
theorem TBox.shown {w : World} {g : Nat} {L : List Nd} {F : Nat → Prop} (h : TBox w g L F) (hlen : L.length ≤ 900000) {lv : Value} (hl : SlAt nodeE w lv L) :
    Calls Try.prog 21 #[.pointer (some ⟨g, 0, none⟩), lv, .int .i64 0] w fun e w' => e = .returned (.bool true) ∧ Kept (fun _ => False) w w' := by
  have AL := Lib.hid (h.all hlen)
  have HL := Lib.hid hl
  obtain ⟨la, lc, rfl, _, _⟩ := hl.sl
  clear h hl
  have hnf := seq_not_nil
  go_enter Try.func21, Try.ntmps21
  go_wp2_with (first | (go_at_call 44; refine AL.out.mono ?_; rintro e w1 ⟨⟨b, v, rfl, _, hb, ho⟩, hk⟩; have GO := Lib.hid (goes_any (M := L) hb (owns_slAt ho) (HL.out.kept hk) hlen 0); have K := Lib.hid hk; clear hb hk ho) | (go_at_call 49; refine GO.out.mono ?_; rintro e w2 ⟨rfl, hk2⟩))
  go_ret
  exact ⟨rfl, K.out.trans hk2 fun _ _ h => h⟩
end Go.Proofs.Ytlafodnaifghcaa.Tr
namespace Go.Proofs.Ytlafodnaifghcaa.Tr
open Go.RowKit Go.Proofs.Ytlafodnaifghcaa.St Go.Shelf
attribute [local go_sem] Oper.semAt_some
set_option maxHeartbeats 4000000 in
theorem seq_nil {pl : Nat} {w : World} (hpl : w.cell? ⟨pl, 0, none⟩ = some (.pointer none)) :
    Calls Try.prog 69 #[.slice none 0 0, .func (.func 62) #[] #[.pointer (some ⟨pl, 0, none⟩)]] w fun e w' => e = .returned (.slice none 0 0) ∧ Kept (fun _ => False) w w' := by
  refine (callsIn_wide (n := 6)).1 ?_
  refine callsIn_of_wp_marks Try.func69 rfl trivial ?_ rfl
  simp only [Try.ntmps69, List.size_toArray, List.length_cons, List.length_nil, Nat.reduceAdd, Nat.reduceSub, Array.replicate_succ, Array.replicate_zero, List.push_toArray, List.append_toArray, List.nil_append, List.cons_append]
  gi_wp2
  obtain ⟨W0, hW0⟩ : ∃ W0, (w.alloc (.cells #[.slice none 0 0] 76)) = W0 := ⟨_, rfl⟩
  have hJ0 : NilJ w W0.heap.size [(w.heap.size, 76, #[.slice none 0 0])] 0 (fun _ => False) W0 := by
    rw [← hW0]
    have h9 := (NilJ.start w).boxed #[.slice none 0 0] 76
    simp only [World.size_alloc] at h9 ⊢
    exact h9
  rw [hW0]
  clear hW0
  refine wpIn_iter (N := 0) (enc := fun _ => #[]) rfl (by decide) (gf := 62) (lb := #[.pointer (some ⟨pl, 0, none⟩)]) rfl trivial (enters_of Try.func62 (by kernel_rfl) rfl) (all1_nil trivial rfl _) (fun i h => absurd h (Nat.not_lt_zero _)) W0.heap.size rfl (NilJ w W0.heap.size [(w.heap.size, 76, #[.slice none 0 0])]) (fun _ _ _ => False) ?hrd ?hgr ?hgx ?hob ?hox ?h0 ?round ?done ?stop
  case hrd => intro i X W hJ; exact hJ.1.cell hpl
  case hgr => intro i X W W' hJ hk; exact hJ.grow hk
  case hgx => intro c X W W' h _; exact h
  case hob => intro i X W o' hJ; exact hJ.step (kept_put W _ o') (fun b hb => by rw [hb]; omega) hJ.2.2.1
  case hox => intro c X W o' hJ; exact hJ
  case h0 => intro o1 o2; exact hJ0.step (((Kept.refl (fun _ => False) W0).alloc o1).alloc o2) (fun _ h => h.elim) (fun _ h => h.elim)
  case round => intro i W K hi; exact absurd hi (Nat.not_lt_zero _)
  case done =>
    intro X W hJ hK
    have c0 : W.cell? ⟨w.heap.size, 0, none⟩ = some (.slice none 0 0) := hJ.cell 0 rfl 0 rfl
    have HJ := Lib.hid hJ
    have HK := Lib.hid hK
    clear hJ hK
    gi_wp2
    exact ret_range HK.out (results_tmp rfl _ _ _) ⟨rfl, (HJ.out.step (X' := fun _ => False) (kept_put W W0.heap.size (.deferred none)) (fun b hb => by rw [hb]; exact Nat.le_refl _) (fun _ h => h.elim)).1⟩
  case stop => rintro c X W h _; exact h.elim
theorem scollect_nil {pl : Nat} {w : World} (hpl : w.cell? ⟨pl, 0, none⟩ = some (.pointer none)) :
    Calls Try.prog 41 #[.func (.func 62) #[] #[.pointer (some ⟨pl, 0, none⟩)]] w fun e w' => e = .returned (.slice none 0 0) ∧ Kept (fun _ => False) w w' := by
  have HS := Lib.hid (seq_nil hpl)
  clear hpl
  go_enter Try.func41, Try.ntmps41
  go_wp2_with (go_at_call 69; refine HS.out.mono ?_; rintro e w' ⟨rfl, hk⟩)
  go_ret
  exact ⟨rfl, hk⟩
end Go.Proofs.Ytlafodnaifghcaa.Tr
namespace Go.Proofs.Ytlafodnaifghcaa.Tr
open Go.RowKit Go.Proofs.Ytlafodnaifghcaa.St Go.Shelf
attribute [local go_sem] Oper.semAt_some
theorem NilJ.later {w W W' : World} {bs : List Box} (h : NilJ w W.heap.size bs 0 (fun _ => False) W) (hk : Kept (fun _ => False) W W') : NilJ w W'.heap.size bs 0 (fun _ => False) W' :=
  ⟨h.1.trans hk fun _ _ h => h, fun x hx => ⟨hk.blk (fun h => h) (h.2.1 x hx).1, Nat.lt_of_lt_of_le (h.2.1 x hx).2 hk.size⟩, fun _ h => h.elim, Nat.le_refl _, Nat.le_trans h.2.2.2.2 hk.size⟩
set_option maxHeartbeats 4000000 in
theorem coll_nil (w : World) :
    Calls Try.prog 16 #[.pointer none] w fun e w' => e = .returned (.int .i64 0) ∧ Kept (fun _ => False) w w' := by
  refine (callsIn_wide (n := 6)).1 ?_
  have hN1 := ((NilJ.start w).boxed #[.pointer none] 25).boxed #[.int .i64 0] 3
  have hp2 : (((w.alloc (.cells #[.pointer none] 25)).alloc (.cells #[.int .i64 0] 3)).alloc (.cells #[.pointer none] 25)).cell? ⟨w.heap.size + 1 + 1, 0, none⟩ = some (.pointer none) := by
    have h9 := (Blk.new ((w.alloc (.cells #[.pointer none] 25)).alloc (.cells #[.int .i64 0] 3)) 25 #[.pointer none]).cell' (i := 0) rfl
    simpa using h9
  have HSC := Lib.hid (scollect_nil hp2)
  have HN1 := Lib.hid hN1
  clear hN1 hp2
  refine callsIn_of_wp_marks Try.func16 rfl trivial ?_ rfl
  simp only [Try.ntmps16, List.size_toArray, List.length_cons, List.length_nil, Nat.reduceAdd, Nat.reduceSub, Array.replicate_succ, Array.replicate_zero, List.push_toArray, List.append_toArray, List.nil_append, List.cons_append]
  gi_wp2_with (first | (refine ⟨trivial, ?_⟩; gi_at_call 33; refine (callsIn_wide.2 (all_nil _)).mono ?_; rintro e w' ⟨rfl, rfl⟩) | (refine ⟨trivial, ?_⟩; gi_at_call 41; refine (callsIn_wide.2 HSC.out).mono ?_; rintro e w3 ⟨rfl, hk3⟩; have K3 := Lib.hid hk3; clear hk3) | (refine ⟨trivial, ?_⟩; gi_at_call 40; refine (callsIn_wide.2 (bwd_any _ _ _ _)).mono ?_; rintro e w' ⟨rfl, rfl⟩))
  have hJ0 := ((HN1.out.later ((Kept.refl _ _).alloc _)).later K3.out).boxed #[.slice none 0 0] 76
  obtain ⟨W0, hW0⟩ : ∃ W0, w3.alloc (.cells #[.slice none 0 0] 76) = W0 := ⟨_, rfl⟩
  rw [hW0] at hJ0 ⊢
  clear hW0 HN1 K3 HSC
  simp only [World.size_alloc, List.nil_append, List.cons_append] at hJ0
  refine wpIn_iter (N := 0) rfl (by decide) (gf := 68) (lb := #[.pointer (some ⟨w3.heap.size, 0, none⟩)]) rfl trivial (enters_of Try.func68 (by kernel_rfl) rfl) (bwd_iter (D := []) (v := .slice none 0 0) (by decide)) (fun i h => absurd h (Nat.not_lt_zero _)) W0.heap.size rfl (NilJ w W0.heap.size [(w.heap.size, 25, #[.pointer none]), (w.heap.size + 1, 3, #[.int .i64 0]), (w3.heap.size, 76, #[.slice none 0 0])]) (fun _ _ _ => False) ?hrd ?hgr ?hgx ?hob ?hox ?h0 ?round ?done ?stop
  case hrd => intro i X W hJ; exact ⟨hJ.cell 2 rfl 0 rfl, .inl ⟨rfl, rfl⟩⟩
  case hgr => intro i X W W' hJ hk; exact hJ.grow hk
  case hgx => intro c X W W' h _; exact h
  case hob => intro i X W o' hJ; exact hJ.step (kept_put W _ o') (fun b hb => by rw [hb]; omega) hJ.2.2.1
  case hox => intro c X W o' hJ; exact hJ
  case h0 => intro o1 o2; exact hJ0.step (((Kept.refl (fun _ => False) W0).alloc o1).alloc o2) (fun _ h => h.elim) (fun _ h => h.elim)
  case round => intro i W K hi; exact absurd hi (Nat.not_lt_zero _)
  case done =>
    intro X W hJ hK
    have c0 : W.cell? ⟨w.heap.size + 1, 0, none⟩ = some (.int .i64 0) := hJ.cell 1 rfl 0 rfl
    have HJ := Lib.hid hJ
    have HK := Lib.hid hK
    clear hJ hK
    gi_wp2
    exact ret_range HK.out (results_tmp rfl _ _ _) ⟨rfl, (HJ.out.step (X' := fun _ => False) (kept_put W W0.heap.size (.deferred none)) (fun b hb => by rw [hb]; exact Nat.le_refl _) (fun _ h => h.elim)).1⟩
  case stop => rintro c X W h _; exact h.elim
end Go.Proofs.Ytlafodnaifghcaa.Tr
namespace Go.Proofs.Ytlafodnaifghcaa.Tr
open Go.RowKit Go.Proofs.Ytlafodnaifghcaa.St
section
open Go.ChangeShapes Go.WideShapes Go.Deep
variable {H : Type} {enc : TypeId × Value → H} {w : World} {base b0 : Nat} {spare : Nat → Bool} {held : Bool} {P : Program}
theorem list_of_all {α : Type} : ∀ (n : Nat) (P : Nat → α → Prop), (∀ i, i < n → ∃ s, P i s) → ∃ L : List α, L.length = n ∧ ∀ (i : Nat) (s : α), L[i]? = some s → P i s
  | 0, _, _ => ⟨[], rfl, fun i s hs => by simp at hs⟩
  | n + 1, P, h => by
    obtain ⟨L, hL, hP⟩ := list_of_all n P (fun i hi => h i (by omega))
    obtain ⟨s, hs⟩ := h n (by omega)
    refine ⟨L ++ [s], by simp [hL], fun i t ht => ?_⟩
    by_cases hi : i < L.length
    · rw [List.getElem?_append_left hi] at ht; exact hP i t ht
    · rw [List.getElem?_append_right (by omega)] at ht
      have : i - L.length = 0 := by have := (List.getElem?_eq_some_iff.1 ht).1; simp at this; omega
      rw [this] at ht
      simp at ht
      subst ht
      have : i = n := by omega
      subst this
      exact hs
theorem open_rows {α : Type} (E : Enc α) {Q : α → Prop} {t e : TypeId} (ht : P.underlying t = some (.slice e)) (hC : P.cellsOf e = E.k)
    (hel : ∀ n cs d, DataW.trod enc P w base spare held n e cs = some d → ∃ x, cs = E.enc x ∧ Q x) {r : Reach} {v : Value} {d : DataW H} {ps : List MemPlace} (hv : Value.okWide P w r b0 t v)
    (h : DataW.Trod enc P w base spare held t v d ps) : ∃ L, SlAt E w v L ∧ ∀ x ∈ L, Q x := by
  obtain ⟨a, len, cap, rfl⟩ := okWide_slice ht hv
  obtain ⟨fuel, hf⟩ := h
  rcases open_slice ht hf with ⟨hcs, _⟩ | ⟨x, l, c, m, n, D, Pl, hcs, _, hl, hm, hmm, _, hi⟩
  · simp [Value.cells] at hcs
    obtain ⟨rfl, rfl, rfl⟩ := hcs
    exact ⟨[], .inl ⟨rfl, rfl⟩, fun x hx => by simp at hx⟩
  · simp [Value.cells] at hcs
    obtain ⟨rfl, rfl, rfl⟩ := hcs
    have hml : len ≤ m := by rw [hmm]; split <;> omega
    have hall : ∀ i, i < len → ∃ y : α, Q y ∧ ∀ (j : Nat) (u : Value), (E.enc y)[j]? = some u → w.cell? (x.add (i * E.k + j)) = some u := by
      intro i hil
      obtain ⟨cs, hc, hd⟩ := hi i (by omega)
      obtain ⟨y, rfl, hq⟩ := hel _ _ _ hd
      obtain ⟨_, _, hat⟩ := World.cells?_some hc
      refine ⟨y, hq, fun j u hu => ?_⟩
      have hj : j < P.cellsOf e := by rw [hC, ← E.len y]; exact (List.getElem?_eq_some_iff.1 hu).1
      have := hat j hj
      rw [Go.Deep.add_add, hC] at this
      rw [this, hu]
    obtain ⟨L, hL, hS⟩ := list_of_all len _ hall
    subst hL
    have hsp : L ≠ [] → x.spot = none := fun hne => by
      obtain ⟨y, r, rfl⟩ : ∃ y r, L = y :: r := by cases L with | nil => exact absurd rfl hne | cons y r => exact ⟨y, r, rfl⟩
      obtain ⟨_, h0⟩ := hS 0 y rfl
      have hlt : 0 < (E.enc y).length := by rw [E.len]; exact E.pos
      have := h0 0 _ (List.getElem?_eq_getElem hlt)
      rw [Nat.zero_mul, Nat.zero_add, Addr.add_zero'] at this
      exact World.cell?_spot this
    refine ⟨L, .inr ⟨x, cap, rfl, hl, hm, hsp, fun i y hy j u hu => ?_⟩, fun y hy => ?_⟩
    · have h1 := (hS i y hy).2 j u hu
      have hs := hsp (by rintro rfl; simp at hy)
      obtain ⟨g, o, s⟩ := x
      obtain rfl : s = none := hs
      rw [Addr.add_lit] at h1
      exact h1
    · obtain ⟨i, hi⟩ := List.getElem?_of_mem hy
      exact (hS i y hi).1
theorem open_part {α : Type} (E : Enc α) {Q : α → Prop} {t e : TypeId} (ht : P.underlying t = some (.slice e)) (hC : P.cellsOf e = E.k)
    (hel : ∀ n cs d, DataW.trod enc P w base spare held n e cs = some d → ∃ x, cs = E.enc x ∧ Q x) {n : Nat} {cs : List Value} {d : DataW H × List MemPlace}
    (h : DataW.trod enc P w base spare held n t cs = some d) : ∃ a len cap L, cs = [.slice a len cap] ∧ SlAt E w (.slice a len cap) L ∧ ∀ x ∈ L, Q x := by
  rcases open_slice ht h with ⟨rfl, _⟩ | ⟨x, len, cap, m, n, D, Pl, rfl, _, hl, hm, hmm, _, hi⟩
  · exact ⟨none, 0, 0, [], rfl, .inl ⟨rfl, rfl⟩, fun x hx => by simp at hx⟩
  · have hml : len ≤ m := by rw [hmm]; split <;> omega
    have hall : ∀ i, i < len → ∃ y : α, Q y ∧ ∀ (j : Nat) (u : Value), (E.enc y)[j]? = some u → w.cell? (x.add (i * E.k + j)) = some u := by
      intro i hil
      obtain ⟨cs, hc, hd⟩ := hi i (by omega)
      obtain ⟨y, rfl, hq⟩ := hel _ _ _ hd
      obtain ⟨_, _, hat⟩ := World.cells?_some hc
      refine ⟨y, hq, fun j u hu => ?_⟩
      have hj : j < P.cellsOf e := by rw [hC, ← E.len y]; exact (List.getElem?_eq_some_iff.1 hu).1
      have := hat j hj
      rw [Go.Deep.add_add, hC] at this
      rw [this, hu]
    obtain ⟨L, hL, hS⟩ := list_of_all len _ hall
    subst hL
    have hsp : L ≠ [] → x.spot = none := fun hne => by
      obtain ⟨y, r, rfl⟩ : ∃ y r, L = y :: r := by cases L with | nil => exact absurd rfl hne | cons y r => exact ⟨y, r, rfl⟩
      obtain ⟨_, h0⟩ := hS 0 y rfl
      have hlt : 0 < (E.enc y).length := by rw [E.len]; exact E.pos
      have := h0 0 _ (List.getElem?_eq_getElem hlt)
      rw [Nat.zero_mul, Nat.zero_add, Addr.add_zero'] at this
      exact World.cell?_spot this
    refine ⟨some x, L.length, cap, L, rfl, .inr ⟨x, cap, rfl, hl, hm, hsp, fun i y hy j u hu => ?_⟩, fun y hy => ?_⟩
    · have h1 := (hS i y hy).2 j u hu
      have hs := hsp (by rintro rfl; simp at hy)
      obtain ⟨g, o, s⟩ := x
      obtain rfl : s = none := hs
      rw [Addr.add_lit] at h1
      exact h1
    · obtain ⟨i, hi⟩ := List.getElem?_of_mem hy
      exact (hS i y hi).1
end
section
open Go.ChangeShapes Go.WideShapes Go.Deep
variable {H : Type} {enc : TypeId × Value → H} {w : World} {base b0 : Nat} {spare : Nat → Bool} {held : Bool}
theorem fields_id2 : ∃ f0 f1 : Field, Try.prog.underlying 27 = some (.struct #[f0, f1]) ∧ f0.offset = 0 ∧ f1.offset = 1 ∧ f0.type = 3 ∧ f1.type = 3 :=
  ⟨_, _, Try.underlying27, rfl, rfl, rfl, rfl⟩
theorem fields_run2 : ∃ f0 f1 : Field, Try.prog.underlying 61 = some (.struct #[f0, f1]) ∧ f0.offset = 0 ∧ f1.offset = 2 ∧ f0.type = 27 ∧ f1.type = 3 :=
  ⟨_, _, Try.underlying61, rfl, rfl, rfl, rfl⟩
theorem fields_step : ∃ f0 f1 f2 f3 f4 f5 f6 : Field, Try.prog.underlying 30 = some (.struct #[f0, f1, f2, f3, f4, f5, f6]) ∧ (f0.offset = 0 ∧ f1.offset = 1 ∧ f2.offset = 3 ∧ f3.offset = 5 ∧ f4.offset = 6 ∧ f5.offset = 7 ∧ f6.offset = 8) ∧
    f0.type = 3 ∧ f1.type = 27 ∧ f2.type = 27 ∧ f3.type = 9 ∧ f4.type = 28 ∧ f5.type = 3 ∧ f6.type = 3 :=
  ⟨_, _, _, _, _, _, _, Try.underlying30, ⟨rfl, rfl, rfl, rfl, rfl, rfl, rfl⟩, rfl, rfl, rfl, rfl, rfl, rfl, rfl⟩
theorem cells_int : Try.prog.cellsOf 3 = 1 := by kernel_rfl
theorem cells_string : Try.prog.cellsOf 9 = 1 := by kernel_rfl
theorem cells_id : Try.prog.cellsOf 27 = 2 := by kernel_rfl
theorem cells_run : Try.prog.cellsOf 61 = 3 := by kernel_rfl
theorem cells_runs : Try.prog.cellsOf 28 = 1 := by kernel_rfl
theorem cells_step : Try.prog.cellsOf 30 = 9 := by kernel_rfl
set_option maxRecDepth 100000 in
theorem elem_id2 (n : Nat) (cs : List Value) (d : DataW H × List MemPlace) (h : DataW.trod enc Try.prog w base spare held n 27 cs = some d) : ∃ x : ID, cs = idE.enc x ∧ I64 x.t ∧ I64 x.s := by
  obtain ⟨f0, f1, hs, o0, o1, e0, e1⟩ := fields_id2
  obtain ⟨ys, n', _, _, hlen, hyl, hg⟩ := DataW.trod_struct hs h
  rw [cells_id] at hlen
  match cs, hlen with
  | [c0, c1], _ =>
    match ys, hyl with
    | [y0, y1], _ =>
      have g0 := hg 0 f0 rfl
      have g1 := hg 1 f1 rfl
      rw [o0, e0, cells_int] at g0
      rw [o1, e1, cells_int] at g1
      obtain ⟨n0, z0, _, w0⟩ := DataW.trod_int Try.underlying3 g0
      obtain ⟨n1, z1, _, w1⟩ := DataW.trod_int Try.underlying3 g1
      simp at z0 z1
      subst z0 z1
      exact ⟨⟨n0, n1⟩, rfl, bounds_i64 w0, bounds_i64 w1⟩
set_option maxRecDepth 100000 in
theorem elem_run2 (n : Nat) (cs : List Value) (d : DataW H × List MemPlace) (h : DataW.trod enc Try.prog w base spare held n 61 cs = some d) : ∃ x : Run, cs = runE.enc x ∧ x.In := by
  obtain ⟨f0, f1, hs, o0, o1, e0, e1⟩ := fields_run2
  obtain ⟨ys, n', _, _, hlen, hyl, hg⟩ := DataW.trod_struct hs h
  rw [cells_run] at hlen
  match cs, hlen with
  | [c0, c1, c2], _ =>
    match ys, hyl with
    | [y0, y1], _ =>
      have g0 := hg 0 f0 rfl
      have g1 := hg 1 f1 rfl
      rw [o0, e0, cells_id] at g0
      rw [o1, e1, cells_int] at g1
      obtain ⟨x, hx, hi⟩ := elem_id2 _ _ _ g0
      obtain ⟨n1, z1, _, w1⟩ := DataW.trod_int Try.underlying3 g1
      simp at z1
      subst z1
      simp [idE] at hx
      obtain ⟨rfl, rfl⟩ := hx
      exact ⟨⟨x, n1⟩, rfl, hi.1, hi.2, bounds_i64 w1⟩
/-- a step as it lies in memory -/
structure StV where
  kind : Int
  id : ID
  ref : ID
  text : ByteArray
  runs : Rw
  i : Int
  n : Int
def stC (s : StV) : List Value := [.int .i64 s.kind, .int .i64 s.id.t, .int .i64 s.id.s, .int .i64 s.ref.t, .int .i64 s.ref.s, .string s.text, s.runs.v, .int .i64 s.i, .int .i64 s.n]
def stE : Enc StV := ⟨9, stC, fun _ => rfl, by decide, fun s u hu => by
  simp [stC] at hu
  rcases hu with rfl | rfl | rfl | rfl | rfl | rfl | rfl | rfl | rfl <;> rfl⟩
/-- what there is to know of a step that was given -/
structure StepIn (w : World) (s : StV) (rs : List Run) : Prop where
  row : SlAt runE w s.runs.v rs
  rin : ∀ r ∈ rs, r.In
  text : s.text.size ≤ maxLen
  nums : I64 s.kind ∧ I64 s.i ∧ I64 s.n
  ids : (I64 s.id.t ∧ I64 s.id.s) ∧ I64 s.ref.t ∧ I64 s.ref.s
set_option maxRecDepth 100000 in
theorem elem_step (n : Nat) (cs : List Value) (d : DataW H × List MemPlace) (h : DataW.trod enc Try.prog w base spare held n 30 cs = some d) : ∃ s : StV, cs = stE.enc s ∧ ∃ rs, StepIn w s rs := by
  obtain ⟨f0, f1, f2, f3, f4, f5, f6, hs, ⟨o0, o1, o2, o3, o4, o5, o6⟩, e0, e1, e2, e3, e4, e5, e6⟩ := fields_step
  obtain ⟨ys, n', _, _, hlen, hyl, hg⟩ := DataW.trod_struct hs h
  rw [cells_step] at hlen
  match cs, hlen with
  | [c0, c1, c2, c3, c4, c5, c6, c7, c8], _ =>
    match ys, hyl with
    | [y0, y1, y2, y3, y4, y5, y6], _ =>
      have g0 := hg 0 f0 rfl
      have g1 := hg 1 f1 rfl
      have g2 := hg 2 f2 rfl
      have g3 := hg 3 f3 rfl
      have g4 := hg 4 f4 rfl
      have g5 := hg 5 f5 rfl
      have g6 := hg 6 f6 rfl
      rw [o0, e0, cells_int] at g0
      rw [o1, e1, cells_id] at g1
      rw [o2, e2, cells_id] at g2
      rw [o3, e3, cells_string] at g3
      rw [o4, e4, cells_runs] at g4
      rw [o5, e5, cells_int] at g5
      rw [o6, e6, cells_int] at g6
      obtain ⟨n0, z0, _, w0⟩ := DataW.trod_int Try.underlying3 g0
      obtain ⟨x1, z1, hx1⟩ := elem_id2 _ _ _ g1
      obtain ⟨x2, z2, hx2⟩ := elem_id2 _ _ _ g2
      obtain ⟨s3, z3, _, w3⟩ := DataW.trod_string Try.underlying9 g3
      obtain ⟨a4, l4, k4, L4, z4, hs4, hx4⟩ := open_part runE Try.underlying28 cells_run elem_run2 g4
      obtain ⟨n5, z5, _, w5⟩ := DataW.trod_int Try.underlying3 g5
      obtain ⟨n6, z6, _, w6⟩ := DataW.trod_int Try.underlying3 g6
      simp at z0 z3 z4 z5 z6
      simp [idE] at z1 z2
      obtain ⟨rfl, rfl⟩ := z1
      obtain ⟨rfl, rfl⟩ := z2
      subst z0 z3 z4 z5 z6
      exact ⟨⟨n0, x1, x2, s3, ⟨a4, l4, k4⟩, n5, n6⟩, rfl, L4, ⟨hs4, hx4, w3, ⟨bounds_i64 w0, bounds_i64 w5, bounds_i64 w6⟩, hx1, hx2⟩⟩
set_option maxRecDepth 100000 in
theorem open_steps {r : Reach} {v : Value} {d : DataW H} {ps : List MemPlace} (hv : Value.okWide Try.prog w r b0 22 v)
    (h : DataW.Trod enc Try.prog w base spare held 22 v d ps) : ∃ L, SlAt stE w v L ∧ ∀ s ∈ L, ∃ rs, StepIn w s rs :=
  open_rows stE Try.underlying22 cells_step elem_step hv h
end
end Go.Proofs.Ytlafodnaifghcaa.Tr
