/- Rows of structs and of numbers as arguments, opened. -/
import Derived.Test.YtaaeomapbigfgaaQuClosed0
import Derived.Deep.Slices
import Derived.Deep.Fields
import Derived.ChangeSame
import Derived.Lib.SmallJoins
import Derived.OpenShut
namespace Go.Proofs.Ytaaeomapbigfgaa
open Go.RowKit
section
open Go.ChangeShapes Go.WideShapes Go.Deep
variable {H : Type} {enc : TypeId × Value → H} {w : World} {base b0 : Nat} {spare : Nat → Bool} {held : Bool} {P : Program}
theorem list_of_all {α : Type} : ∀ (n : Nat) (P : Nat → α → Prop), (∀ i, i < n → ∃ s, P i s) → ∃ L : List α, L.length = n ∧ ∀ (i : Nat) (s : α), L[i]? = some s → P i s
  | 0, _, _ => ⟨[], rfl, fun i s hs => by simp at hs⟩
  | n + 1, P, h => by
    obtain ⟨L, hL, hP⟩ := list_of_all n P (fun i hi => h i (by omega))
    obtain ⟨s, hs⟩ := h n (by omega)
    refine ⟨L ++ [s], by simp [hL], fun i t ht => ?_⟩
    by_cases hi : i < L.length
    · rw [List.getElem?_append_left hi] at ht; exact hP i t ht
    · rw [List.getElem?_append_right (by omega)] at ht
      have : i - L.length = 0 := by have := (List.getElem?_eq_some_iff.1 ht).1; simp at this; omega
      rw [this] at ht
      simp at ht
      subst ht
      have : i = n := by omega
      subst this
      exact hs
theorem open_rows {α : Type} (E : Enc α) {Q : α → Prop} {t e : TypeId} (ht : P.underlying t = some (.slice e)) (hC : P.cellsOf e = E.k)
    (hel : ∀ n cs d, DataW.trod enc P w base spare held n e cs = some d → ∃ x, cs = E.enc x ∧ Q x) {r : Reach} {v : Value} {d : DataW H} {ps : List MemPlace} (hv : Value.okWide P w r b0 t v)
    (h : DataW.Trod enc P w base spare held t v d ps) : ∃ L, SlAt E w v L ∧ ∀ x ∈ L, Q x := by
  obtain ⟨a, len, cap, rfl⟩ := okWide_slice ht hv
  obtain ⟨fuel, hf⟩ := h
  rcases open_slice ht hf with ⟨hcs, _⟩ | ⟨x, l, c, m, n, D, Pl, hcs, _, hl, hm, hmm, _, hi⟩
  · simp [Value.cells] at hcs
    obtain ⟨rfl, rfl, rfl⟩ := hcs
    exact ⟨[], .inl ⟨rfl, rfl⟩, fun x hx => by simp at hx⟩
  · simp [Value.cells] at hcs
    obtain ⟨rfl, rfl, rfl⟩ := hcs
    have hml : len ≤ m := by rw [hmm]; split <;> omega
    have hall : ∀ i, i < len → ∃ y : α, Q y ∧ ∀ (j : Nat) (u : Value), (E.enc y)[j]? = some u → w.cell? (x.add (i * E.k + j)) = some u := by
      intro i hil
      obtain ⟨cs, hc, hd⟩ := hi i (by omega)
      obtain ⟨y, rfl, hq⟩ := hel _ _ _ hd
      obtain ⟨_, _, hat⟩ := World.cells?_some hc
      refine ⟨y, hq, fun j u hu => ?_⟩
      have hj : j < P.cellsOf e := by rw [hC, ← E.len y]; exact (List.getElem?_eq_some_iff.1 hu).1
      have := hat j hj
      rw [Go.Deep.add_add, hC] at this
      rw [this, hu]
    obtain ⟨L, hL, hS⟩ := list_of_all len _ hall
    subst hL
    have hsp : L ≠ [] → x.spot = none := fun hne => by
      obtain ⟨y, r, rfl⟩ : ∃ y r, L = y :: r := by cases L with | nil => exact absurd rfl hne | cons y r => exact ⟨y, r, rfl⟩
      obtain ⟨_, h0⟩ := hS 0 y rfl
      have hlt : 0 < (E.enc y).length := by rw [E.len]; exact E.pos
      have := h0 0 _ (List.getElem?_eq_getElem hlt)
      rw [Nat.zero_mul, Nat.zero_add, Addr.add_zero'] at this
      exact World.cell?_spot this
    refine ⟨L, .inr ⟨x, cap, rfl, hl, hm, hsp, fun i y hy j u hu => ?_⟩, fun y hy => ?_⟩
    · have h1 := (hS i y hy).2 j u hu
      have hs := hsp (by rintro rfl; simp at hy)
      obtain ⟨g, o, s⟩ := x
      obtain rfl : s = none := hs
      rw [Addr.add_lit] at h1
      exact h1
    · obtain ⟨i, hi⟩ := List.getElem?_of_mem hy
      exact (hS i y hi).1
end
section
open Go.ChangeShapes Go.WideShapes Go.Deep
variable {H : Type} {enc : TypeId × Value → H} {w : World} {base b0 : Nat} {spare : Nat → Bool} {held : Bool}
theorem elem_int (n : Nat) (cs : List Value) (d : DataW H × List MemPlace) (h : DataW.trod enc Try.prog w base spare held n 3 cs = some d) : ∃ x : Int, cs = intE.enc x ∧ I64 x := by
  obtain ⟨k, z, _, hw⟩ := DataW.trod_int Try.underlying3 h
  exact ⟨k, z, bounds_i64 hw⟩
set_option maxRecDepth 100000 in
theorem open_ints {r : Reach} {v : Value} {d : DataW H} {ps : List MemPlace} (hv : Value.okWide Try.prog w r b0 22 v)
    (h : DataW.Trod enc Try.prog w base spare held 22 v d ps) : ∃ L, SlAt intE w v L ∧ ∀ x ∈ L, I64 x :=
  open_rows intE Try.underlying22 (by kernel_rfl) elem_int hv h
end
end Go.Proofs.Ytaaeomapbigfgaa
