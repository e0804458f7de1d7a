/- The document's Alarm: Next, Gap. -/
import Derived.Test.YtmfjeeogeilgfaaAlRefFirst
namespace Go.Proofs.Ytmfjeeogeilgfaa.Al
open Go.RowKit
section
variable {w : World} {B : Nat} {l m : Int} {v : Value} {L : List T}

theorem rnext_any (h : RefAt w B l m v L) (hbig : L.length ≤ 1000000) : Calls Try.prog 23 #[.pointer (some ⟨B, 0, none⟩)] w fun e w' =>
    ((L = [] ∧ e = .returned (.tuple #[.int .i64 0, .int .i64 0, .bool false])) ∨ ∃ t, t ∈ L ∧ (∀ u ∈ L, t.le u) ∧ e = .returned (.tuple #[.int .i64 t.key, .int .i64 t.due, .bool true])) ∧ ∃ q, w' = w.drewN q := by
  have hf := first_any h hbig
  have HF := Lib.hid hf
  clear hf
  obtain ⟨a, c, rfl⟩ := h.sl
  have c2 : w.cell? ⟨B, 2, none⟩ = some (.slice a L.length c) := h.blk.cell' rfl
  go_enter Try.func23, Try.ntmps23
  go_wp2_with fail
  refine HF.out.mono ?_
  rintro e w1 ⟨⟨k, hk, rfl⟩, q, rfl⟩
  rcases hk with ⟨h0, rfl⟩ | ⟨i, t, rfl, ht, hmin⟩
  · have H0 := Lib.hid h0
    clear h0
    go_wp2_with fail
    go_ret3
    exact ⟨.inl ⟨H0.out, rfl⟩, _, rfl⟩
  · have hil := lt_of_get ht
    obtain ⟨g, c', hv, hc⟩ := h.cells (by rintro rfl; simp at hil)
    cases hv
    obtain ⟨t0, _, t2⟩ := hc i t ht
    have HM := Lib.hid hmin
    have HT := Lib.hid ht
    clear hmin ht hc
    have hi0 : (0 : Int) ≤ i := by omega
    have hil' : (i : Int) < L.length := by omega
    go_wp2_with fail
    go_quiet (fail)
    go_wp2_with fail
    go_ret3
    exact ⟨.inr ⟨t, List.mem_of_getElem? HT.out, fun u hu => by obtain ⟨j, hj⟩ := List.getElem?_of_mem hu; exact HM.out j u hj, rfl⟩, _, World.drewN_drewN _ _ _⟩

theorem atOf_cases (L : List T) (k : Int) : (atOf L k = -1 ∧ ∀ t ∈ L, t.key ≠ k) ∨ ∃ (i : Nat) (t : T), atOf L k = i ∧ L[i]? = some t ∧ t.key = k := by
  induction L with
  | nil => exact .inl ⟨rfl, by simp⟩
  | cons x r ih =>
    by_cases hx : x.key = k
    · exact .inr ⟨0, x, by simp [atOf, hx], rfl, hx⟩
    · rcases ih with ⟨h1, h2⟩ | ⟨i, t, h1, h2, h3⟩
      · exact .inl ⟨by simp [atOf, hx, h1], fun t ht => by rcases List.mem_cons.1 ht with e | e; exact e ▸ hx; exact h2 t e⟩
      · exact .inr ⟨i + 1, t, by rw [atOf, if_neg hx, h1, if_neg (by omega)]; omega, by simpa using h2, h3⟩

theorem rgap_any (h : RefAt w B l m v L) (k : Int) (hbig : L.length ≤ 1000000) : Calls Try.prog 22 #[.pointer (some ⟨B, 0, none⟩), .int .i64 k] w fun e w' =>
    (((∀ t ∈ L, t.key ≠ k) ∧ e = .returned (.tuple #[.int .i64 0, .int .i64 0])) ∨ ∃ t, t ∈ L ∧ t.key = k ∧ e = .returned (.tuple #[.int .i64 t.gap, .int .i64 t.due])) ∧ ∃ q, w' = w.drewN q := by
  have hf := at_any h k hbig
  have HF := Lib.hid hf
  clear hf
  obtain ⟨a, c, rfl⟩ := h.sl
  have c2 : w.cell? ⟨B, 2, none⟩ = some (.slice a L.length c) := h.blk.cell' rfl
  go_enter Try.func22, Try.ntmps22
  go_wp2_with fail
  refine HF.out.mono ?_
  rintro e w1 ⟨rfl, rfl⟩
  rcases atOf_cases L k with ⟨e0, h0⟩ | ⟨i, t, e0, ht, hk⟩
  · have H0 := Lib.hid h0
    rw [e0]
    clear h0 e0
    go_wp2_with fail
    go_ret2
    exact ⟨.inl ⟨H0.out, rfl⟩, 0, rfl⟩
  · have hil := lt_of_get ht
    obtain ⟨g, c', hv, hc⟩ := h.cells (by rintro rfl; simp at hil)
    cases hv
    obtain ⟨_, t1, t2⟩ := hc i t ht
    have HT := Lib.hid ht
    have HK := Lib.hid hk
    rw [e0]
    clear ht hc hk e0
    have hi0 : (0 : Int) ≤ i := by omega
    have hil' : (i : Int) < L.length := by omega
    go_wp2_with fail
    go_quiet (fail)
    go_wp2_with fail
    go_ret2
    exact ⟨.inr ⟨t, List.mem_of_getElem? HT.out, HK.out, rfl⟩, _, rfl⟩
end
end Go.Proofs.Ytmfjeeogeilgfaa.Al
