/- A row of numbers as an argument. -/
import Derived.Test.YtlafodnaifghcaaK37
namespace Go.Proofs.Ytlafodnaifghcaa.Tr
open Go.RowKit Go.Proofs.Ytlafodnaifghcaa.St
def intE : Enc Int := ⟨1, fun x => [.int .i64 x], fun _ => rfl, by decide, fun x u hu => by rw [List.mem_singleton.1 hu]; rfl⟩
theorem SlAt.int {w : World} {v : Value} {L : List Int} (h : SlAt intE w v L) (hn : 0 < L.length) : ∃ g o c, v = .slice (some ⟨g, o, none⟩) L.length c ∧ ∀ (i : Nat) (x : Int), L[i]? = some x → w.cell? ⟨g, o + i, none⟩ = some (.int .i64 x) := by
  obtain ⟨g, o, c, rfl, _, _, _, hc⟩ := h.one hn
  refine ⟨g, o, c, rfl, fun i x hx => ?_⟩
  have := hc i x hx 0 _ rfl
  simp only [intE, Nat.mul_one, Nat.add_zero] at this
  exact this
section
open Go.ChangeShapes Go.WideShapes Go.Deep
variable {H : Type} {enc : TypeId × Value → H} {w : World} {base b0 : Nat} {spare : Nat → Bool} {held : Bool}
theorem elem_int (n : Nat) (cs : List Value) (d : DataW H × List MemPlace) (h : DataW.trod enc Try.prog w base spare held n 3 cs = some d) : ∃ x : Int, cs = intE.enc x ∧ I64 x := by
  obtain ⟨k, z, _, hw⟩ := DataW.trod_int Try.underlying3 h
  exact ⟨k, z, bounds_i64 hw⟩
set_option maxRecDepth 100000 in
theorem open_ints {r : Reach} {v : Value} {d : DataW H} {ps : List MemPlace} (hv : Value.okWide Try.prog w r b0 46 v)
    (h : DataW.Trod enc Try.prog w base spare held 46 v d ps) : ∃ L, SlAt intE w v L ∧ ∀ x ∈ L, I64 x :=
  open_rows intE Try.underlying46 (by kernel_rfl) elem_int hv h
end
end Go.Proofs.Ytlafodnaifghcaa.Tr
