/- Items: rows of them as arguments, opened. -/
import Derived.Test.YtdbnohlignpeaaaStOpen2
namespace Go.Proofs.Ytdbnohlignpeaaa.St
open Go.RowKit
structure Item where
  text : Bool
  n : Int
  s : ByteArray
def itemE : Enc Item := ⟨3, fun x => [.bool x.text, .int .i64 x.n, .string x.s], fun _ => rfl, by decide, fun x u hu => by simp at hu; rcases hu with rfl | rfl | rfl <;> rfl⟩
section
open Go.ChangeShapes Go.WideShapes Go.Deep
variable {H : Type} {enc : TypeId × Value → H} {w : World} {base b0 : Nat} {spare : Nat → Bool} {held : Bool}
theorem fields_item : ∃ f0 f1 f2 : Field, Try.prog.underlying 49 = some (.struct #[f0, f1, f2]) ∧ oneCellFields Try.prog #[f0, f1, f2] = true ∧ f0.type = 4 ∧ f1.type = 3 ∧ f2.type = 9 :=
  ⟨_, _, _, Try.underlying49, by kernel_rfl, rfl, rfl, rfl⟩
set_option maxRecDepth 100000 in
theorem elem_item (n : Nat) (cs : List Value) (d : DataW H × List MemPlace) (h : DataW.trod enc Try.prog w base spare held n 49 cs = some d) : ∃ x : Item, cs = itemE.enc x ∧ I64 x.n ∧ x.s.size ≤ maxLen := by
  obtain ⟨f0, f1, f2, hs, hone, e0, e1, e2⟩ := fields_item
  have hC : Try.prog.cellsOf 49 = 3 := by kernel_rfl
  obtain ⟨ys, n', _, _, hlen, hyl, hg⟩ := DataW.trod_struct hs h
  rw [hC] at hlen
  match cs, hlen with
  | [c0, c1, c2], _ =>
    match ys, hyl with
    | [y0, y1, y2], _ =>
      obtain ⟨o0, k0⟩ := hone_of hone 0 f0 rfl
      obtain ⟨o1, k1⟩ := hone_of hone 1 f1 rfl
      obtain ⟨o2, k2⟩ := hone_of hone 2 f2 rfl
      have g0 := hg 0 f0 rfl
      have g1 := hg 1 f1 rfl
      have g2 := hg 2 f2 rfl
      rw [o0, k0, e0] at g0
      rw [o1, k1, e1] at g1
      rw [o2, k2, e2] at g2
      obtain ⟨b, z0, _⟩ := DataW.trod_bool Try.underlying4 g0
      obtain ⟨n1, z1, _, w1⟩ := DataW.trod_int Try.underlying3 g1
      obtain ⟨s, z2, _, w2⟩ := DataW.trod_string Try.underlying9 g2
      simp at z0 z1 z2
      subst z0 z1 z2
      exact ⟨⟨b, n1, s⟩, rfl, i64_of w1, w2⟩
set_option maxRecDepth 100000 in
theorem open_items {r : Reach} {v : Value} {d : DataW H} {ps : List MemPlace} (hv : Value.okWide Try.prog w r b0 41 v)
    (h : DataW.Trod enc Try.prog w base spare held 41 v d ps) : ∃ L, SlAt itemE w v L ∧ ∀ x ∈ L, I64 x.n ∧ x.s.size ≤ maxLen :=
  open_rows itemE Try.underlying41 (by kernel_rfl) elem_item hv h
end
end Go.Proofs.Ytdbnohlignpeaaa.St
