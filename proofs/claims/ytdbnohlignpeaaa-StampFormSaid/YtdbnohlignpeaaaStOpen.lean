/- The laws' arguments, opened. -/
import Derived.Test.YtdbnohlignpeaaaStText
import Derived.Deep.Slices
import Derived.Deep.Fields
import Derived.ChangeSame
import Derived.Lib.SmallJoins
import Derived.OpenShut
namespace Go.Proofs.Ytdbnohlignpeaaa.St
open Go.RowKit
section
open Go.ChangeShapes Go.WideShapes Go.Deep
variable {H : Type} {enc : TypeId × Value → H} {w : World} {base b0 : Nat} {spare : Nat → Bool} {held : Bool}
theorem i64_of {n : Int} (h : (Lit.int .i64 n).wf = true) : I64 n := by
  exact bounds_i64 h
/-- an identifier by value -/
def IdVal (_ : World) (v : Value) (x : ID) : Prop := v = .agg #[.int .i64 x.t, .int .i64 x.s] ∧ I64 x.t ∧ I64 x.s
theorem fields_id : ∃ f0 f1 : Field, Try.prog.underlying 23 = some (.struct #[f0, f1]) ∧ oneCellFields Try.prog #[f0, f1] = true ∧ f0.type = 3 ∧ f1.type = 3 :=
  ⟨_, _, Try.underlying23, by kernel_rfl, rfl, rfl⟩
set_option maxRecDepth 100000 in
theorem open_id {r : Reach} {v : Value} {d : DataW H} {ps : List MemPlace} (hv : Value.okWide Try.prog w r b0 23 v)
    (h : DataW.Trod enc Try.prog w base spare held 23 v d ps) : ∃ x, IdVal w v x := by
  obtain ⟨f0, f1, hs, hone, e0, e1⟩ := fields_id
  have hC : Try.prog.cellsOf 23 = 2 := by kernel_rfl
  obtain ⟨c0, c1, y0, y1, m, rfl, rfl, rfl, g0, g1⟩ := Go.Joins.open_agg2 hs hone hC hv h
  rw [e0] at g0
  rw [e1] at g1
  obtain ⟨n0, z0, _, w0⟩ := DataW.trod_int Try.underlying3 g0
  obtain ⟨n1, z1, _, w1⟩ := DataW.trod_int Try.underlying3 g1
  simp at z0 z1
  subst z0 z1
  exact ⟨⟨n0, n1⟩, rfl, i64_of w0, i64_of w1⟩
end
end Go.Proofs.Ytdbnohlignpeaaa.St
