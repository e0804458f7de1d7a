/-
  No cell of these rows narrows 'for every input' (looked for: loops, veiled, ifaces, maps, wideKeys, modest, calm, conditions, laid).
  DERIVED. THE GIVEN ROWS OF THIS SEAT. 4 by the template 'for every input the law returns true; each argument reads behind the call as it read before'; 0 by the template 'total and deterministic' (their statements: YtaaeomapbigfgaaGreatTotals.lean).
  GIVEN WITH THE SEED: the statements are not yours to turn. If you find one false, say at which input.
  Laid BY PROGRAM, IN A SANDBOX (cutbox-rows.mjs): the forced cells as the released guide's own fill.sh prints them over the translation 8c6d3234bedde9b9… (all of the seat's roots in one cut). By AI agents, Wed Nov 11 2026. No macro, syntax, notation, axiom, sorry.
-/
import Derived.Test.YtaaeomapbigfgaaGreatChecked
import GoSem.Claim
import GoSem.ClaimJoined
import GoSem.ClaimMapViews
import Derived.JoinedTies
import Derived.KernelRfl
namespace Go.Proofs.YtaaeomapbigfgaaGreat
/- THE CELL 'sum', in the pinned program and in every row, IS THE sha256 OF THE DUMP (.gsa) THAT YtaaeomapbigfgaaGreatProg.lean LOADS. Nothing in Lean hashes anything: it is a label: what it is worth is what the hold of that sum in a sandbox is worth. -/
noncomputable def Tryz.pinned : Pinned := { name := "ytaaeomapbigfgaagreat", sum := "8c6d3234bedde9b9642a380b6aa8e4d0794a2fe2958bc0a58ec6d168f122cf5d", checked := Tryz.checked }
namespace Rows
def none {H : Type} : Left H := { results := [], args := [] }

/-- 'hearsaylaw13.CausalPlays': WHATEVER THE INPUT: true; the input reads as it did. -/
def causalPlaysSpec : ChangeSpec := { name := "causalPlays", fn := fun _ => fun
  | [d1, d2, d3] => { results := [.lit (.bool true)], args := [d1, d2, d3] }
  | _ => none }
def causalPlaysRow : OpenClaim := { program := "ytaaeomapbigfgaagreat", sum := "8c6d3234bedde9b9642a380b6aa8e4d0794a2fe2958bc0a58ec6d168f122cf5d", func := "hearsay/hearsaylaw13.CausalPlays", spec := "causalPlays", unfollowed := true, recurses := true, apart := false }
def CausalPlaysSaid : Prop := causalPlaysRow.holds Tryz.pinned (OpenSpec.ofChange causalPlaysSpec)

/-- ITS FALSE NEIGHBOUR: 'it returns false'. Refute it at one input. -/
def causalPlaysWrong : ChangeSpec := { name := "causalPlays", fn := fun _ => fun
  | [d1, d2, d3] => { results := [.lit (.bool false)], args := [d1, d2, d3] }
  | _ => none }
def CausalPlaysWrongFalsely : Prop := causalPlaysRow.holds Tryz.pinned (OpenSpec.ofChange causalPlaysWrong)

/-- 'hearsaylaw13.CausalTwo': WHATEVER THE INPUT: true; the input reads as it did. -/
def causalTwoSpec : ChangeSpec := { name := "causalTwo", fn := fun _ => fun
  | [d1, d2, d3] => { results := [.lit (.bool true)], args := [d1, d2, d3] }
  | _ => none }
def causalTwoRow : OpenClaim := { program := "ytaaeomapbigfgaagreat", sum := "8c6d3234bedde9b9642a380b6aa8e4d0794a2fe2958bc0a58ec6d168f122cf5d", func := "hearsay/hearsaylaw13.CausalTwo", spec := "causalTwo", unfollowed := true, recurses := true, apart := false }
def CausalTwoSaid : Prop := causalTwoRow.holds Tryz.pinned (OpenSpec.ofChange causalTwoSpec)

/-- ITS FALSE NEIGHBOUR: 'it returns false'. Refute it at one input. -/
def causalTwoWrong : ChangeSpec := { name := "causalTwo", fn := fun _ => fun
  | [d1, d2, d3] => { results := [.lit (.bool false)], args := [d1, d2, d3] }
  | _ => none }
def CausalTwoWrongFalsely : Prop := causalTwoRow.holds Tryz.pinned (OpenSpec.ofChange causalTwoWrong)

/-- 'hearsaylaw13.CausalNothing': WHATEVER THE INPUT: true; the input reads as it did. -/
def causalNothingSpec : ChangeSpec := { name := "causalNothing", fn := fun _ => fun
  | [d] => { results := [.lit (.bool true)], args := [d] }
  | _ => none }
def causalNothingRow : OpenClaim := { program := "ytaaeomapbigfgaagreat", sum := "8c6d3234bedde9b9642a380b6aa8e4d0794a2fe2958bc0a58ec6d168f122cf5d", func := "hearsay/hearsaylaw13.CausalNothing", spec := "causalNothing", unfollowed := true, recurses := true, apart := false }
def CausalNothingSaid : Prop := causalNothingRow.holds Tryz.pinned (OpenSpec.ofChange causalNothingSpec)

/-- ITS FALSE NEIGHBOUR: 'it returns false'. Refute it at one input. -/
def causalNothingWrong : ChangeSpec := { name := "causalNothing", fn := fun _ => fun
  | [d] => { results := [.lit (.bool false)], args := [d] }
  | _ => none }
def CausalNothingWrongFalsely : Prop := causalNothingRow.holds Tryz.pinned (OpenSpec.ofChange causalNothingWrong)

/-- 'hearsaylaw13.CausalOrder': WHATEVER THE INPUT: true; the input reads as it did. -/
def causalOrderSpec : ChangeSpec := { name := "causalOrder", fn := fun _ => fun
  | [d1, d2, d3] => { results := [.lit (.bool true)], args := [d1, d2, d3] }
  | _ => none }
def causalOrderRow : OpenClaim := { program := "ytaaeomapbigfgaagreat", sum := "8c6d3234bedde9b9642a380b6aa8e4d0794a2fe2958bc0a58ec6d168f122cf5d", func := "hearsay/hearsaylaw13.CausalOrder", spec := "causalOrder", unfollowed := true, recurses := true, apart := false }
def CausalOrderSaid : Prop := causalOrderRow.holds Tryz.pinned (OpenSpec.ofChange causalOrderSpec)

/-- ITS FALSE NEIGHBOUR: 'it returns false'. Refute it at one input. -/
def causalOrderWrong : ChangeSpec := { name := "causalOrder", fn := fun _ => fun
  | [d1, d2, d3] => { results := [.lit (.bool false)], args := [d1, d2, d3] }
  | _ => none }
def CausalOrderWrongFalsely : Prop := causalOrderRow.holds Tryz.pinned (OpenSpec.ofChange causalOrderWrong)

/- THE SECOND FORM. 'bulk': how many values and letters a reading holds, each counted each time it is reached (what is shared counts as often as it is met; a slice's spare places count too). A statement '..UptoSaid' is the law's where the arguments, and the package variables that the reading takes, are together of bulk at most 1048576: NARROWER than '..Said'. Prove '..Said' where nothing that the law and all that it calls make is longer than what came in: it says more and counts as full. Else prove '..UptoSaid'. A law counts once. -/
mutual
def uptoBulk {H : Type} : DataW H → Nat
  | .lit (.string bytes) => bytes.length + 1
  | .lit _ => 1
  | .nil => 1
  | .ptr d => uptoBulk d + 1
  | .slice elems spare => uptoBulkAll elems + uptoBulkAll spare + 1
  | .agg parts => uptoBulkAll parts + 1
  | .iface _ d => uptoBulk d + 1
  | .map entries => uptoBulkEntries entries + 1
  | .held _ => 1
def uptoBulkAll {H : Type} : List (DataW H) → Nat
  | [] => 0
  | d :: r => uptoBulk d + uptoBulkAll r
def uptoBulkEntries {H : Type} : List (Lit × DataW H) → Nat
  | [] => 0
  | x :: r => uptoBulkEntry x + uptoBulkEntries r
def uptoBulkEntry {H : Type} : Lit × DataW H → Nat
  | (.string bytes, d) => bytes.length + uptoBulk d + 1
  | (_, d) => uptoBulk d + 1
 end
def uptoSmall : (H : Type) → List (DataW H) → Bool := fun _ ds => decide (uptoBulkAll ds ≤ 1048576)
def OpenSpec.upto (s : _root_.Go.ChangeSpec) : _root_.Go.OpenSpec := { _root_.Go.OpenSpec.ofChange s with cond := some uptoSmall }

/-- 'hearsaylaw13.CausalPlays', WHERE WHAT IT READS IS OF BULK AT MOST 1048576: true; the input reads as it did. -/
def causalPlaysUptoRow : OpenClaim := { program := "ytaaeomapbigfgaagreat", sum := "8c6d3234bedde9b9642a380b6aa8e4d0794a2fe2958bc0a58ec6d168f122cf5d", func := "hearsay/hearsaylaw13.CausalPlays", spec := "causalPlays", unfollowed := true, recurses := true, apart := false, narrowed := true }
def CausalPlaysUptoSaid : Prop := causalPlaysUptoRow.holds Tryz.pinned (OpenSpec.upto causalPlaysSpec)

/-- 'hearsaylaw13.CausalTwo', WHERE WHAT IT READS IS OF BULK AT MOST 1048576: true; the input reads as it did. -/
def causalTwoUptoRow : OpenClaim := { program := "ytaaeomapbigfgaagreat", sum := "8c6d3234bedde9b9642a380b6aa8e4d0794a2fe2958bc0a58ec6d168f122cf5d", func := "hearsay/hearsaylaw13.CausalTwo", spec := "causalTwo", unfollowed := true, recurses := true, apart := false, narrowed := true }
def CausalTwoUptoSaid : Prop := causalTwoUptoRow.holds Tryz.pinned (OpenSpec.upto causalTwoSpec)

/-- 'hearsaylaw13.CausalNothing', WHERE WHAT IT READS IS OF BULK AT MOST 1048576: true; the input reads as it did. -/
def causalNothingUptoRow : OpenClaim := { program := "ytaaeomapbigfgaagreat", sum := "8c6d3234bedde9b9642a380b6aa8e4d0794a2fe2958bc0a58ec6d168f122cf5d", func := "hearsay/hearsaylaw13.CausalNothing", spec := "causalNothing", unfollowed := true, recurses := true, apart := false, narrowed := true }
def CausalNothingUptoSaid : Prop := causalNothingUptoRow.holds Tryz.pinned (OpenSpec.upto causalNothingSpec)

/-- 'hearsaylaw13.CausalOrder', WHERE WHAT IT READS IS OF BULK AT MOST 1048576: true; the input reads as it did. -/
def causalOrderUptoRow : OpenClaim := { program := "ytaaeomapbigfgaagreat", sum := "8c6d3234bedde9b9642a380b6aa8e4d0794a2fe2958bc0a58ec6d168f122cf5d", func := "hearsay/hearsaylaw13.CausalOrder", spec := "causalOrder", unfollowed := true, recurses := true, apart := false, narrowed := true }
def CausalOrderUptoSaid : Prop := causalOrderUptoRow.holds Tryz.pinned (OpenSpec.upto causalOrderSpec)

end Rows
end Go.Proofs.YtaaeomapbigfgaaGreat
