/-
  No cell of these rows narrows 'for every input' (looked for: loops, veiled, ifaces, maps, wideKeys, modest, calm, conditions, laid).
  DERIVED. THE GIVEN ROWS OF THIS SEAT. 5 by the template 'for every input the law returns true; each argument reads behind the call as it read before'; 0 by the template 'total and deterministic' (their statements: YtlafodnaifghcaaTotals.lean).
  GIVEN WITH THE SEED: the statements are not yours to turn. If you find one false, say at which input.
  Laid BY PROGRAM, IN A SANDBOX (cutbox-rows.mjs): the forced cells as the released guide's own fill.sh prints them over the translation 61ca65730455710f… (all of the seat's roots in one cut). By AI agents, Wed Nov 11 2026. No macro, syntax, notation, axiom, sorry.
-/
import Derived.Test.YtlafodnaifghcaaChecked
import GoSem.Claim
import GoSem.ClaimJoined
import GoSem.ClaimMapViews
import Derived.JoinedTies
import Derived.KernelRfl
namespace Go.Proofs.Ytlafodnaifghcaa
/- THE CELL 'sum', in the pinned program and in every row, IS THE sha256 OF THE DUMP (.gsa) THAT YtlafodnaifghcaaProg.lean LOADS. Nothing in Lean hashes anything: it is a label: what it is worth is what the hold of that sum in a sandbox is worth. -/
noncomputable def Try.pinned : Pinned := { name := "ytlafodnaifghcaa", sum := "61ca65730455710f4a7333d05691d35aff2afa7beb5208c7b6b940041918db66", checked := Try.checked }
namespace Rows
def none {H : Type} : Left H := { results := [], args := [] }

/-- 'hearsaylaw11.TreeNothing': WHATEVER THE INPUT: true; the input reads as it did. -/
def treeNothingSpec : ChangeSpec := { name := "treeNothing", fn := fun _ => fun
  | [d] => { results := [.lit (.bool true)], args := [d] }
  | _ => none }
def treeNothingRow : OpenClaim := { program := "ytlafodnaifghcaa", sum := "61ca65730455710f4a7333d05691d35aff2afa7beb5208c7b6b940041918db66", func := "hearsay/hearsaylaw11.TreeNothing", spec := "treeNothing", inPlace := ["slices.overlaps[*hearsay/tree.element]", "internal/abi.NoEscape"], unfollowed := true, recurses := true, plainKeys := false, apart := false }
def TreeNothingSaid : Prop := treeNothingRow.holds Try.pinned (OpenSpec.ofChange treeNothingSpec)

/-- ITS FALSE NEIGHBOUR: 'it returns false'. Refute it at one input. -/
def treeNothingWrong : ChangeSpec := { name := "treeNothing", fn := fun _ => fun
  | [d] => { results := [.lit (.bool false)], args := [d] }
  | _ => none }
def TreeNothingWrongFalsely : Prop := treeNothingRow.holds Try.pinned (OpenSpec.ofChange treeNothingWrong)

/-- 'hearsaylaw11.TreeSame': WHATEVER THE INPUT: true; the input reads as it did. -/
def treeSameSpec : ChangeSpec := { name := "treeSame", fn := fun _ => fun
  | [d1, d2, d3, d4] => { results := [.lit (.bool true)], args := [d1, d2, d3, d4] }
  | _ => none }
def treeSameRow : OpenClaim := { program := "ytlafodnaifghcaa", sum := "61ca65730455710f4a7333d05691d35aff2afa7beb5208c7b6b940041918db66", func := "hearsay/hearsaylaw11.TreeSame", spec := "treeSame", inPlace := ["internal/abi.NoEscape", "slices.overlaps[*hearsay/tree.element]"], unfollowed := true, recurses := true, plainKeys := false, apart := false }
def TreeSameSaid : Prop := treeSameRow.holds Try.pinned (OpenSpec.ofChange treeSameSpec)

/-- ITS FALSE NEIGHBOUR: 'it returns false'. Refute it at one input. -/
def treeSameWrong : ChangeSpec := { name := "treeSame", fn := fun _ => fun
  | [d1, d2, d3, d4] => { results := [.lit (.bool false)], args := [d1, d2, d3, d4] }
  | _ => none }
def TreeSameWrongFalsely : Prop := treeSameRow.holds Try.pinned (OpenSpec.ofChange treeSameWrong)

/-- 'hearsaylaw11.TreeOwn': WHATEVER THE INPUT: true; the input reads as it did. -/
def treeOwnSpec : ChangeSpec := { name := "treeOwn", fn := fun _ => fun
  | [d1, d2] => { results := [.lit (.bool true)], args := [d1, d2] }
  | _ => none }
def treeOwnRow : OpenClaim := { program := "ytlafodnaifghcaa", sum := "61ca65730455710f4a7333d05691d35aff2afa7beb5208c7b6b940041918db66", func := "hearsay/hearsaylaw11.TreeOwn", spec := "treeOwn", inPlace := ["internal/abi.NoEscape", "slices.overlaps[*hearsay/tree.element]"], unfollowed := true, recurses := true, plainKeys := false, apart := false }
def TreeOwnSaid : Prop := treeOwnRow.holds Try.pinned (OpenSpec.ofChange treeOwnSpec)

/-- ITS FALSE NEIGHBOUR: 'it returns false'. Refute it at one input. -/
def treeOwnWrong : ChangeSpec := { name := "treeOwn", fn := fun _ => fun
  | [d1, d2] => { results := [.lit (.bool false)], args := [d1, d2] }
  | _ => none }
def TreeOwnWrongFalsely : Prop := treeOwnRow.holds Try.pinned (OpenSpec.ofChange treeOwnWrong)

/-- 'hearsaylaw11.TreeJust': WHATEVER THE INPUT: true; the input reads as it did. -/
def treeJustSpec : ChangeSpec := { name := "treeJust", fn := fun _ => fun
  | [d1, d2, d3, d4] => { results := [.lit (.bool true)], args := [d1, d2, d3, d4] }
  | _ => none }
def treeJustRow : OpenClaim := { program := "ytlafodnaifghcaa", sum := "61ca65730455710f4a7333d05691d35aff2afa7beb5208c7b6b940041918db66", func := "hearsay/hearsaylaw11.TreeJust", spec := "treeJust", inPlace := ["internal/abi.NoEscape", "slices.overlaps[*hearsay/tree.element]"], unfollowed := true, recurses := true, plainKeys := false, apart := false }
def TreeJustSaid : Prop := treeJustRow.holds Try.pinned (OpenSpec.ofChange treeJustSpec)

/-- ITS FALSE NEIGHBOUR: 'it returns false'. Refute it at one input. -/
def treeJustWrong : ChangeSpec := { name := "treeJust", fn := fun _ => fun
  | [d1, d2, d3, d4] => { results := [.lit (.bool false)], args := [d1, d2, d3, d4] }
  | _ => none }
def TreeJustWrongFalsely : Prop := treeJustRow.holds Try.pinned (OpenSpec.ofChange treeJustWrong)

/-- 'hearsaylaw11.TreeForgets': WHATEVER THE INPUT: true; the input reads as it did. -/
def treeForgetsSpec : ChangeSpec := { name := "treeForgets", fn := fun _ => fun
  | [d1, d2, d3, d4] => { results := [.lit (.bool true)], args := [d1, d2, d3, d4] }
  | _ => none }
def treeForgetsRow : OpenClaim := { program := "ytlafodnaifghcaa", sum := "61ca65730455710f4a7333d05691d35aff2afa7beb5208c7b6b940041918db66", func := "hearsay/hearsaylaw11.TreeForgets", spec := "treeForgets", inPlace := ["internal/abi.NoEscape", "slices.overlaps[*hearsay/tree.element]"], unfollowed := true, recurses := true, plainKeys := false, apart := false }
def TreeForgetsSaid : Prop := treeForgetsRow.holds Try.pinned (OpenSpec.ofChange treeForgetsSpec)

/-- ITS FALSE NEIGHBOUR: 'it returns false'. Refute it at one input. -/
def treeForgetsWrong : ChangeSpec := { name := "treeForgets", fn := fun _ => fun
  | [d1, d2, d3, d4] => { results := [.lit (.bool false)], args := [d1, d2, d3, d4] }
  | _ => none }
def TreeForgetsWrongFalsely : Prop := treeForgetsRow.holds Try.pinned (OpenSpec.ofChange treeForgetsWrong)

/- THE SECOND FORM. 'bulk': how many values and letters a reading holds, each counted each time it is reached (what is shared counts as often as it is met; a slice's spare places count too). A statement '..UptoSaid' is the law's where the arguments, and the package variables that the reading takes, are together of bulk at most 1048576: NARROWER than '..Said'. Prove '..Said' where nothing that the law and all that it calls make is longer than what came in: it says more and counts as full. Else prove '..UptoSaid'. A law counts once. -/
mutual
def uptoBulk {H : Type} : DataW H → Nat
  | .lit (.string bytes) => bytes.length + 1
  | .lit _ => 1
  | .nil => 1
  | .ptr d => uptoBulk d + 1
  | .slice elems spare => uptoBulkAll elems + uptoBulkAll spare + 1
  | .agg parts => uptoBulkAll parts + 1
  | .iface _ d => uptoBulk d + 1
  | .map entries => uptoBulkEntries entries + 1
  | .held _ => 1
def uptoBulkAll {H : Type} : List (DataW H) → Nat
  | [] => 0
  | d :: r => uptoBulk d + uptoBulkAll r
def uptoBulkEntries {H : Type} : List (Lit × DataW H) → Nat
  | [] => 0
  | x :: r => uptoBulkEntry x + uptoBulkEntries r
def uptoBulkEntry {H : Type} : Lit × DataW H → Nat
  | (.string bytes, d) => bytes.length + uptoBulk d + 1
  | (_, d) => uptoBulk d + 1
 end
def uptoSmall : (H : Type) → List (DataW H) → Bool := fun _ ds => decide (uptoBulkAll ds ≤ 1048576)
def OpenSpec.upto (s : _root_.Go.ChangeSpec) : _root_.Go.OpenSpec := { _root_.Go.OpenSpec.ofChange s with cond := some uptoSmall }

/-- 'hearsaylaw11.TreeNothing', WHERE WHAT IT READS IS OF BULK AT MOST 1048576: true; the input reads as it did. -/
def treeNothingUptoRow : OpenClaim := { program := "ytlafodnaifghcaa", sum := "61ca65730455710f4a7333d05691d35aff2afa7beb5208c7b6b940041918db66", func := "hearsay/hearsaylaw11.TreeNothing", spec := "treeNothing", inPlace := ["slices.overlaps[*hearsay/tree.element]", "internal/abi.NoEscape"], unfollowed := true, recurses := true, plainKeys := false, apart := false, narrowed := true }
def TreeNothingUptoSaid : Prop := treeNothingUptoRow.holds Try.pinned (OpenSpec.upto treeNothingSpec)

/-- 'hearsaylaw11.TreeSame', WHERE WHAT IT READS IS OF BULK AT MOST 1048576: true; the input reads as it did. -/
def treeSameUptoRow : OpenClaim := { program := "ytlafodnaifghcaa", sum := "61ca65730455710f4a7333d05691d35aff2afa7beb5208c7b6b940041918db66", func := "hearsay/hearsaylaw11.TreeSame", spec := "treeSame", inPlace := ["internal/abi.NoEscape", "slices.overlaps[*hearsay/tree.element]"], unfollowed := true, recurses := true, plainKeys := false, apart := false, narrowed := true }
def TreeSameUptoSaid : Prop := treeSameUptoRow.holds Try.pinned (OpenSpec.upto treeSameSpec)

/-- 'hearsaylaw11.TreeOwn', WHERE WHAT IT READS IS OF BULK AT MOST 1048576: true; the input reads as it did. -/
def treeOwnUptoRow : OpenClaim := { program := "ytlafodnaifghcaa", sum := "61ca65730455710f4a7333d05691d35aff2afa7beb5208c7b6b940041918db66", func := "hearsay/hearsaylaw11.TreeOwn", spec := "treeOwn", inPlace := ["internal/abi.NoEscape", "slices.overlaps[*hearsay/tree.element]"], unfollowed := true, recurses := true, plainKeys := false, apart := false, narrowed := true }
def TreeOwnUptoSaid : Prop := treeOwnUptoRow.holds Try.pinned (OpenSpec.upto treeOwnSpec)

/-- 'hearsaylaw11.TreeJust', WHERE WHAT IT READS IS OF BULK AT MOST 1048576: true; the input reads as it did. -/
def treeJustUptoRow : OpenClaim := { program := "ytlafodnaifghcaa", sum := "61ca65730455710f4a7333d05691d35aff2afa7beb5208c7b6b940041918db66", func := "hearsay/hearsaylaw11.TreeJust", spec := "treeJust", inPlace := ["internal/abi.NoEscape", "slices.overlaps[*hearsay/tree.element]"], unfollowed := true, recurses := true, plainKeys := false, apart := false, narrowed := true }
def TreeJustUptoSaid : Prop := treeJustUptoRow.holds Try.pinned (OpenSpec.upto treeJustSpec)

/-- 'hearsaylaw11.TreeForgets', WHERE WHAT IT READS IS OF BULK AT MOST 1048576: true; the input reads as it did. -/
def treeForgetsUptoRow : OpenClaim := { program := "ytlafodnaifghcaa", sum := "61ca65730455710f4a7333d05691d35aff2afa7beb5208c7b6b940041918db66", func := "hearsay/hearsaylaw11.TreeForgets", spec := "treeForgets", inPlace := ["internal/abi.NoEscape", "slices.overlaps[*hearsay/tree.element]"], unfollowed := true, recurses := true, plainKeys := false, apart := false, narrowed := true }
def TreeForgetsUptoSaid : Prop := treeForgetsUptoRow.holds Try.pinned (OpenSpec.upto treeForgetsSpec)

end Rows
end Go.Proofs.Ytlafodnaifghcaa
