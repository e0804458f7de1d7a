/-
  NARROWER THAN 'FOR EVERY INPUT', by the rows' own cells (each row's printed sentence says how): PastTells: laid · PastAgain: laid · PastOrder: laid · PastWorld: laid · PastNodes: laid · PastOwn: laid.
  DERIVED. THE GIVEN ROWS OF THIS SEAT. 6 by the template 'for every input the law returns true; each argument reads behind the call as it read before'; 0 by the template 'total and deterministic' (their statements: YtjohljmpcblpjaaGreatDoorTotals.lean).
  GIVEN WITH THE SEED: the statements are not yours to turn. If you find one false, say at which input.
  Laid BY PROGRAM, IN A SANDBOX (cutbox-rows.mjs): the forced cells as the released guide's own fill.sh prints them over the translation df0b0fcdd49b17ea… (all of the seat's roots in one cut). By AI agents, Wed Nov 11 2026. No macro, syntax, notation, axiom, sorry.
-/
import Derived.Test.YtjohljmpcblpjaaGreatDoorChecked
import GoSem.Claim
import GoSem.ClaimJoined
import GoSem.ClaimMapViews
import Derived.JoinedTies
import Derived.KernelRfl
namespace Go.Proofs.YtjohljmpcblpjaaGreatDoor
/- THE CELL 'sum', in the pinned program and in every row, IS THE sha256 OF THE DUMP (.gsa) THAT YtjohljmpcblpjaaGreatDoorProg.lean LOADS. Nothing in Lean hashes anything: it is a label: what it is worth is what the hold of that sum in a sandbox is worth. -/
noncomputable def Tryz.pinned : Pinned := { name := "ytjohljmpcblpjaagreatdoor", sum := "df0b0fcdd49b17ea00354a1902007f1a8f11328d3eb7d9c8eaf7fcc4083ecee9", checked := Tryz.checked }
namespace Rows
def none {H : Type} : Left H := { results := [], args := [] }

/- WHAT THE LISTED PACKAGE-LEVEL VARIABLES READ AS WHEN THE CALL BEGINS. Each datum BY PROGRAM (the guide's laid-datum.mjs) off the statement by which the dump's own 'gosem.cut.vars' lays the variable. In a bare row this is a premise. The card (YtjohljmpcblpjaaGreatDoorCards.lean) ties it to the program's text. -/
def laid_math_bits_deBruijn32tab {H : Type} : DataW H := .agg [.lit (.int .u8 0), .lit (.int .u8 1), .lit (.int .u8 28), .lit (.int .u8 2), .lit (.int .u8 29), .lit (.int .u8 14), .lit (.int .u8 24), .lit (.int .u8 3), .lit (.int .u8 30), .lit (.int .u8 22), .lit (.int .u8 20), .lit (.int .u8 15), .lit (.int .u8 25), .lit (.int .u8 17), .lit (.int .u8 4), .lit (.int .u8 8), .lit (.int .u8 31), .lit (.int .u8 27), .lit (.int .u8 13), .lit (.int .u8 23), .lit (.int .u8 21), .lit (.int .u8 19), .lit (.int .u8 16), .lit (.int .u8 7), .lit (.int .u8 26), .lit (.int .u8 12), .lit (.int .u8 18), .lit (.int .u8 6), .lit (.int .u8 11), .lit (.int .u8 5), .lit (.int .u8 10), .lit (.int .u8 9)]

/-- 'hearsaylaw24.PastTells': WHATEVER THE INPUT: true; the input reads as it did. -/
def pastTellsSpec : ChangeSpec := { name := "pastTells", fn := fun _ => fun
  | [d1, d2] => { results := [.lit (.bool true)], args := [d1, d2] }
  | _ => none }
def pastTellsRow : OpenClaim := { program := "ytjohljmpcblpjaagreatdoor", sum := "df0b0fcdd49b17ea00354a1902007f1a8f11328d3eb7d9c8eaf7fcc4083ecee9", func := "hearsay/hearsaylaw24.PastTells", spec := "pastTells", inPlace := ["slices.overlaps[*hearsay/tree.element]", "internal/abi.NoEscape"], unfollowed := true, recurses := true, named := ["math/bits.deBruijn32tab"], plainKeys := false, apart := false, laid := [("math/bits.deBruijn32tab", laid_math_bits_deBruijn32tab)] }
def PastTellsSaid : Prop := pastTellsRow.holds Tryz.pinned (OpenSpec.ofChange pastTellsSpec)

/-- ITS FALSE NEIGHBOUR: 'it returns false'. Refute it at one input. -/
def pastTellsWrong : ChangeSpec := { name := "pastTells", fn := fun _ => fun
  | [d1, d2] => { results := [.lit (.bool false)], args := [d1, d2] }
  | _ => none }
def PastTellsWrongFalsely : Prop := pastTellsRow.holds Tryz.pinned (OpenSpec.ofChange pastTellsWrong)

/-- 'hearsaylaw24.PastAgain': WHATEVER THE INPUT: true; the input reads as it did. -/
def pastAgainSpec : ChangeSpec := { name := "pastAgain", fn := fun _ => fun
  | [d1, d2, d3, d4] => { results := [.lit (.bool true)], args := [d1, d2, d3, d4] }
  | _ => none }
def pastAgainRow : OpenClaim := { program := "ytjohljmpcblpjaagreatdoor", sum := "df0b0fcdd49b17ea00354a1902007f1a8f11328d3eb7d9c8eaf7fcc4083ecee9", func := "hearsay/hearsaylaw24.PastAgain", spec := "pastAgain", inPlace := ["slices.overlaps[*hearsay/tree.element]", "internal/abi.NoEscape"], unfollowed := true, recurses := true, named := ["math/bits.deBruijn32tab"], plainKeys := false, apart := false, laid := [("math/bits.deBruijn32tab", laid_math_bits_deBruijn32tab)] }
def PastAgainSaid : Prop := pastAgainRow.holds Tryz.pinned (OpenSpec.ofChange pastAgainSpec)

/-- ITS FALSE NEIGHBOUR: 'it returns false'. Refute it at one input. -/
def pastAgainWrong : ChangeSpec := { name := "pastAgain", fn := fun _ => fun
  | [d1, d2, d3, d4] => { results := [.lit (.bool false)], args := [d1, d2, d3, d4] }
  | _ => none }
def PastAgainWrongFalsely : Prop := pastAgainRow.holds Tryz.pinned (OpenSpec.ofChange pastAgainWrong)

/-- 'hearsaylaw24.PastOrder': WHATEVER THE INPUT: true; the input reads as it did. -/
def pastOrderSpec : ChangeSpec := { name := "pastOrder", fn := fun _ => fun
  | [d1, d2, d3] => { results := [.lit (.bool true)], args := [d1, d2, d3] }
  | _ => none }
def pastOrderRow : OpenClaim := { program := "ytjohljmpcblpjaagreatdoor", sum := "df0b0fcdd49b17ea00354a1902007f1a8f11328d3eb7d9c8eaf7fcc4083ecee9", func := "hearsay/hearsaylaw24.PastOrder", spec := "pastOrder", inPlace := ["slices.overlaps[*hearsay/tree.element]", "internal/abi.NoEscape"], unfollowed := true, recurses := true, named := ["math/bits.deBruijn32tab"], plainKeys := false, apart := false, laid := [("math/bits.deBruijn32tab", laid_math_bits_deBruijn32tab)] }
def PastOrderSaid : Prop := pastOrderRow.holds Tryz.pinned (OpenSpec.ofChange pastOrderSpec)

/-- ITS FALSE NEIGHBOUR: 'it returns false'. Refute it at one input. -/
def pastOrderWrong : ChangeSpec := { name := "pastOrder", fn := fun _ => fun
  | [d1, d2, d3] => { results := [.lit (.bool false)], args := [d1, d2, d3] }
  | _ => none }
def PastOrderWrongFalsely : Prop := pastOrderRow.holds Tryz.pinned (OpenSpec.ofChange pastOrderWrong)

/-- 'hearsaylaw24.PastWorld': WHATEVER THE INPUT: true; the input reads as it did. -/
def pastWorldSpec : ChangeSpec := { name := "pastWorld", fn := fun _ => fun
  | [d] => { results := [.lit (.bool true)], args := [d] }
  | _ => none }
def pastWorldRow : OpenClaim := { program := "ytjohljmpcblpjaagreatdoor", sum := "df0b0fcdd49b17ea00354a1902007f1a8f11328d3eb7d9c8eaf7fcc4083ecee9", func := "hearsay/hearsaylaw24.PastWorld", spec := "pastWorld", inPlace := ["slices.overlaps[*hearsay/tree.element]", "internal/abi.NoEscape"], unfollowed := true, recurses := true, named := ["math/bits.deBruijn32tab"], plainKeys := false, apart := false, laid := [("math/bits.deBruijn32tab", laid_math_bits_deBruijn32tab)] }
def PastWorldSaid : Prop := pastWorldRow.holds Tryz.pinned (OpenSpec.ofChange pastWorldSpec)

/-- ITS FALSE NEIGHBOUR: 'it returns false'. Refute it at one input. -/
def pastWorldWrong : ChangeSpec := { name := "pastWorld", fn := fun _ => fun
  | [d] => { results := [.lit (.bool false)], args := [d] }
  | _ => none }
def PastWorldWrongFalsely : Prop := pastWorldRow.holds Tryz.pinned (OpenSpec.ofChange pastWorldWrong)

/-- 'hearsaylaw24.PastNodes': WHATEVER THE INPUT: true; the input reads as it did. -/
def pastNodesSpec : ChangeSpec := { name := "pastNodes", fn := fun _ => fun
  | [d1, d2, d3] => { results := [.lit (.bool true)], args := [d1, d2, d3] }
  | _ => none }
def pastNodesRow : OpenClaim := { program := "ytjohljmpcblpjaagreatdoor", sum := "df0b0fcdd49b17ea00354a1902007f1a8f11328d3eb7d9c8eaf7fcc4083ecee9", func := "hearsay/hearsaylaw24.PastNodes", spec := "pastNodes", inPlace := ["slices.overlaps[*hearsay/tree.element]", "internal/abi.NoEscape"], unfollowed := true, recurses := true, named := ["math/bits.deBruijn32tab"], plainKeys := false, apart := false, laid := [("math/bits.deBruijn32tab", laid_math_bits_deBruijn32tab)] }
def PastNodesSaid : Prop := pastNodesRow.holds Tryz.pinned (OpenSpec.ofChange pastNodesSpec)

/-- ITS FALSE NEIGHBOUR: 'it returns false'. Refute it at one input. -/
def pastNodesWrong : ChangeSpec := { name := "pastNodes", fn := fun _ => fun
  | [d1, d2, d3] => { results := [.lit (.bool false)], args := [d1, d2, d3] }
  | _ => none }
def PastNodesWrongFalsely : Prop := pastNodesRow.holds Tryz.pinned (OpenSpec.ofChange pastNodesWrong)

/-- 'hearsaylaw24.PastOwn': WHATEVER THE INPUT: true; the input reads as it did. -/
def pastOwnSpec : ChangeSpec := { name := "pastOwn", fn := fun _ => fun
  | [d] => { results := [.lit (.bool true)], args := [d] }
  | _ => none }
def pastOwnRow : OpenClaim := { program := "ytjohljmpcblpjaagreatdoor", sum := "df0b0fcdd49b17ea00354a1902007f1a8f11328d3eb7d9c8eaf7fcc4083ecee9", func := "hearsay/hearsaylaw24.PastOwn", spec := "pastOwn", inPlace := ["slices.overlaps[*hearsay/tree.element]", "internal/abi.NoEscape"], unfollowed := true, recurses := true, named := ["math/bits.deBruijn32tab"], plainKeys := false, apart := false, laid := [("math/bits.deBruijn32tab", laid_math_bits_deBruijn32tab)] }
def PastOwnSaid : Prop := pastOwnRow.holds Tryz.pinned (OpenSpec.ofChange pastOwnSpec)

/-- ITS FALSE NEIGHBOUR: 'it returns false'. Refute it at one input. -/
def pastOwnWrong : ChangeSpec := { name := "pastOwn", fn := fun _ => fun
  | [d] => { results := [.lit (.bool false)], args := [d] }
  | _ => none }
def PastOwnWrongFalsely : Prop := pastOwnRow.holds Tryz.pinned (OpenSpec.ofChange pastOwnWrong)

/- THE SECOND FORM. 'bulk': how many values and letters a reading holds, each counted each time it is reached (what is shared counts as often as it is met; a slice's spare places count too). A statement '..UptoSaid' is the law's where the arguments, and the package variables that the reading takes, are together of bulk at most 1048576: NARROWER than '..Said'. Prove '..Said' where nothing that the law and all that it calls make is longer than what came in: it says more and counts as full. Else prove '..UptoSaid'. A law counts once. -/
mutual
def uptoBulk {H : Type} : DataW H → Nat
  | .lit (.string bytes) => bytes.length + 1
  | .lit _ => 1
  | .nil => 1
  | .ptr d => uptoBulk d + 1
  | .slice elems spare => uptoBulkAll elems + uptoBulkAll spare + 1
  | .agg parts => uptoBulkAll parts + 1
  | .iface _ d => uptoBulk d + 1
  | .map entries => uptoBulkEntries entries + 1
  | .held _ => 1
def uptoBulkAll {H : Type} : List (DataW H) → Nat
  | [] => 0
  | d :: r => uptoBulk d + uptoBulkAll r
def uptoBulkEntries {H : Type} : List (Lit × DataW H) → Nat
  | [] => 0
  | x :: r => uptoBulkEntry x + uptoBulkEntries r
def uptoBulkEntry {H : Type} : Lit × DataW H → Nat
  | (.string bytes, d) => bytes.length + uptoBulk d + 1
  | (_, d) => uptoBulk d + 1
 end
def uptoSmall : (H : Type) → List (DataW H) → Bool := fun _ ds => decide (uptoBulkAll ds ≤ 1048576)
def OpenSpec.upto (s : _root_.Go.ChangeSpec) : _root_.Go.OpenSpec := { _root_.Go.OpenSpec.ofChange s with cond := some uptoSmall }

/-- 'hearsaylaw24.PastTells', WHERE WHAT IT READS IS OF BULK AT MOST 1048576: true; the input reads as it did. -/
def pastTellsUptoRow : OpenClaim := { program := "ytjohljmpcblpjaagreatdoor", sum := "df0b0fcdd49b17ea00354a1902007f1a8f11328d3eb7d9c8eaf7fcc4083ecee9", func := "hearsay/hearsaylaw24.PastTells", spec := "pastTells", inPlace := ["slices.overlaps[*hearsay/tree.element]", "internal/abi.NoEscape"], unfollowed := true, recurses := true, named := ["math/bits.deBruijn32tab"], plainKeys := false, apart := false, laid := [("math/bits.deBruijn32tab", laid_math_bits_deBruijn32tab)], narrowed := true }
def PastTellsUptoSaid : Prop := pastTellsUptoRow.holds Tryz.pinned (OpenSpec.upto pastTellsSpec)

/-- 'hearsaylaw24.PastAgain', WHERE WHAT IT READS IS OF BULK AT MOST 1048576: true; the input reads as it did. -/
def pastAgainUptoRow : OpenClaim := { program := "ytjohljmpcblpjaagreatdoor", sum := "df0b0fcdd49b17ea00354a1902007f1a8f11328d3eb7d9c8eaf7fcc4083ecee9", func := "hearsay/hearsaylaw24.PastAgain", spec := "pastAgain", inPlace := ["slices.overlaps[*hearsay/tree.element]", "internal/abi.NoEscape"], unfollowed := true, recurses := true, named := ["math/bits.deBruijn32tab"], plainKeys := false, apart := false, laid := [("math/bits.deBruijn32tab", laid_math_bits_deBruijn32tab)], narrowed := true }
def PastAgainUptoSaid : Prop := pastAgainUptoRow.holds Tryz.pinned (OpenSpec.upto pastAgainSpec)

/-- 'hearsaylaw24.PastOrder', WHERE WHAT IT READS IS OF BULK AT MOST 1048576: true; the input reads as it did. -/
def pastOrderUptoRow : OpenClaim := { program := "ytjohljmpcblpjaagreatdoor", sum := "df0b0fcdd49b17ea00354a1902007f1a8f11328d3eb7d9c8eaf7fcc4083ecee9", func := "hearsay/hearsaylaw24.PastOrder", spec := "pastOrder", inPlace := ["slices.overlaps[*hearsay/tree.element]", "internal/abi.NoEscape"], unfollowed := true, recurses := true, named := ["math/bits.deBruijn32tab"], plainKeys := false, apart := false, laid := [("math/bits.deBruijn32tab", laid_math_bits_deBruijn32tab)], narrowed := true }
def PastOrderUptoSaid : Prop := pastOrderUptoRow.holds Tryz.pinned (OpenSpec.upto pastOrderSpec)

/-- 'hearsaylaw24.PastWorld', WHERE WHAT IT READS IS OF BULK AT MOST 1048576: true; the input reads as it did. -/
def pastWorldUptoRow : OpenClaim := { program := "ytjohljmpcblpjaagreatdoor", sum := "df0b0fcdd49b17ea00354a1902007f1a8f11328d3eb7d9c8eaf7fcc4083ecee9", func := "hearsay/hearsaylaw24.PastWorld", spec := "pastWorld", inPlace := ["slices.overlaps[*hearsay/tree.element]", "internal/abi.NoEscape"], unfollowed := true, recurses := true, named := ["math/bits.deBruijn32tab"], plainKeys := false, apart := false, laid := [("math/bits.deBruijn32tab", laid_math_bits_deBruijn32tab)], narrowed := true }
def PastWorldUptoSaid : Prop := pastWorldUptoRow.holds Tryz.pinned (OpenSpec.upto pastWorldSpec)

/-- 'hearsaylaw24.PastNodes', WHERE WHAT IT READS IS OF BULK AT MOST 1048576: true; the input reads as it did. -/
def pastNodesUptoRow : OpenClaim := { program := "ytjohljmpcblpjaagreatdoor", sum := "df0b0fcdd49b17ea00354a1902007f1a8f11328d3eb7d9c8eaf7fcc4083ecee9", func := "hearsay/hearsaylaw24.PastNodes", spec := "pastNodes", inPlace := ["slices.overlaps[*hearsay/tree.element]", "internal/abi.NoEscape"], unfollowed := true, recurses := true, named := ["math/bits.deBruijn32tab"], plainKeys := false, apart := false, laid := [("math/bits.deBruijn32tab", laid_math_bits_deBruijn32tab)], narrowed := true }
def PastNodesUptoSaid : Prop := pastNodesUptoRow.holds Tryz.pinned (OpenSpec.upto pastNodesSpec)

/-- 'hearsaylaw24.PastOwn', WHERE WHAT IT READS IS OF BULK AT MOST 1048576: true; the input reads as it did. -/
def pastOwnUptoRow : OpenClaim := { program := "ytjohljmpcblpjaagreatdoor", sum := "df0b0fcdd49b17ea00354a1902007f1a8f11328d3eb7d9c8eaf7fcc4083ecee9", func := "hearsay/hearsaylaw24.PastOwn", spec := "pastOwn", inPlace := ["slices.overlaps[*hearsay/tree.element]", "internal/abi.NoEscape"], unfollowed := true, recurses := true, named := ["math/bits.deBruijn32tab"], plainKeys := false, apart := false, laid := [("math/bits.deBruijn32tab", laid_math_bits_deBruijn32tab)], narrowed := true }
def PastOwnUptoSaid : Prop := pastOwnUptoRow.holds Tryz.pinned (OpenSpec.upto pastOwnSpec)

end Rows
end Go.Proofs.YtjohljmpcblpjaaGreatDoor
