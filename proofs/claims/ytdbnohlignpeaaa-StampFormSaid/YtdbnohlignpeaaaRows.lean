/-
  No cell of these rows narrows 'for every input' (looked for: loops, veiled, ifaces, maps, wideKeys, modest, calm, conditions, laid).
  DERIVED. THE GIVEN ROWS OF THIS SEAT. 10 by the template 'for every input the law returns true; each argument reads behind the call as it read before'; 0 by the template 'total and deterministic' (their statements: YtdbnohlignpeaaaTotals.lean).
  GIVEN WITH THE SEED: the statements are not yours to turn. If you find one false, say at which input.
  Laid BY PROGRAM, IN A SANDBOX (cutbox-rows.mjs): the forced cells as the released guide's own fill.sh prints them over the translation 6e6ee71ec6826b1d… (all of the seat's roots in one cut). By AI agents, Wed Nov 11 2026. No macro, syntax, notation, axiom, sorry.
-/
import Derived.Test.YtdbnohlignpeaaaChecked
import GoSem.Claim
import GoSem.ClaimJoined
import GoSem.ClaimMapViews
import Derived.JoinedTies
import Derived.KernelRfl
namespace Go.Proofs.Ytdbnohlignpeaaa
/- THE CELL 'sum', in the pinned program and in every row, IS THE sha256 OF THE DUMP (.gsa) THAT YtdbnohlignpeaaaProg.lean LOADS. Nothing in Lean hashes anything: it is a label: what it is worth is what the hold of that sum in a sandbox is worth. -/
noncomputable def Try.pinned : Pinned := { name := "ytdbnohlignpeaaa", sum := "6e6ee71ec6826b1dffd4639afb524e290fe63f46d5e314d1bfc9218de61012c9", checked := Try.checked }
namespace Rows
def none {H : Type} : Left H := { results := [], args := [] }

/-- 'hearsaylaw6.StampCompares': WHATEVER THE INPUT: true; the input reads as it did. -/
def stampComparesSpec : ChangeSpec := { name := "stampCompares", fn := fun _ => fun
  | [d1, d2, d3] => { results := [.lit (.bool true)], args := [d1, d2, d3] }
  | _ => none }
def stampComparesRow : OpenClaim := { program := "ytdbnohlignpeaaa", sum := "6e6ee71ec6826b1dffd4639afb524e290fe63f46d5e314d1bfc9218de61012c9", func := "hearsay/hearsaylaw6.StampCompares", spec := "stampCompares", unfollowed := true, recurses := true, plainKeys := false, apart := false }
def StampComparesSaid : Prop := stampComparesRow.holds Try.pinned (OpenSpec.ofChange stampComparesSpec)

/-- ITS FALSE NEIGHBOUR: 'it returns false'. Refute it at one input. -/
def stampComparesWrong : ChangeSpec := { name := "stampCompares", fn := fun _ => fun
  | [d1, d2, d3] => { results := [.lit (.bool false)], args := [d1, d2, d3] }
  | _ => none }
def StampComparesWrongFalsely : Prop := stampComparesRow.holds Try.pinned (OpenSpec.ofChange stampComparesWrong)

/-- 'hearsaylaw6.StampPacks': WHATEVER THE INPUT: true; the input reads as it did. -/
def stampPacksSpec : ChangeSpec := { name := "stampPacks", fn := fun _ => fun
  | [d1, d2, d3] => { results := [.lit (.bool true)], args := [d1, d2, d3] }
  | _ => none }
def stampPacksRow : OpenClaim := { program := "ytdbnohlignpeaaa", sum := "6e6ee71ec6826b1dffd4639afb524e290fe63f46d5e314d1bfc9218de61012c9", func := "hearsay/hearsaylaw6.StampPacks", spec := "stampPacks", unfollowed := true, recurses := true, plainKeys := false, apart := false }
def StampPacksSaid : Prop := stampPacksRow.holds Try.pinned (OpenSpec.ofChange stampPacksSpec)

/-- ITS FALSE NEIGHBOUR: 'it returns false'. Refute it at one input. -/
def stampPacksWrong : ChangeSpec := { name := "stampPacks", fn := fun _ => fun
  | [d1, d2, d3] => { results := [.lit (.bool false)], args := [d1, d2, d3] }
  | _ => none }
def StampPacksWrongFalsely : Prop := stampPacksRow.holds Try.pinned (OpenSpec.ofChange stampPacksWrong)

/-- 'hearsaylaw6.StampChecks': WHATEVER THE INPUT: true; the input reads as it did. -/
def stampChecksSpec : ChangeSpec := { name := "stampChecks", fn := fun _ => fun
  | [d1, d2] => { results := [.lit (.bool true)], args := [d1, d2] }
  | _ => none }
def stampChecksRow : OpenClaim := { program := "ytdbnohlignpeaaa", sum := "6e6ee71ec6826b1dffd4639afb524e290fe63f46d5e314d1bfc9218de61012c9", func := "hearsay/hearsaylaw6.StampChecks", spec := "stampChecks", unfollowed := true, recurses := true, plainKeys := false, apart := false }
def StampChecksSaid : Prop := stampChecksRow.holds Try.pinned (OpenSpec.ofChange stampChecksSpec)

/-- ITS FALSE NEIGHBOUR: 'it returns false'. Refute it at one input. -/
def stampChecksWrong : ChangeSpec := { name := "stampChecks", fn := fun _ => fun
  | [d1, d2] => { results := [.lit (.bool false)], args := [d1, d2] }
  | _ => none }
def StampChecksWrongFalsely : Prop := stampChecksRow.holds Try.pinned (OpenSpec.ofChange stampChecksWrong)

/-- 'hearsaylaw6.StampOwn': WHATEVER THE INPUT: true; the input reads as it did. -/
def stampOwnSpec : ChangeSpec := { name := "stampOwn", fn := fun _ => fun
  | [d1, d2] => { results := [.lit (.bool true)], args := [d1, d2] }
  | _ => none }
def stampOwnRow : OpenClaim := { program := "ytdbnohlignpeaaa", sum := "6e6ee71ec6826b1dffd4639afb524e290fe63f46d5e314d1bfc9218de61012c9", func := "hearsay/hearsaylaw6.StampOwn", spec := "stampOwn", unfollowed := true, recurses := true, plainKeys := false, apart := false }
def StampOwnSaid : Prop := stampOwnRow.holds Try.pinned (OpenSpec.ofChange stampOwnSpec)

/-- ITS FALSE NEIGHBOUR: 'it returns false'. Refute it at one input. -/
def stampOwnWrong : ChangeSpec := { name := "stampOwn", fn := fun _ => fun
  | [d1, d2] => { results := [.lit (.bool false)], args := [d1, d2] }
  | _ => none }
def StampOwnWrongFalsely : Prop := stampOwnRow.holds Try.pinned (OpenSpec.ofChange stampOwnWrong)

/-- 'hearsaylaw6.StampLays': WHATEVER THE INPUT: true; the input reads as it did. -/
def stampLaysSpec : ChangeSpec := { name := "stampLays", fn := fun _ => fun
  | [d1, d2] => { results := [.lit (.bool true)], args := [d1, d2] }
  | _ => none }
def stampLaysRow : OpenClaim := { program := "ytdbnohlignpeaaa", sum := "6e6ee71ec6826b1dffd4639afb524e290fe63f46d5e314d1bfc9218de61012c9", func := "hearsay/hearsaylaw6.StampLays", spec := "stampLays", unfollowed := true, recurses := true, plainKeys := false, apart := false }
def StampLaysSaid : Prop := stampLaysRow.holds Try.pinned (OpenSpec.ofChange stampLaysSpec)

/-- ITS FALSE NEIGHBOUR: 'it returns false'. Refute it at one input. -/
def stampLaysWrong : ChangeSpec := { name := "stampLays", fn := fun _ => fun
  | [d1, d2] => { results := [.lit (.bool false)], args := [d1, d2] }
  | _ => none }
def StampLaysWrongFalsely : Prop := stampLaysRow.holds Try.pinned (OpenSpec.ofChange stampLaysWrong)

/-- 'hearsaylaw6.StampTakes': WHATEVER THE INPUT: true; the input reads as it did. -/
def stampTakesSpec : ChangeSpec := { name := "stampTakes", fn := fun _ => fun
  | [d1, d2] => { results := [.lit (.bool true)], args := [d1, d2] }
  | _ => none }
def stampTakesRow : OpenClaim := { program := "ytdbnohlignpeaaa", sum := "6e6ee71ec6826b1dffd4639afb524e290fe63f46d5e314d1bfc9218de61012c9", func := "hearsay/hearsaylaw6.StampTakes", spec := "stampTakes", unfollowed := true, recurses := true, plainKeys := false, apart := false }
def StampTakesSaid : Prop := stampTakesRow.holds Try.pinned (OpenSpec.ofChange stampTakesSpec)

/-- ITS FALSE NEIGHBOUR: 'it returns false'. Refute it at one input. -/
def stampTakesWrong : ChangeSpec := { name := "stampTakes", fn := fun _ => fun
  | [d1, d2] => { results := [.lit (.bool false)], args := [d1, d2] }
  | _ => none }
def StampTakesWrongFalsely : Prop := stampTakesRow.holds Try.pinned (OpenSpec.ofChange stampTakesWrong)

/-- 'hearsaylaw6.StampNothing': WHATEVER THE INPUT: true; the input reads as it did. -/
def stampNothingSpec : ChangeSpec := { name := "stampNothing", fn := fun _ => fun
  | [d] => { results := [.lit (.bool true)], args := [d] }
  | _ => none }
def stampNothingRow : OpenClaim := { program := "ytdbnohlignpeaaa", sum := "6e6ee71ec6826b1dffd4639afb524e290fe63f46d5e314d1bfc9218de61012c9", func := "hearsay/hearsaylaw6.StampNothing", spec := "stampNothing", unfollowed := true, recurses := true, plainKeys := false, apart := false }
def StampNothingSaid : Prop := stampNothingRow.holds Try.pinned (OpenSpec.ofChange stampNothingSpec)

/-- ITS FALSE NEIGHBOUR: 'it returns false'. Refute it at one input. -/
def stampNothingWrong : ChangeSpec := { name := "stampNothing", fn := fun _ => fun
  | [d] => { results := [.lit (.bool false)], args := [d] }
  | _ => none }
def StampNothingWrongFalsely : Prop := stampNothingRow.holds Try.pinned (OpenSpec.ofChange stampNothingWrong)

/-- 'hearsaylaw6.StampBack': WHATEVER THE INPUT: true; the input reads as it did. -/
def stampBackSpec : ChangeSpec := { name := "stampBack", fn := fun _ => fun
  | [d1, d2, d3, d4] => { results := [.lit (.bool true)], args := [d1, d2, d3, d4] }
  | _ => none }
def stampBackRow : OpenClaim := { program := "ytdbnohlignpeaaa", sum := "6e6ee71ec6826b1dffd4639afb524e290fe63f46d5e314d1bfc9218de61012c9", func := "hearsay/hearsaylaw6.StampBack", spec := "stampBack", unfollowed := true, recurses := true, plainKeys := false, apart := false }
def StampBackSaid : Prop := stampBackRow.holds Try.pinned (OpenSpec.ofChange stampBackSpec)

/-- ITS FALSE NEIGHBOUR: 'it returns false'. Refute it at one input. -/
def stampBackWrong : ChangeSpec := { name := "stampBack", fn := fun _ => fun
  | [d1, d2, d3, d4] => { results := [.lit (.bool false)], args := [d1, d2, d3, d4] }
  | _ => none }
def StampBackWrongFalsely : Prop := stampBackRow.holds Try.pinned (OpenSpec.ofChange stampBackWrong)

/-- 'hearsaylaw6.StampEachs': WHATEVER THE INPUT: true; the input reads as it did. -/
def stampEachsSpec : ChangeSpec := { name := "stampEachs", fn := fun _ => fun
  | [d1, d2] => { results := [.lit (.bool true)], args := [d1, d2] }
  | _ => none }
def stampEachsRow : OpenClaim := { program := "ytdbnohlignpeaaa", sum := "6e6ee71ec6826b1dffd4639afb524e290fe63f46d5e314d1bfc9218de61012c9", func := "hearsay/hearsaylaw6.StampEachs", spec := "stampEachs", unfollowed := true, recurses := true, plainKeys := false, apart := false }
def StampEachsSaid : Prop := stampEachsRow.holds Try.pinned (OpenSpec.ofChange stampEachsSpec)

/-- ITS FALSE NEIGHBOUR: 'it returns false'. Refute it at one input. -/
def stampEachsWrong : ChangeSpec := { name := "stampEachs", fn := fun _ => fun
  | [d1, d2] => { results := [.lit (.bool false)], args := [d1, d2] }
  | _ => none }
def StampEachsWrongFalsely : Prop := stampEachsRow.holds Try.pinned (OpenSpec.ofChange stampEachsWrong)

/-- 'hearsaylaw6.StampForm': WHATEVER THE INPUT: true; the input reads as it did. -/
def stampFormSpec : ChangeSpec := { name := "stampForm", fn := fun _ => fun
  | [d1, d2] => { results := [.lit (.bool true)], args := [d1, d2] }
  | _ => none }
def stampFormRow : OpenClaim := { program := "ytdbnohlignpeaaa", sum := "6e6ee71ec6826b1dffd4639afb524e290fe63f46d5e314d1bfc9218de61012c9", func := "hearsay/hearsaylaw6.StampForm", spec := "stampForm", unfollowed := true, recurses := true, plainKeys := false, apart := false }
def StampFormSaid : Prop := stampFormRow.holds Try.pinned (OpenSpec.ofChange stampFormSpec)

/-- ITS FALSE NEIGHBOUR: 'it returns false'. Refute it at one input. -/
def stampFormWrong : ChangeSpec := { name := "stampForm", fn := fun _ => fun
  | [d1, d2] => { results := [.lit (.bool false)], args := [d1, d2] }
  | _ => none }
def StampFormWrongFalsely : Prop := stampFormRow.holds Try.pinned (OpenSpec.ofChange stampFormWrong)

/- THE SECOND FORM. 'bulk': how many values and letters a reading holds, each counted each time it is reached (what is shared counts as often as it is met; a slice's spare places count too). A statement '..UptoSaid' is the law's where the arguments, and the package variables that the reading takes, are together of bulk at most 1048576: NARROWER than '..Said'. Prove '..Said' where nothing that the law and all that it calls make is longer than what came in: it says more and counts as full. Else prove '..UptoSaid'. A law counts once. -/
mutual
def uptoBulk {H : Type} : DataW H → Nat
  | .lit (.string bytes) => bytes.length + 1
  | .lit _ => 1
  | .nil => 1
  | .ptr d => uptoBulk d + 1
  | .slice elems spare => uptoBulkAll elems + uptoBulkAll spare + 1
  | .agg parts => uptoBulkAll parts + 1
  | .iface _ d => uptoBulk d + 1
  | .map entries => uptoBulkEntries entries + 1
  | .held _ => 1
def uptoBulkAll {H : Type} : List (DataW H) → Nat
  | [] => 0
  | d :: r => uptoBulk d + uptoBulkAll r
def uptoBulkEntries {H : Type} : List (Lit × DataW H) → Nat
  | [] => 0
  | x :: r => uptoBulkEntry x + uptoBulkEntries r
def uptoBulkEntry {H : Type} : Lit × DataW H → Nat
  | (.string bytes, d) => bytes.length + uptoBulk d + 1
  | (_, d) => uptoBulk d + 1
 end
def uptoSmall : (H : Type) → List (DataW H) → Bool := fun _ ds => decide (uptoBulkAll ds ≤ 1048576)
def OpenSpec.upto (s : _root_.Go.ChangeSpec) : _root_.Go.OpenSpec := { _root_.Go.OpenSpec.ofChange s with cond := some uptoSmall }

/-- 'hearsaylaw6.StampCompares', WHERE WHAT IT READS IS OF BULK AT MOST 1048576: true; the input reads as it did. -/
def stampComparesUptoRow : OpenClaim := { program := "ytdbnohlignpeaaa", sum := "6e6ee71ec6826b1dffd4639afb524e290fe63f46d5e314d1bfc9218de61012c9", func := "hearsay/hearsaylaw6.StampCompares", spec := "stampCompares", unfollowed := true, recurses := true, plainKeys := false, apart := false, narrowed := true }
def StampComparesUptoSaid : Prop := stampComparesUptoRow.holds Try.pinned (OpenSpec.upto stampComparesSpec)

/-- 'hearsaylaw6.StampPacks', WHERE WHAT IT READS IS OF BULK AT MOST 1048576: true; the input reads as it did. -/
def stampPacksUptoRow : OpenClaim := { program := "ytdbnohlignpeaaa", sum := "6e6ee71ec6826b1dffd4639afb524e290fe63f46d5e314d1bfc9218de61012c9", func := "hearsay/hearsaylaw6.StampPacks", spec := "stampPacks", unfollowed := true, recurses := true, plainKeys := false, apart := false, narrowed := true }
def StampPacksUptoSaid : Prop := stampPacksUptoRow.holds Try.pinned (OpenSpec.upto stampPacksSpec)

/-- 'hearsaylaw6.StampChecks', WHERE WHAT IT READS IS OF BULK AT MOST 1048576: true; the input reads as it did. -/
def stampChecksUptoRow : OpenClaim := { program := "ytdbnohlignpeaaa", sum := "6e6ee71ec6826b1dffd4639afb524e290fe63f46d5e314d1bfc9218de61012c9", func := "hearsay/hearsaylaw6.StampChecks", spec := "stampChecks", unfollowed := true, recurses := true, plainKeys := false, apart := false, narrowed := true }
def StampChecksUptoSaid : Prop := stampChecksUptoRow.holds Try.pinned (OpenSpec.upto stampChecksSpec)

/-- 'hearsaylaw6.StampOwn', WHERE WHAT IT READS IS OF BULK AT MOST 1048576: true; the input reads as it did. -/
def stampOwnUptoRow : OpenClaim := { program := "ytdbnohlignpeaaa", sum := "6e6ee71ec6826b1dffd4639afb524e290fe63f46d5e314d1bfc9218de61012c9", func := "hearsay/hearsaylaw6.StampOwn", spec := "stampOwn", unfollowed := true, recurses := true, plainKeys := false, apart := false, narrowed := true }
def StampOwnUptoSaid : Prop := stampOwnUptoRow.holds Try.pinned (OpenSpec.upto stampOwnSpec)

/-- 'hearsaylaw6.StampLays', WHERE WHAT IT READS IS OF BULK AT MOST 1048576: true; the input reads as it did. -/
def stampLaysUptoRow : OpenClaim := { program := "ytdbnohlignpeaaa", sum := "6e6ee71ec6826b1dffd4639afb524e290fe63f46d5e314d1bfc9218de61012c9", func := "hearsay/hearsaylaw6.StampLays", spec := "stampLays", unfollowed := true, recurses := true, plainKeys := false, apart := false, narrowed := true }
def StampLaysUptoSaid : Prop := stampLaysUptoRow.holds Try.pinned (OpenSpec.upto stampLaysSpec)

/-- 'hearsaylaw6.StampTakes', WHERE WHAT IT READS IS OF BULK AT MOST 1048576: true; the input reads as it did. -/
def stampTakesUptoRow : OpenClaim := { program := "ytdbnohlignpeaaa", sum := "6e6ee71ec6826b1dffd4639afb524e290fe63f46d5e314d1bfc9218de61012c9", func := "hearsay/hearsaylaw6.StampTakes", spec := "stampTakes", unfollowed := true, recurses := true, plainKeys := false, apart := false, narrowed := true }
def StampTakesUptoSaid : Prop := stampTakesUptoRow.holds Try.pinned (OpenSpec.upto stampTakesSpec)

/-- 'hearsaylaw6.StampNothing', WHERE WHAT IT READS IS OF BULK AT MOST 1048576: true; the input reads as it did. -/
def stampNothingUptoRow : OpenClaim := { program := "ytdbnohlignpeaaa", sum := "6e6ee71ec6826b1dffd4639afb524e290fe63f46d5e314d1bfc9218de61012c9", func := "hearsay/hearsaylaw6.StampNothing", spec := "stampNothing", unfollowed := true, recurses := true, plainKeys := false, apart := false, narrowed := true }
def StampNothingUptoSaid : Prop := stampNothingUptoRow.holds Try.pinned (OpenSpec.upto stampNothingSpec)

/-- 'hearsaylaw6.StampBack', WHERE WHAT IT READS IS OF BULK AT MOST 1048576: true; the input reads as it did. -/
def stampBackUptoRow : OpenClaim := { program := "ytdbnohlignpeaaa", sum := "6e6ee71ec6826b1dffd4639afb524e290fe63f46d5e314d1bfc9218de61012c9", func := "hearsay/hearsaylaw6.StampBack", spec := "stampBack", unfollowed := true, recurses := true, plainKeys := false, apart := false, narrowed := true }
def StampBackUptoSaid : Prop := stampBackUptoRow.holds Try.pinned (OpenSpec.upto stampBackSpec)

/-- 'hearsaylaw6.StampEachs', WHERE WHAT IT READS IS OF BULK AT MOST 1048576: true; the input reads as it did. -/
def stampEachsUptoRow : OpenClaim := { program := "ytdbnohlignpeaaa", sum := "6e6ee71ec6826b1dffd4639afb524e290fe63f46d5e314d1bfc9218de61012c9", func := "hearsay/hearsaylaw6.StampEachs", spec := "stampEachs", unfollowed := true, recurses := true, plainKeys := false, apart := false, narrowed := true }
def StampEachsUptoSaid : Prop := stampEachsUptoRow.holds Try.pinned (OpenSpec.upto stampEachsSpec)

/-- 'hearsaylaw6.StampForm', WHERE WHAT IT READS IS OF BULK AT MOST 1048576: true; the input reads as it did. -/
def stampFormUptoRow : OpenClaim := { program := "ytdbnohlignpeaaa", sum := "6e6ee71ec6826b1dffd4639afb524e290fe63f46d5e314d1bfc9218de61012c9", func := "hearsay/hearsaylaw6.StampForm", spec := "stampForm", unfollowed := true, recurses := true, plainKeys := false, apart := false, narrowed := true }
def StampFormUptoSaid : Prop := stampFormUptoRow.holds Try.pinned (OpenSpec.upto stampFormSpec)

end Rows
end Go.Proofs.Ytdbnohlignpeaaa
