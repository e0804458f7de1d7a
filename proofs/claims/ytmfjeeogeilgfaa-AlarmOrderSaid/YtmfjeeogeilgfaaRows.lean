/-
  No cell of these rows narrows 'for every input' (looked for: loops, veiled, ifaces, maps, wideKeys, modest, calm, conditions, laid).
  DERIVED. THE GIVEN ROWS OF THIS SEAT. 6 by the template 'for every input the law returns true; each argument reads behind the call as it read before'; 0 by the template 'total and deterministic' (their statements: YtmfjeeogeilgfaaTotals.lean).
  GIVEN WITH THE SEED: the statements are not yours to turn. If you find one false, say at which input.
  Laid BY PROGRAM, IN A SANDBOX (cutbox-rows.mjs): the forced cells as the released guide's own fill.sh prints them over the translation 275c37bf94d19eea… (all of the seat's roots in one cut). By AI agents, Wed Nov 11 2026. No macro, syntax, notation, axiom, sorry.
-/
import Derived.Test.YtmfjeeogeilgfaaChecked
import GoSem.Claim
import GoSem.ClaimJoined
import GoSem.ClaimMapViews
import Derived.JoinedTies
import Derived.KernelRfl
namespace Go.Proofs.Ytmfjeeogeilgfaa
/- THE CELL 'sum', in the pinned program and in every row, IS THE sha256 OF THE DUMP (.gsa) THAT YtmfjeeogeilgfaaProg.lean LOADS. Nothing in Lean hashes anything: it is a label: what it is worth is what the hold of that sum in a sandbox is worth. -/
noncomputable def Try.pinned : Pinned := { name := "ytmfjeeogeilgfaa", sum := "275c37bf94d19eea352104598c5159cf87b88740d451a1f6f60badd0d6401b50", checked := Try.checked }
namespace Rows
def none {H : Type} : Left H := { results := [], args := [] }

/-- 'hearsaylaw15.AlarmNews': WHATEVER THE INPUT: true; the input reads as it did. -/
def alarmNewsSpec : ChangeSpec := { name := "alarmNews", fn := fun _ => fun
  | [d1, d2] => { results := [.lit (.bool true)], args := [d1, d2] }
  | _ => none }
def alarmNewsRow : OpenClaim := { program := "ytmfjeeogeilgfaa", sum := "275c37bf94d19eea352104598c5159cf87b88740d451a1f6f60badd0d6401b50", func := "hearsay/hearsaylaw15.AlarmNews", spec := "alarmNews", unfollowed := true, recurses := true, apart := false }
def AlarmNewsSaid : Prop := alarmNewsRow.holds Try.pinned (OpenSpec.ofChange alarmNewsSpec)

/-- ITS FALSE NEIGHBOUR: 'it returns false'. Refute it at one input. -/
def alarmNewsWrong : ChangeSpec := { name := "alarmNews", fn := fun _ => fun
  | [d1, d2] => { results := [.lit (.bool false)], args := [d1, d2] }
  | _ => none }
def AlarmNewsWrongFalsely : Prop := alarmNewsRow.holds Try.pinned (OpenSpec.ofChange alarmNewsWrong)

/-- 'hearsaylaw15.AlarmPlays': WHATEVER THE INPUT: true; the input reads as it did. -/
def alarmPlaysSpec : ChangeSpec := { name := "alarmPlays", fn := fun _ => fun
  | [d1, d2, d3] => { results := [.lit (.bool true)], args := [d1, d2, d3] }
  | _ => none }
def alarmPlaysRow : OpenClaim := { program := "ytmfjeeogeilgfaa", sum := "275c37bf94d19eea352104598c5159cf87b88740d451a1f6f60badd0d6401b50", func := "hearsay/hearsaylaw15.AlarmPlays", spec := "alarmPlays", unfollowed := true, recurses := true, apart := false }
def AlarmPlaysSaid : Prop := alarmPlaysRow.holds Try.pinned (OpenSpec.ofChange alarmPlaysSpec)

/-- ITS FALSE NEIGHBOUR: 'it returns false'. Refute it at one input. -/
def alarmPlaysWrong : ChangeSpec := { name := "alarmPlays", fn := fun _ => fun
  | [d1, d2, d3] => { results := [.lit (.bool false)], args := [d1, d2, d3] }
  | _ => none }
def AlarmPlaysWrongFalsely : Prop := alarmPlaysRow.holds Try.pinned (OpenSpec.ofChange alarmPlaysWrong)

/-- 'hearsaylaw15.AlarmTwo': WHATEVER THE INPUT: true; the input reads as it did. -/
def alarmTwoSpec : ChangeSpec := { name := "alarmTwo", fn := fun _ => fun
  | [d1, d2, d3, d4] => { results := [.lit (.bool true)], args := [d1, d2, d3, d4] }
  | _ => none }
def alarmTwoRow : OpenClaim := { program := "ytmfjeeogeilgfaa", sum := "275c37bf94d19eea352104598c5159cf87b88740d451a1f6f60badd0d6401b50", func := "hearsay/hearsaylaw15.AlarmTwo", spec := "alarmTwo", unfollowed := true, recurses := true, apart := false }
def AlarmTwoSaid : Prop := alarmTwoRow.holds Try.pinned (OpenSpec.ofChange alarmTwoSpec)

/-- ITS FALSE NEIGHBOUR: 'it returns false'. Refute it at one input. -/
def alarmTwoWrong : ChangeSpec := { name := "alarmTwo", fn := fun _ => fun
  | [d1, d2, d3, d4] => { results := [.lit (.bool false)], args := [d1, d2, d3, d4] }
  | _ => none }
def AlarmTwoWrongFalsely : Prop := alarmTwoRow.holds Try.pinned (OpenSpec.ofChange alarmTwoWrong)

/-- 'hearsaylaw15.AlarmNothing': WHATEVER THE INPUT: true; the input reads as it did. -/
def alarmNothingSpec : ChangeSpec := { name := "alarmNothing", fn := fun _ => fun
  | [d] => { results := [.lit (.bool true)], args := [d] }
  | _ => none }
def alarmNothingRow : OpenClaim := { program := "ytmfjeeogeilgfaa", sum := "275c37bf94d19eea352104598c5159cf87b88740d451a1f6f60badd0d6401b50", func := "hearsay/hearsaylaw15.AlarmNothing", spec := "alarmNothing", unfollowed := true, recurses := true, apart := false }
def AlarmNothingSaid : Prop := alarmNothingRow.holds Try.pinned (OpenSpec.ofChange alarmNothingSpec)

/-- ITS FALSE NEIGHBOUR: 'it returns false'. Refute it at one input. -/
def alarmNothingWrong : ChangeSpec := { name := "alarmNothing", fn := fun _ => fun
  | [d] => { results := [.lit (.bool false)], args := [d] }
  | _ => none }
def AlarmNothingWrongFalsely : Prop := alarmNothingRow.holds Try.pinned (OpenSpec.ofChange alarmNothingWrong)

/-- 'hearsaylaw15.AlarmBacks': WHATEVER THE INPUT: true; the input reads as it did. -/
def alarmBacksSpec : ChangeSpec := { name := "alarmBacks", fn := fun _ => fun
  | [d1, d2, d3, d4, d5, d6] => { results := [.lit (.bool true)], args := [d1, d2, d3, d4, d5, d6] }
  | _ => none }
def alarmBacksRow : OpenClaim := { program := "ytmfjeeogeilgfaa", sum := "275c37bf94d19eea352104598c5159cf87b88740d451a1f6f60badd0d6401b50", func := "hearsay/hearsaylaw15.AlarmBacks", spec := "alarmBacks", unfollowed := true, recurses := true, apart := false }
def AlarmBacksSaid : Prop := alarmBacksRow.holds Try.pinned (OpenSpec.ofChange alarmBacksSpec)

/-- ITS FALSE NEIGHBOUR: 'it returns false'. Refute it at one input. -/
def alarmBacksWrong : ChangeSpec := { name := "alarmBacks", fn := fun _ => fun
  | [d1, d2, d3, d4, d5, d6] => { results := [.lit (.bool false)], args := [d1, d2, d3, d4, d5, d6] }
  | _ => none }
def AlarmBacksWrongFalsely : Prop := alarmBacksRow.holds Try.pinned (OpenSpec.ofChange alarmBacksWrong)

/-- 'hearsaylaw15.AlarmOrder': WHATEVER THE INPUT: true; the input reads as it did. -/
def alarmOrderSpec : ChangeSpec := { name := "alarmOrder", fn := fun _ => fun
  | [d1, d2, d3, d4] => { results := [.lit (.bool true)], args := [d1, d2, d3, d4] }
  | _ => none }
def alarmOrderRow : OpenClaim := { program := "ytmfjeeogeilgfaa", sum := "275c37bf94d19eea352104598c5159cf87b88740d451a1f6f60badd0d6401b50", func := "hearsay/hearsaylaw15.AlarmOrder", spec := "alarmOrder", unfollowed := true, recurses := true, apart := false }
def AlarmOrderSaid : Prop := alarmOrderRow.holds Try.pinned (OpenSpec.ofChange alarmOrderSpec)

/-- ITS FALSE NEIGHBOUR: 'it returns false'. Refute it at one input. -/
def alarmOrderWrong : ChangeSpec := { name := "alarmOrder", fn := fun _ => fun
  | [d1, d2, d3, d4] => { results := [.lit (.bool false)], args := [d1, d2, d3, d4] }
  | _ => none }
def AlarmOrderWrongFalsely : Prop := alarmOrderRow.holds Try.pinned (OpenSpec.ofChange alarmOrderWrong)

/- THE SECOND FORM. 'bulk': how many values and letters a reading holds, each counted each time it is reached (what is shared counts as often as it is met; a slice's spare places count too). A statement '..UptoSaid' is the law's where the arguments, and the package variables that the reading takes, are together of bulk at most 1048576: NARROWER than '..Said'. Prove '..Said' where nothing that the law and all that it calls make is longer than what came in: it says more and counts as full. Else prove '..UptoSaid'. A law counts once. -/
mutual
def uptoBulk {H : Type} : DataW H → Nat
  | .lit (.string bytes) => bytes.length + 1
  | .lit _ => 1
  | .nil => 1
  | .ptr d => uptoBulk d + 1
  | .slice elems spare => uptoBulkAll elems + uptoBulkAll spare + 1
  | .agg parts => uptoBulkAll parts + 1
  | .iface _ d => uptoBulk d + 1
  | .map entries => uptoBulkEntries entries + 1
  | .held _ => 1
def uptoBulkAll {H : Type} : List (DataW H) → Nat
  | [] => 0
  | d :: r => uptoBulk d + uptoBulkAll r
def uptoBulkEntries {H : Type} : List (Lit × DataW H) → Nat
  | [] => 0
  | x :: r => uptoBulkEntry x + uptoBulkEntries r
def uptoBulkEntry {H : Type} : Lit × DataW H → Nat
  | (.string bytes, d) => bytes.length + uptoBulk d + 1
  | (_, d) => uptoBulk d + 1
 end
def uptoSmall : (H : Type) → List (DataW H) → Bool := fun _ ds => decide (uptoBulkAll ds ≤ 1048576)
def OpenSpec.upto (s : _root_.Go.ChangeSpec) : _root_.Go.OpenSpec := { _root_.Go.OpenSpec.ofChange s with cond := some uptoSmall }

/-- 'hearsaylaw15.AlarmNews', WHERE WHAT IT READS IS OF BULK AT MOST 1048576: true; the input reads as it did. -/
def alarmNewsUptoRow : OpenClaim := { program := "ytmfjeeogeilgfaa", sum := "275c37bf94d19eea352104598c5159cf87b88740d451a1f6f60badd0d6401b50", func := "hearsay/hearsaylaw15.AlarmNews", spec := "alarmNews", unfollowed := true, recurses := true, apart := false, narrowed := true }
def AlarmNewsUptoSaid : Prop := alarmNewsUptoRow.holds Try.pinned (OpenSpec.upto alarmNewsSpec)

/-- 'hearsaylaw15.AlarmPlays', WHERE WHAT IT READS IS OF BULK AT MOST 1048576: true; the input reads as it did. -/
def alarmPlaysUptoRow : OpenClaim := { program := "ytmfjeeogeilgfaa", sum := "275c37bf94d19eea352104598c5159cf87b88740d451a1f6f60badd0d6401b50", func := "hearsay/hearsaylaw15.AlarmPlays", spec := "alarmPlays", unfollowed := true, recurses := true, apart := false, narrowed := true }
def AlarmPlaysUptoSaid : Prop := alarmPlaysUptoRow.holds Try.pinned (OpenSpec.upto alarmPlaysSpec)

/-- 'hearsaylaw15.AlarmTwo', WHERE WHAT IT READS IS OF BULK AT MOST 1048576: true; the input reads as it did. -/
def alarmTwoUptoRow : OpenClaim := { program := "ytmfjeeogeilgfaa", sum := "275c37bf94d19eea352104598c5159cf87b88740d451a1f6f60badd0d6401b50", func := "hearsay/hearsaylaw15.AlarmTwo", spec := "alarmTwo", unfollowed := true, recurses := true, apart := false, narrowed := true }
def AlarmTwoUptoSaid : Prop := alarmTwoUptoRow.holds Try.pinned (OpenSpec.upto alarmTwoSpec)

/-- 'hearsaylaw15.AlarmNothing', WHERE WHAT IT READS IS OF BULK AT MOST 1048576: true; the input reads as it did. -/
def alarmNothingUptoRow : OpenClaim := { program := "ytmfjeeogeilgfaa", sum := "275c37bf94d19eea352104598c5159cf87b88740d451a1f6f60badd0d6401b50", func := "hearsay/hearsaylaw15.AlarmNothing", spec := "alarmNothing", unfollowed := true, recurses := true, apart := false, narrowed := true }
def AlarmNothingUptoSaid : Prop := alarmNothingUptoRow.holds Try.pinned (OpenSpec.upto alarmNothingSpec)

/-- 'hearsaylaw15.AlarmBacks', WHERE WHAT IT READS IS OF BULK AT MOST 1048576: true; the input reads as it did. -/
def alarmBacksUptoRow : OpenClaim := { program := "ytmfjeeogeilgfaa", sum := "275c37bf94d19eea352104598c5159cf87b88740d451a1f6f60badd0d6401b50", func := "hearsay/hearsaylaw15.AlarmBacks", spec := "alarmBacks", unfollowed := true, recurses := true, apart := false, narrowed := true }
def AlarmBacksUptoSaid : Prop := alarmBacksUptoRow.holds Try.pinned (OpenSpec.upto alarmBacksSpec)

/-- 'hearsaylaw15.AlarmOrder', WHERE WHAT IT READS IS OF BULK AT MOST 1048576: true; the input reads as it did. -/
def alarmOrderUptoRow : OpenClaim := { program := "ytmfjeeogeilgfaa", sum := "275c37bf94d19eea352104598c5159cf87b88740d451a1f6f60badd0d6401b50", func := "hearsay/hearsaylaw15.AlarmOrder", spec := "alarmOrder", unfollowed := true, recurses := true, apart := false, narrowed := true }
def AlarmOrderUptoSaid : Prop := alarmOrderUptoRow.holds Try.pinned (OpenSpec.upto alarmOrderSpec)

end Rows
end Go.Proofs.Ytmfjeeogeilgfaa
