/-
  DERIVED. GIVEN WITH THE SEED: THE CARDS: each row of YtjohljmpcblpjaaGreatDoorRows.lean that lists a variable, with what it lists TIED to the program's text (the seventh form; the later family's looks); each row that meets fmt, with fmt's text TOLD by the authors' own Lean function (tested against real Go, not proved from fmt's source: count such statements apart). THE CARD IS WHAT COUNTS. Prove the row's statement (the work); the ties are given (YtjohljmpcblpjaaGreatDoorTie.lean); close each card by the builder's one call (the guide's Derived/Test/ToyasCard.lean, 'card_holds'). Laid BY PROGRAM, IN A SANDBOX (cutbox-door.mjs). By AI agents, Wed Nov 11 2026. No macro, syntax, notation, axiom, sorry.
-/
import Derived.Test.YtjohljmpcblpjaaGreatDoorRows
import GoSem.ClaimSeven
namespace Go.Proofs.YtjohljmpcblpjaaGreatDoor
namespace Rows

/-- THE TIED CARD OF 'hearsaylaw24.PastTells'. -/
def pastTellsCard : Claim7 := { stood := { row := pastTellsRow, standIns := [], harness := (true, "0016903fe89b0c64b5394d2d562082c660e141747ce90bd21dd83bd5b2166825"), looks := false }, kinds := [], alts := [], laidByText := true, laidKinds := [.data], laidTests := true, laidLooks := .later }
def PastTellsCardSaid : Prop := Claim7.holds Tryz.pinned (.plain (OpenSpec.ofChange pastTellsSpec)) pastTellsCard

/-- THE TIED CARD OF 'hearsaylaw24.PastAgain'. -/
def pastAgainCard : Claim7 := { stood := { row := pastAgainRow, standIns := [], harness := (true, "0016903fe89b0c64b5394d2d562082c660e141747ce90bd21dd83bd5b2166825"), looks := false }, kinds := [], alts := [], laidByText := true, laidKinds := [.data], laidTests := true, laidLooks := .later }
def PastAgainCardSaid : Prop := Claim7.holds Tryz.pinned (.plain (OpenSpec.ofChange pastAgainSpec)) pastAgainCard

/-- THE TIED CARD OF 'hearsaylaw24.PastOrder'. -/
def pastOrderCard : Claim7 := { stood := { row := pastOrderRow, standIns := [], harness := (true, "0016903fe89b0c64b5394d2d562082c660e141747ce90bd21dd83bd5b2166825"), looks := false }, kinds := [], alts := [], laidByText := true, laidKinds := [.data], laidTests := true, laidLooks := .later }
def PastOrderCardSaid : Prop := Claim7.holds Tryz.pinned (.plain (OpenSpec.ofChange pastOrderSpec)) pastOrderCard

/-- THE TIED CARD OF 'hearsaylaw24.PastWorld'. -/
def pastWorldCard : Claim7 := { stood := { row := pastWorldRow, standIns := [], harness := (true, "0016903fe89b0c64b5394d2d562082c660e141747ce90bd21dd83bd5b2166825"), looks := false }, kinds := [], alts := [], laidByText := true, laidKinds := [.data], laidTests := true, laidLooks := .later }
def PastWorldCardSaid : Prop := Claim7.holds Tryz.pinned (.plain (OpenSpec.ofChange pastWorldSpec)) pastWorldCard

/-- THE TIED CARD OF 'hearsaylaw24.PastNodes'. -/
def pastNodesCard : Claim7 := { stood := { row := pastNodesRow, standIns := [], harness := (true, "0016903fe89b0c64b5394d2d562082c660e141747ce90bd21dd83bd5b2166825"), looks := false }, kinds := [], alts := [], laidByText := true, laidKinds := [.data], laidTests := true, laidLooks := .later }
def PastNodesCardSaid : Prop := Claim7.holds Tryz.pinned (.plain (OpenSpec.ofChange pastNodesSpec)) pastNodesCard

/-- THE TIED CARD OF 'hearsaylaw24.PastOwn'. -/
def pastOwnCard : Claim7 := { stood := { row := pastOwnRow, standIns := [], harness := (true, "0016903fe89b0c64b5394d2d562082c660e141747ce90bd21dd83bd5b2166825"), looks := false }, kinds := [], alts := [], laidByText := true, laidKinds := [.data], laidTests := true, laidLooks := .later }
def PastOwnCardSaid : Prop := Claim7.holds Tryz.pinned (.plain (OpenSpec.ofChange pastOwnSpec)) pastOwnCard

/-- THE SECOND FORM's CARD OF 'hearsaylaw24.PastTells'. -/
def pastTellsUptoCard : Claim7 := { stood := { row := pastTellsUptoRow, standIns := [], harness := (true, "0016903fe89b0c64b5394d2d562082c660e141747ce90bd21dd83bd5b2166825"), looks := false }, kinds := [], alts := [], laidByText := true, laidKinds := [.data], laidTests := true, laidLooks := .later }
def PastTellsUptoCardSaid : Prop := Claim7.holds Tryz.pinned (.plain (OpenSpec.upto pastTellsSpec)) pastTellsUptoCard

/-- THE SECOND FORM's CARD OF 'hearsaylaw24.PastAgain'. -/
def pastAgainUptoCard : Claim7 := { stood := { row := pastAgainUptoRow, standIns := [], harness := (true, "0016903fe89b0c64b5394d2d562082c660e141747ce90bd21dd83bd5b2166825"), looks := false }, kinds := [], alts := [], laidByText := true, laidKinds := [.data], laidTests := true, laidLooks := .later }
def PastAgainUptoCardSaid : Prop := Claim7.holds Tryz.pinned (.plain (OpenSpec.upto pastAgainSpec)) pastAgainUptoCard

/-- THE SECOND FORM's CARD OF 'hearsaylaw24.PastOrder'. -/
def pastOrderUptoCard : Claim7 := { stood := { row := pastOrderUptoRow, standIns := [], harness := (true, "0016903fe89b0c64b5394d2d562082c660e141747ce90bd21dd83bd5b2166825"), looks := false }, kinds := [], alts := [], laidByText := true, laidKinds := [.data], laidTests := true, laidLooks := .later }
def PastOrderUptoCardSaid : Prop := Claim7.holds Tryz.pinned (.plain (OpenSpec.upto pastOrderSpec)) pastOrderUptoCard

/-- THE SECOND FORM's CARD OF 'hearsaylaw24.PastWorld'. -/
def pastWorldUptoCard : Claim7 := { stood := { row := pastWorldUptoRow, standIns := [], harness := (true, "0016903fe89b0c64b5394d2d562082c660e141747ce90bd21dd83bd5b2166825"), looks := false }, kinds := [], alts := [], laidByText := true, laidKinds := [.data], laidTests := true, laidLooks := .later }
def PastWorldUptoCardSaid : Prop := Claim7.holds Tryz.pinned (.plain (OpenSpec.upto pastWorldSpec)) pastWorldUptoCard

/-- THE SECOND FORM's CARD OF 'hearsaylaw24.PastNodes'. -/
def pastNodesUptoCard : Claim7 := { stood := { row := pastNodesUptoRow, standIns := [], harness := (true, "0016903fe89b0c64b5394d2d562082c660e141747ce90bd21dd83bd5b2166825"), looks := false }, kinds := [], alts := [], laidByText := true, laidKinds := [.data], laidTests := true, laidLooks := .later }
def PastNodesUptoCardSaid : Prop := Claim7.holds Tryz.pinned (.plain (OpenSpec.upto pastNodesSpec)) pastNodesUptoCard

/-- THE SECOND FORM's CARD OF 'hearsaylaw24.PastOwn'. -/
def pastOwnUptoCard : Claim7 := { stood := { row := pastOwnUptoRow, standIns := [], harness := (true, "0016903fe89b0c64b5394d2d562082c660e141747ce90bd21dd83bd5b2166825"), looks := false }, kinds := [], alts := [], laidByText := true, laidKinds := [.data], laidTests := true, laidLooks := .later }
def PastOwnUptoCardSaid : Prop := Claim7.holds Tryz.pinned (.plain (OpenSpec.upto pastOwnSpec)) pastOwnUptoCard
end Rows
end Go.Proofs.YtjohljmpcblpjaaGreatDoor
