/-
  DERIVED. GIVEN WITH THE SEED: THE CARDS: each row of YtpolhfiikbmplaaGreatDoorRows.lean that lists a variable, with what it lists TIED to the program's text (the seventh form; the later family's looks); each row that meets fmt, with fmt's text TOLD by the authors' own Lean function (tested against real Go, not proved from fmt's source: count such statements apart). THE CARD IS WHAT COUNTS. Prove the row's statement (the work); the ties are given (YtpolhfiikbmplaaGreatDoorTie.lean); close each card by the builder's one call (the guide's Derived/Test/ToyasCard.lean, 'card_holds'). Laid BY PROGRAM, IN A SANDBOX (cutbox-door.mjs). By AI agents, Wed Nov 11 2026. No macro, syntax, notation, axiom, sorry.
-/
import Derived.Test.YtpolhfiikbmplaaGreatDoorRows
import GoSem.ClaimSeven
namespace Go.Proofs.YtpolhfiikbmplaaGreatDoor
namespace Rows

/-- THE TIED CARD OF 'inequalitylaw07.CheckShapes'. -/
def checkShapesCard : Claim7 := { stood := { row := checkShapesRow, standIns := [], harness := (true, "fa78dcb5094f19b2ef7e52e59ff80761c5718f4a0f6ef4e28623156660ac503b"), looks := true }, kinds := [], alts := [], laidByText := true, laidKinds := [.data, .data, .data], laidTests := true, laidLooks := .later }
def CheckShapesCardSaid : Prop := Claim7.holds Tryz.pinned (.plain (OpenSpec.ofChange checkShapesSpec)) checkShapesCard

/-- THE TIED CARD OF 'inequalitylaw07.CheckNames'. -/
def checkNamesCard : Claim7 := { stood := { row := checkNamesRow, standIns := [], harness := (true, "fa78dcb5094f19b2ef7e52e59ff80761c5718f4a0f6ef4e28623156660ac503b"), looks := true }, kinds := [], alts := [], laidByText := true, laidKinds := [.data, .data, .data], laidTests := true, laidLooks := .later }
def CheckNamesCardSaid : Prop := Claim7.holds Tryz.pinned (.plain (OpenSpec.ofChange checkNamesSpec)) checkNamesCard

/-- THE TIED CARD OF 'inequalitylaw07.CheckUses'. -/
def checkUsesCard : Claim7 := { stood := { row := checkUsesRow, standIns := [], harness := (true, "fa78dcb5094f19b2ef7e52e59ff80761c5718f4a0f6ef4e28623156660ac503b"), looks := true }, kinds := [], alts := [], laidByText := true, laidKinds := [.data, .data, .data], laidTests := true, laidLooks := .later }
def CheckUsesCardSaid : Prop := Claim7.holds Tryz.pinned (.plain (OpenSpec.ofChange checkUsesSpec)) checkUsesCard

/-- THE TIED CARD OF 'inequalitylaw07.CheckEquals'. -/
def checkEqualsCard : Claim7 := { stood := { row := checkEqualsRow, standIns := [], harness := (true, "fa78dcb5094f19b2ef7e52e59ff80761c5718f4a0f6ef4e28623156660ac503b"), looks := true }, kinds := [], alts := [], laidByText := true, laidKinds := [.data, .data, .data], laidTests := true, laidLooks := .later }
def CheckEqualsCardSaid : Prop := Claim7.holds Tryz.pinned (.plain (OpenSpec.ofChange checkEqualsSpec)) checkEqualsCard

/-- THE TIED CARD OF 'inequalitylaw07.CheckPicks'. -/
def checkPicksCard : Claim7 := { stood := { row := checkPicksRow, standIns := [], harness := (true, "fa78dcb5094f19b2ef7e52e59ff80761c5718f4a0f6ef4e28623156660ac503b"), looks := true }, kinds := [], alts := [], laidByText := true, laidKinds := [.data, .data, .data], laidTests := true, laidLooks := .later }
def CheckPicksCardSaid : Prop := Claim7.holds Tryz.pinned (.plain (OpenSpec.ofChange checkPicksSpec)) checkPicksCard

/-- THE TIED CARD OF 'inequalitylaw07.CheckGrafts'. -/
def checkGraftsCard : Claim7 := { stood := { row := checkGraftsRow, standIns := [], harness := (true, "fa78dcb5094f19b2ef7e52e59ff80761c5718f4a0f6ef4e28623156660ac503b"), looks := true }, kinds := [], alts := [], laidByText := true, laidKinds := [.data, .data, .data], laidTests := true, laidLooks := .later }
def CheckGraftsCardSaid : Prop := Claim7.holds Tryz.pinned (.plain (OpenSpec.ofChange checkGraftsSpec)) checkGraftsCard

/-- THE SECOND FORM's CARD OF 'inequalitylaw07.CheckShapes'. -/
def checkShapesUptoCard : Claim7 := { stood := { row := checkShapesUptoRow, standIns := [], harness := (true, "fa78dcb5094f19b2ef7e52e59ff80761c5718f4a0f6ef4e28623156660ac503b"), looks := true }, kinds := [], alts := [], laidByText := true, laidKinds := [.data, .data, .data], laidTests := true, laidLooks := .later }
def CheckShapesUptoCardSaid : Prop := Claim7.holds Tryz.pinned (.plain (OpenSpec.upto checkShapesSpec)) checkShapesUptoCard

/-- THE SECOND FORM's CARD OF 'inequalitylaw07.CheckNames'. -/
def checkNamesUptoCard : Claim7 := { stood := { row := checkNamesUptoRow, standIns := [], harness := (true, "fa78dcb5094f19b2ef7e52e59ff80761c5718f4a0f6ef4e28623156660ac503b"), looks := true }, kinds := [], alts := [], laidByText := true, laidKinds := [.data, .data, .data], laidTests := true, laidLooks := .later }
def CheckNamesUptoCardSaid : Prop := Claim7.holds Tryz.pinned (.plain (OpenSpec.upto checkNamesSpec)) checkNamesUptoCard

/-- THE SECOND FORM's CARD OF 'inequalitylaw07.CheckUses'. -/
def checkUsesUptoCard : Claim7 := { stood := { row := checkUsesUptoRow, standIns := [], harness := (true, "fa78dcb5094f19b2ef7e52e59ff80761c5718f4a0f6ef4e28623156660ac503b"), looks := true }, kinds := [], alts := [], laidByText := true, laidKinds := [.data, .data, .data], laidTests := true, laidLooks := .later }
def CheckUsesUptoCardSaid : Prop := Claim7.holds Tryz.pinned (.plain (OpenSpec.upto checkUsesSpec)) checkUsesUptoCard

/-- THE SECOND FORM's CARD OF 'inequalitylaw07.CheckEquals'. -/
def checkEqualsUptoCard : Claim7 := { stood := { row := checkEqualsUptoRow, standIns := [], harness := (true, "fa78dcb5094f19b2ef7e52e59ff80761c5718f4a0f6ef4e28623156660ac503b"), looks := true }, kinds := [], alts := [], laidByText := true, laidKinds := [.data, .data, .data], laidTests := true, laidLooks := .later }
def CheckEqualsUptoCardSaid : Prop := Claim7.holds Tryz.pinned (.plain (OpenSpec.upto checkEqualsSpec)) checkEqualsUptoCard

/-- THE SECOND FORM's CARD OF 'inequalitylaw07.CheckPicks'. -/
def checkPicksUptoCard : Claim7 := { stood := { row := checkPicksUptoRow, standIns := [], harness := (true, "fa78dcb5094f19b2ef7e52e59ff80761c5718f4a0f6ef4e28623156660ac503b"), looks := true }, kinds := [], alts := [], laidByText := true, laidKinds := [.data, .data, .data], laidTests := true, laidLooks := .later }
def CheckPicksUptoCardSaid : Prop := Claim7.holds Tryz.pinned (.plain (OpenSpec.upto checkPicksSpec)) checkPicksUptoCard

/-- THE SECOND FORM's CARD OF 'inequalitylaw07.CheckGrafts'. -/
def checkGraftsUptoCard : Claim7 := { stood := { row := checkGraftsUptoRow, standIns := [], harness := (true, "fa78dcb5094f19b2ef7e52e59ff80761c5718f4a0f6ef4e28623156660ac503b"), looks := true }, kinds := [], alts := [], laidByText := true, laidKinds := [.data, .data, .data], laidTests := true, laidLooks := .later }
def CheckGraftsUptoCardSaid : Prop := Claim7.holds Tryz.pinned (.plain (OpenSpec.upto checkGraftsSpec)) checkGraftsUptoCard
end Rows
end Go.Proofs.YtpolhfiikbmplaaGreatDoor
