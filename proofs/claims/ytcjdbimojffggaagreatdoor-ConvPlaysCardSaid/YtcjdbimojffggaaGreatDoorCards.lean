/-
  DERIVED. GIVEN WITH THE SEED: THE CARDS: each row of YtcjdbimojffggaaGreatDoorRows.lean that lists a variable, with what it lists TIED to the program's text (the seventh form; the later family's looks); each row that meets fmt, with fmt's text TOLD by the authors' own Lean function (tested against real Go, not proved from fmt's source: count such statements apart). THE CARD IS WHAT COUNTS. Prove the row's statement (the work); the ties are given (YtcjdbimojffggaaGreatDoorTie.lean); close each card by the builder's one call (the guide's Derived/Test/ToyasCard.lean, 'card_holds'). Laid BY PROGRAM, IN A SANDBOX (cutbox-door.mjs). By AI agents, Wed Nov 11 2026. No macro, syntax, notation, axiom, sorry.
-/
import Derived.Test.YtcjdbimojffggaaGreatDoorRows
import GoSem.ClaimSeven
namespace Go.Proofs.YtcjdbimojffggaaGreatDoor
namespace Rows

/-- THE TIED CARD OF 'hyglaw26.ConvBounds'. -/
def convBoundsCard : Claim7 := { stood := { row := convBoundsRow, standIns := [], harness := (true, "edee69edcfe5c332ec75dfaca173184bc9b4dad8df645e9cbb5b4fc93f4dccb1"), looks := true }, kinds := [], alts := [], laidByText := true, laidKinds := [.handle], laidTests := true, laidLooks := .later }
def ConvBoundsCardSaid : Prop := Claim7.holds Tryz.pinned (.plain (OpenSpec.ofChange convBoundsSpec)) convBoundsCard

/-- THE TIED CARD OF 'hyglaw26.ConvPlays'. -/
def convPlaysCard : Claim7 := { stood := { row := convPlaysRow, standIns := [], harness := (true, "edee69edcfe5c332ec75dfaca173184bc9b4dad8df645e9cbb5b4fc93f4dccb1"), looks := true }, kinds := [], alts := [], laidByText := true, laidKinds := [.handle], laidTests := true, laidLooks := .later }
def ConvPlaysCardSaid : Prop := Claim7.holds Tryz.pinned (.plain (OpenSpec.ofChange convPlaysSpec)) convPlaysCard

/-- THE TIED CARD OF 'hyglaw26.ConvFolds'. -/
def convFoldsCard : Claim7 := { stood := { row := convFoldsRow, standIns := [], harness := (true, "edee69edcfe5c332ec75dfaca173184bc9b4dad8df645e9cbb5b4fc93f4dccb1"), looks := true }, kinds := [], alts := [], laidByText := true, laidKinds := [.handle], laidTests := true, laidLooks := .later }
def ConvFoldsCardSaid : Prop := Claim7.holds Tryz.pinned (.plain (OpenSpec.ofChange convFoldsSpec)) convFoldsCard

/-- THE SECOND FORM's CARD OF 'hyglaw26.ConvBounds'. -/
def convBoundsUptoCard : Claim7 := { stood := { row := convBoundsUptoRow, standIns := [], harness := (true, "edee69edcfe5c332ec75dfaca173184bc9b4dad8df645e9cbb5b4fc93f4dccb1"), looks := true }, kinds := [], alts := [], laidByText := true, laidKinds := [.handle], laidTests := true, laidLooks := .later }
def ConvBoundsUptoCardSaid : Prop := Claim7.holds Tryz.pinned (.plain (OpenSpec.upto convBoundsSpec)) convBoundsUptoCard

/-- THE SECOND FORM's CARD OF 'hyglaw26.ConvPlays'. -/
def convPlaysUptoCard : Claim7 := { stood := { row := convPlaysUptoRow, standIns := [], harness := (true, "edee69edcfe5c332ec75dfaca173184bc9b4dad8df645e9cbb5b4fc93f4dccb1"), looks := true }, kinds := [], alts := [], laidByText := true, laidKinds := [.handle], laidTests := true, laidLooks := .later }
def ConvPlaysUptoCardSaid : Prop := Claim7.holds Tryz.pinned (.plain (OpenSpec.upto convPlaysSpec)) convPlaysUptoCard

/-- THE SECOND FORM's CARD OF 'hyglaw26.ConvFolds'. -/
def convFoldsUptoCard : Claim7 := { stood := { row := convFoldsUptoRow, standIns := [], harness := (true, "edee69edcfe5c332ec75dfaca173184bc9b4dad8df645e9cbb5b4fc93f4dccb1"), looks := true }, kinds := [], alts := [], laidByText := true, laidKinds := [.handle], laidTests := true, laidLooks := .later }
def ConvFoldsUptoCardSaid : Prop := Claim7.holds Tryz.pinned (.plain (OpenSpec.upto convFoldsSpec)) convFoldsUptoCard
end Rows
end Go.Proofs.YtcjdbimojffggaaGreatDoor
