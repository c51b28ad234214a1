/-
  DERIVED. GIVEN WITH THE SEED: THE CARDS: each row of YtcmghblegllmlaaGreatDoorRows.lean that lists a variable, with what it lists TIED to the program's text (the seventh form; the later family's looks); each row that meets fmt, with fmt's text TOLD by the authors' own Lean function (tested against real Go, not proved from fmt's source: count such statements apart). THE CARD IS WHAT COUNTS. Prove the row's statement (the work); the ties are given (YtcmghblegllmlaaGreatDoorTie.lean); close each card by the builder's one call (the guide's Derived/Test/ToyasCard.lean, 'card_holds'). Laid BY PROGRAM, IN A SANDBOX (cutbox-door.mjs). By AI agents, Wed Nov 11 2026. No macro, syntax, notation, axiom, sorry.
-/
import Derived.Test.YtcmghblegllmlaaGreatDoorRows
import GoSem.ClaimSeven
namespace Go.Proofs.YtcmghblegllmlaaGreatDoor
namespace Rows

/-- THE TIED CARD OF 'hyglaw25.MergeHists'. -/
def mergeHistsCard : Claim7 := { stood := { row := mergeHistsRow, standIns := [], harness := (true, "57ee9f27f2709c761d1903c59ae1002a0a25ab3e51b94357ada1e3743d6bc432"), looks := true }, kinds := [], alts := [], laidByText := true, laidKinds := [.handle], laidTests := true, laidLooks := .later }
def MergeHistsCardSaid : Prop := Claim7.holds Tryz.pinned (.plain (OpenSpec.ofChange mergeHistsSpec)) mergeHistsCard

/-- THE TIED CARD OF 'hyglaw25.MergeExps'. -/
def mergeExpsCard : Claim7 := { stood := { row := mergeExpsRow, standIns := [], harness := (true, "57ee9f27f2709c761d1903c59ae1002a0a25ab3e51b94357ada1e3743d6bc432"), looks := true }, kinds := [], alts := [], laidByText := true, laidKinds := [.handle], laidTests := true, laidLooks := .later }
def MergeExpsCardSaid : Prop := Claim7.holds Tryz.pinned (.plain (OpenSpec.ofChange mergeExpsSpec)) mergeExpsCard

/-- THE SECOND FORM's CARD OF 'hyglaw25.MergeHists'. -/
def mergeHistsUptoCard : Claim7 := { stood := { row := mergeHistsUptoRow, standIns := [], harness := (true, "57ee9f27f2709c761d1903c59ae1002a0a25ab3e51b94357ada1e3743d6bc432"), looks := true }, kinds := [], alts := [], laidByText := true, laidKinds := [.handle], laidTests := true, laidLooks := .later }
def MergeHistsUptoCardSaid : Prop := Claim7.holds Tryz.pinned (.plain (OpenSpec.upto mergeHistsSpec)) mergeHistsUptoCard

/-- THE SECOND FORM's CARD OF 'hyglaw25.MergeExps'. -/
def mergeExpsUptoCard : Claim7 := { stood := { row := mergeExpsUptoRow, standIns := [], harness := (true, "57ee9f27f2709c761d1903c59ae1002a0a25ab3e51b94357ada1e3743d6bc432"), looks := true }, kinds := [], alts := [], laidByText := true, laidKinds := [.handle], laidTests := true, laidLooks := .later }
def MergeExpsUptoCardSaid : Prop := Claim7.holds Tryz.pinned (.plain (OpenSpec.upto mergeExpsSpec)) mergeExpsUptoCard
end Rows
end Go.Proofs.YtcmghblegllmlaaGreatDoor
