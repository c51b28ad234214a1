/-
  DERIVED. GIVEN WITH THE SEED: THE CARDS: each row of YtcmghblegllmlaaDoorRows.lean that lists a variable, with what it lists TIED to the program's text (the seventh form; the later family's looks); each row that meets fmt, with fmt's text TOLD by the authors' own Lean function (tested against real Go, not proved from fmt's source: count such statements apart). THE CARD IS WHAT COUNTS. Prove the row's statement (the work); the ties are given (YtcmghblegllmlaaDoorTie.lean); close each card by the builder's one call (the guide's Derived/Test/ToyasCard.lean, 'card_holds'). Laid BY PROGRAM, IN A SANDBOX (cutbox-door.mjs). By AI agents, Wed Nov 11 2026. No macro, syntax, notation, axiom, sorry.
-/
import Derived.Test.YtcmghblegllmlaaDoorRows
import GoSem.ClaimSeven
namespace Go.Proofs.YtcmghblegllmlaaDoor
namespace Rows

/-- THE TIED CARD OF 'hyglaw25.MergeSteps'. -/
def mergeStepsCard : Claim7 := { stood := { row := mergeStepsRow, standIns := [], harness := (true, "93ba4210dec203883e9d4022b1b46f92a5479a254f660160970022abc94d7342"), looks := true }, kinds := [], alts := [], laidByText := true, laidKinds := [.handle], laidTests := true, laidLooks := .later }
def MergeStepsCardSaid : Prop := Claim7.holds Tryd.pinned (.plain (OpenSpec.ofChange mergeStepsSpec)) mergeStepsCard

/-- THE TIED CARD OF 'hyglaw25.MergeSides'. -/
def mergeSidesCard : Claim7 := { stood := { row := mergeSidesRow, standIns := [], harness := (true, "93ba4210dec203883e9d4022b1b46f92a5479a254f660160970022abc94d7342"), looks := true }, kinds := [], alts := [], laidByText := true, laidKinds := [.handle], laidTests := true, laidLooks := .later }
def MergeSidesCardSaid : Prop := Claim7.holds Tryd.pinned (.plain (OpenSpec.ofChange mergeSidesSpec)) mergeSidesCard

/-- THE TIED CARD OF 'hyglaw25.MergeFits'. -/
def mergeFitsCard : Claim7 := { stood := { row := mergeFitsRow, standIns := [], harness := (true, "93ba4210dec203883e9d4022b1b46f92a5479a254f660160970022abc94d7342"), looks := true }, kinds := [], alts := [], laidByText := true, laidKinds := [.handle], laidTests := true, laidLooks := .later }
def MergeFitsCardSaid : Prop := Claim7.holds Tryd.pinned (.plain (OpenSpec.ofChange mergeFitsSpec)) mergeFitsCard

/-- THE TIED CARD OF 'hyglaw25.MergeLeast'. -/
def mergeLeastCard : Claim7 := { stood := { row := mergeLeastRow, standIns := [], harness := (true, "93ba4210dec203883e9d4022b1b46f92a5479a254f660160970022abc94d7342"), looks := true }, kinds := [], alts := [], laidByText := true, laidKinds := [.handle], laidTests := true, laidLooks := .later }
def MergeLeastCardSaid : Prop := Claim7.holds Tryd.pinned (.plain (OpenSpec.ofChange mergeLeastSpec)) mergeLeastCard

/-- THE TIED CARD OF 'hyglaw25.MergeTotals'. -/
def mergeTotalsCard : Claim7 := { stood := { row := mergeTotalsRow, standIns := [], harness := (true, "93ba4210dec203883e9d4022b1b46f92a5479a254f660160970022abc94d7342"), looks := true }, kinds := [], alts := [], laidByText := true, laidKinds := [.handle], laidTests := true, laidLooks := .later }
def MergeTotalsCardSaid : Prop := Claim7.holds Tryd.pinned (.plain (OpenSpec.ofChange mergeTotalsSpec)) mergeTotalsCard

/-- THE TIED CARD OF 'hyglaw25.MergeOrder'. -/
def mergeOrderCard : Claim7 := { stood := { row := mergeOrderRow, standIns := [], harness := (true, "93ba4210dec203883e9d4022b1b46f92a5479a254f660160970022abc94d7342"), looks := true }, kinds := [], alts := [], laidByText := true, laidKinds := [.handle], laidTests := true, laidLooks := .later }
def MergeOrderCardSaid : Prop := Claim7.holds Tryd.pinned (.plain (OpenSpec.ofChange mergeOrderSpec)) mergeOrderCard

/-- THE TIED CARD OF 'hyglaw25.MergeBack'. -/
def mergeBackCard : Claim7 := { stood := { row := mergeBackRow, standIns := [], harness := (true, "93ba4210dec203883e9d4022b1b46f92a5479a254f660160970022abc94d7342"), looks := true }, kinds := [], alts := [], laidByText := true, laidKinds := [.handle], laidTests := true, laidLooks := .later }
def MergeBackCardSaid : Prop := Claim7.holds Tryd.pinned (.plain (OpenSpec.ofChange mergeBackSpec)) mergeBackCard

/-- THE SECOND FORM's CARD OF 'hyglaw25.MergeSteps'. -/
def mergeStepsUptoCard : Claim7 := { stood := { row := mergeStepsUptoRow, standIns := [], harness := (true, "93ba4210dec203883e9d4022b1b46f92a5479a254f660160970022abc94d7342"), looks := true }, kinds := [], alts := [], laidByText := true, laidKinds := [.handle], laidTests := true, laidLooks := .later }
def MergeStepsUptoCardSaid : Prop := Claim7.holds Tryd.pinned (.plain (OpenSpec.upto mergeStepsSpec)) mergeStepsUptoCard

/-- THE SECOND FORM's CARD OF 'hyglaw25.MergeSides'. -/
def mergeSidesUptoCard : Claim7 := { stood := { row := mergeSidesUptoRow, standIns := [], harness := (true, "93ba4210dec203883e9d4022b1b46f92a5479a254f660160970022abc94d7342"), looks := true }, kinds := [], alts := [], laidByText := true, laidKinds := [.handle], laidTests := true, laidLooks := .later }
def MergeSidesUptoCardSaid : Prop := Claim7.holds Tryd.pinned (.plain (OpenSpec.upto mergeSidesSpec)) mergeSidesUptoCard

/-- THE SECOND FORM's CARD OF 'hyglaw25.MergeFits'. -/
def mergeFitsUptoCard : Claim7 := { stood := { row := mergeFitsUptoRow, standIns := [], harness := (true, "93ba4210dec203883e9d4022b1b46f92a5479a254f660160970022abc94d7342"), looks := true }, kinds := [], alts := [], laidByText := true, laidKinds := [.handle], laidTests := true, laidLooks := .later }
def MergeFitsUptoCardSaid : Prop := Claim7.holds Tryd.pinned (.plain (OpenSpec.upto mergeFitsSpec)) mergeFitsUptoCard

/-- THE SECOND FORM's CARD OF 'hyglaw25.MergeLeast'. -/
def mergeLeastUptoCard : Claim7 := { stood := { row := mergeLeastUptoRow, standIns := [], harness := (true, "93ba4210dec203883e9d4022b1b46f92a5479a254f660160970022abc94d7342"), looks := true }, kinds := [], alts := [], laidByText := true, laidKinds := [.handle], laidTests := true, laidLooks := .later }
def MergeLeastUptoCardSaid : Prop := Claim7.holds Tryd.pinned (.plain (OpenSpec.upto mergeLeastSpec)) mergeLeastUptoCard

/-- THE SECOND FORM's CARD OF 'hyglaw25.MergeTotals'. -/
def mergeTotalsUptoCard : Claim7 := { stood := { row := mergeTotalsUptoRow, standIns := [], harness := (true, "93ba4210dec203883e9d4022b1b46f92a5479a254f660160970022abc94d7342"), looks := true }, kinds := [], alts := [], laidByText := true, laidKinds := [.handle], laidTests := true, laidLooks := .later }
def MergeTotalsUptoCardSaid : Prop := Claim7.holds Tryd.pinned (.plain (OpenSpec.upto mergeTotalsSpec)) mergeTotalsUptoCard

/-- THE SECOND FORM's CARD OF 'hyglaw25.MergeOrder'. -/
def mergeOrderUptoCard : Claim7 := { stood := { row := mergeOrderUptoRow, standIns := [], harness := (true, "93ba4210dec203883e9d4022b1b46f92a5479a254f660160970022abc94d7342"), looks := true }, kinds := [], alts := [], laidByText := true, laidKinds := [.handle], laidTests := true, laidLooks := .later }
def MergeOrderUptoCardSaid : Prop := Claim7.holds Tryd.pinned (.plain (OpenSpec.upto mergeOrderSpec)) mergeOrderUptoCard

/-- THE SECOND FORM's CARD OF 'hyglaw25.MergeBack'. -/
def mergeBackUptoCard : Claim7 := { stood := { row := mergeBackUptoRow, standIns := [], harness := (true, "93ba4210dec203883e9d4022b1b46f92a5479a254f660160970022abc94d7342"), looks := true }, kinds := [], alts := [], laidByText := true, laidKinds := [.handle], laidTests := true, laidLooks := .later }
def MergeBackUptoCardSaid : Prop := Claim7.holds Tryd.pinned (.plain (OpenSpec.upto mergeBackSpec)) mergeBackUptoCard
end Rows
end Go.Proofs.YtcmghblegllmlaaDoor
