/-
  DERIVED. GIVEN WITH THE SEED: THE CARDS: each row of YtcjdbimojffggaaDoorRows.lean that lists a variable, with what it lists TIED to the program's text (the seventh form; the later family's looks); each row that meets fmt, with fmt's text TOLD by the authors' own Lean function (tested against real Go, not proved from fmt's source: count such statements apart). THE CARD IS WHAT COUNTS. Prove the row's statement (the work); the ties are given (YtcjdbimojffggaaDoorTie.lean); close each card by the builder's one call (the guide's Derived/Test/ToyasCard.lean, 'card_holds'). Laid BY PROGRAM, IN A SANDBOX (cutbox-door.mjs). By AI agents, Wed Nov 11 2026. No macro, syntax, notation, axiom, sorry.
-/
import Derived.Test.YtcjdbimojffggaaDoorRows
import GoSem.ClaimSeven
namespace Go.Proofs.YtcjdbimojffggaaDoor
namespace Rows

/-- THE TIED CARD OF 'hyglaw26.ConvSeen'. -/
def convSeenCard : Claim7 := { stood := { row := convSeenRow, standIns := [], harness := (true, "86c55b04d323c4d6fc4dc0e88eca60b9104bf48fe7cd3684f497bdf7958d3ddf"), looks := true }, kinds := [], alts := [], laidByText := true, laidKinds := [.handle], laidTests := true, laidLooks := .later }
def ConvSeenCardSaid : Prop := Claim7.holds Tryd.pinned (.plain (OpenSpec.ofChange convSeenSpec)) convSeenCard

/-- THE TIED CARD OF 'hyglaw26.ConvBack'. -/
def convBackCard : Claim7 := { stood := { row := convBackRow, standIns := [], harness := (true, "86c55b04d323c4d6fc4dc0e88eca60b9104bf48fe7cd3684f497bdf7958d3ddf"), looks := true }, kinds := [], alts := [], laidByText := true, laidKinds := [.handle], laidTests := true, laidLooks := .later }
def ConvBackCardSaid : Prop := Claim7.holds Tryd.pinned (.plain (OpenSpec.ofChange convBackSpec)) convBackCard

/-- THE SECOND FORM's CARD OF 'hyglaw26.ConvSeen'. -/
def convSeenUptoCard : Claim7 := { stood := { row := convSeenUptoRow, standIns := [], harness := (true, "86c55b04d323c4d6fc4dc0e88eca60b9104bf48fe7cd3684f497bdf7958d3ddf"), looks := true }, kinds := [], alts := [], laidByText := true, laidKinds := [.handle], laidTests := true, laidLooks := .later }
def ConvSeenUptoCardSaid : Prop := Claim7.holds Tryd.pinned (.plain (OpenSpec.upto convSeenSpec)) convSeenUptoCard

/-- THE SECOND FORM's CARD OF 'hyglaw26.ConvBack'. -/
def convBackUptoCard : Claim7 := { stood := { row := convBackUptoRow, standIns := [], harness := (true, "86c55b04d323c4d6fc4dc0e88eca60b9104bf48fe7cd3684f497bdf7958d3ddf"), looks := true }, kinds := [], alts := [], laidByText := true, laidKinds := [.handle], laidTests := true, laidLooks := .later }
def ConvBackUptoCardSaid : Prop := Claim7.holds Tryd.pinned (.plain (OpenSpec.upto convBackSpec)) convBackUptoCard
end Rows
end Go.Proofs.YtcjdbimojffggaaDoor
