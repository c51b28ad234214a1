/-
  NARROWER THAN 'FOR EVERY INPUT', by the rows' own cells (each row's printed sentence says how): ConvBounds: loops, laid · ConvPlays: loops, laid · ConvFolds: loops, laid.
  DERIVED. THE GIVEN ROWS OF THIS SEAT. 3 by the template 'for every input the law returns true; each argument reads behind the call as it read before'; 0 by the template 'total and deterministic' (their statements: YtcjdbimojffggaaGreatDoorTotals.lean).
  GIVEN WITH THE SEED: the statements are not yours to turn. If you find one false, say at which input.
  Laid BY PROGRAM, IN A SANDBOX (cutbox-rows.mjs): the forced cells as the released guide's own fill.sh prints them over the translation adede425eb444cb0… (all of the seat's roots in one cut). By AI agents, Wed Nov 11 2026. No macro, syntax, notation, axiom, sorry.
-/
import Derived.Test.YtcjdbimojffggaaGreatDoorChecked
import GoSem.Claim
import GoSem.ClaimJoined
import GoSem.ClaimMapViews
import Derived.JoinedTies
import Derived.KernelRfl
namespace Go.Proofs.YtcjdbimojffggaaGreatDoor
/- THE CELL 'sum', in the pinned program and in every row, IS THE sha256 OF THE DUMP (.gsa) THAT YtcjdbimojffggaaGreatDoorProg.lean LOADS. Nothing in Lean hashes anything: it is a label: what it is worth is what the hold of that sum in a sandbox is worth. -/
noncomputable def Tryz.pinned : Pinned := { name := "ytcjdbimojffggaagreatdoor", sum := "adede425eb444cb0662e70c93ca89de45e0042712b545a2123fde8518fcb6ade", checked := Tryz.checked }
namespace Rows
def none {H : Type} : Left H := { results := [], args := [] }

/- WHAT THE LISTED PACKAGE-LEVEL VARIABLES READ AS WHEN THE CALL BEGINS. Each datum BY PROGRAM (the guide's laid-datum.mjs) off the statement by which the dump's own 'gosem.cut.vars' lays the variable. In a bare row this is a premise. The card (YtcjdbimojffggaaGreatDoorCards.lean) ties it to the program's text. -/
def laid_errors_errorType {H : Type} : DataW H := .iface "internal/reflectlite.rtype" (.agg [.ptr (.lit (.string [101, 114, 114, 111, 114]))])

/-- 'hyglaw26.ConvBounds': WHATEVER THE INPUT: true; the input reads as it did. -/
def convBoundsSpec : ChangeSpec := { name := "convBounds", fn := fun _ => fun
  | [d1, d2, d3, d4] => { results := [.lit (.bool true)], args := [d1, d2, d3, d4] }
  | _ => none }
def convBoundsRow : OpenClaim := { program := "ytcjdbimojffggaagreatdoor", sum := "adede425eb444cb0662e70c93ca89de45e0042712b545a2123fde8518fcb6ade", func := "hygrometer/hyglaw26.ConvBounds", spec := "convBounds", inPlace := ["internal/reflectlite.ValueOf", "(internal/reflectlite.Value).Type", "(internal/reflectlite.Value).IsNil", "internal/reflectlite.TypeOf", "(internal/reflectlite.Value).Elem", "(internal/reflectlite.Value).Set"], unfollowed := true, recurses := true, named := ["errors.errorType"], loops := true, apart := false, laid := [("errors.errorType", laid_errors_errorType)] }
def ConvBoundsSaid : Prop := convBoundsRow.holds Tryz.pinned (OpenSpec.ofChange convBoundsSpec)

/-- ITS FALSE NEIGHBOUR: 'it returns false'. Refute it at one input. -/
def convBoundsWrong : ChangeSpec := { name := "convBounds", fn := fun _ => fun
  | [d1, d2, d3, d4] => { results := [.lit (.bool false)], args := [d1, d2, d3, d4] }
  | _ => none }
def ConvBoundsWrongFalsely : Prop := convBoundsRow.holds Tryz.pinned (OpenSpec.ofChange convBoundsWrong)

/-- 'hyglaw26.ConvPlays': WHATEVER THE INPUT: true; the input reads as it did. -/
def convPlaysSpec : ChangeSpec := { name := "convPlays", fn := fun _ => fun
  | [d1, d2, d3, d4] => { results := [.lit (.bool true)], args := [d1, d2, d3, d4] }
  | _ => none }
def convPlaysRow : OpenClaim := { program := "ytcjdbimojffggaagreatdoor", sum := "adede425eb444cb0662e70c93ca89de45e0042712b545a2123fde8518fcb6ade", func := "hygrometer/hyglaw26.ConvPlays", spec := "convPlays", inPlace := ["internal/reflectlite.ValueOf", "(internal/reflectlite.Value).Type", "(internal/reflectlite.Value).IsNil", "internal/reflectlite.TypeOf", "(internal/reflectlite.Value).Elem", "(internal/reflectlite.Value).Set"], unfollowed := true, recurses := true, named := ["errors.errorType"], loops := true, apart := false, laid := [("errors.errorType", laid_errors_errorType)] }
def ConvPlaysSaid : Prop := convPlaysRow.holds Tryz.pinned (OpenSpec.ofChange convPlaysSpec)

/-- ITS FALSE NEIGHBOUR: 'it returns false'. Refute it at one input. -/
def convPlaysWrong : ChangeSpec := { name := "convPlays", fn := fun _ => fun
  | [d1, d2, d3, d4] => { results := [.lit (.bool false)], args := [d1, d2, d3, d4] }
  | _ => none }
def ConvPlaysWrongFalsely : Prop := convPlaysRow.holds Tryz.pinned (OpenSpec.ofChange convPlaysWrong)

/-- 'hyglaw26.ConvFolds': WHATEVER THE INPUT: true; the input reads as it did. -/
def convFoldsSpec : ChangeSpec := { name := "convFolds", fn := fun _ => fun
  | [d] => { results := [.lit (.bool true)], args := [d] }
  | _ => none }
def convFoldsRow : OpenClaim := { program := "ytcjdbimojffggaagreatdoor", sum := "adede425eb444cb0662e70c93ca89de45e0042712b545a2123fde8518fcb6ade", func := "hygrometer/hyglaw26.ConvFolds", spec := "convFolds", inPlace := ["internal/reflectlite.ValueOf", "(internal/reflectlite.Value).Type", "(internal/reflectlite.Value).IsNil", "internal/reflectlite.TypeOf", "(internal/reflectlite.Value).Elem", "(internal/reflectlite.Value).Set"], unfollowed := true, recurses := true, named := ["errors.errorType"], loops := true, apart := false, laid := [("errors.errorType", laid_errors_errorType)] }
def ConvFoldsSaid : Prop := convFoldsRow.holds Tryz.pinned (OpenSpec.ofChange convFoldsSpec)

/-- ITS FALSE NEIGHBOUR: 'it returns false'. Refute it at one input. -/
def convFoldsWrong : ChangeSpec := { name := "convFolds", fn := fun _ => fun
  | [d] => { results := [.lit (.bool false)], args := [d] }
  | _ => none }
def ConvFoldsWrongFalsely : Prop := convFoldsRow.holds Tryz.pinned (OpenSpec.ofChange convFoldsWrong)

/- THE SECOND FORM. 'bulk': how many values and letters a reading holds, each counted each time it is reached (what is shared counts as often as it is met; a slice's spare places count too). A statement '..UptoSaid' is the law's where the arguments, and the package variables that the reading takes, are together of bulk at most 1048576: NARROWER than '..Said'. Prove '..Said' where nothing that the law and all that it calls make is longer than what came in: it says more and counts as full. Else prove '..UptoSaid'. A law counts once. -/
mutual
def uptoBulk {H : Type} : DataW H → Nat
  | .lit (.string bytes) => bytes.length + 1
  | .lit _ => 1
  | .nil => 1
  | .ptr d => uptoBulk d + 1
  | .slice elems spare => uptoBulkAll elems + uptoBulkAll spare + 1
  | .agg parts => uptoBulkAll parts + 1
  | .iface _ d => uptoBulk d + 1
  | .map entries => uptoBulkEntries entries + 1
  | .held _ => 1
def uptoBulkAll {H : Type} : List (DataW H) → Nat
  | [] => 0
  | d :: r => uptoBulk d + uptoBulkAll r
def uptoBulkEntries {H : Type} : List (Lit × DataW H) → Nat
  | [] => 0
  | x :: r => uptoBulkEntry x + uptoBulkEntries r
def uptoBulkEntry {H : Type} : Lit × DataW H → Nat
  | (.string bytes, d) => bytes.length + uptoBulk d + 1
  | (_, d) => uptoBulk d + 1
 end
def uptoSmall : (H : Type) → List (DataW H) → Bool := fun _ ds => decide (uptoBulkAll ds ≤ 1048576)
def OpenSpec.upto (s : _root_.Go.ChangeSpec) : _root_.Go.OpenSpec := { _root_.Go.OpenSpec.ofChange s with cond := some uptoSmall }

/-- 'hyglaw26.ConvBounds', WHERE WHAT IT READS IS OF BULK AT MOST 1048576: true; the input reads as it did. -/
def convBoundsUptoRow : OpenClaim := { program := "ytcjdbimojffggaagreatdoor", sum := "adede425eb444cb0662e70c93ca89de45e0042712b545a2123fde8518fcb6ade", func := "hygrometer/hyglaw26.ConvBounds", spec := "convBounds", inPlace := ["internal/reflectlite.ValueOf", "(internal/reflectlite.Value).Type", "(internal/reflectlite.Value).IsNil", "internal/reflectlite.TypeOf", "(internal/reflectlite.Value).Elem", "(internal/reflectlite.Value).Set"], unfollowed := true, recurses := true, named := ["errors.errorType"], loops := true, apart := false, laid := [("errors.errorType", laid_errors_errorType)], narrowed := true }
def ConvBoundsUptoSaid : Prop := convBoundsUptoRow.holds Tryz.pinned (OpenSpec.upto convBoundsSpec)

/-- 'hyglaw26.ConvPlays', WHERE WHAT IT READS IS OF BULK AT MOST 1048576: true; the input reads as it did. -/
def convPlaysUptoRow : OpenClaim := { program := "ytcjdbimojffggaagreatdoor", sum := "adede425eb444cb0662e70c93ca89de45e0042712b545a2123fde8518fcb6ade", func := "hygrometer/hyglaw26.ConvPlays", spec := "convPlays", inPlace := ["internal/reflectlite.ValueOf", "(internal/reflectlite.Value).Type", "(internal/reflectlite.Value).IsNil", "internal/reflectlite.TypeOf", "(internal/reflectlite.Value).Elem", "(internal/reflectlite.Value).Set"], unfollowed := true, recurses := true, named := ["errors.errorType"], loops := true, apart := false, laid := [("errors.errorType", laid_errors_errorType)], narrowed := true }
def ConvPlaysUptoSaid : Prop := convPlaysUptoRow.holds Tryz.pinned (OpenSpec.upto convPlaysSpec)

/-- 'hyglaw26.ConvFolds', WHERE WHAT IT READS IS OF BULK AT MOST 1048576: true; the input reads as it did. -/
def convFoldsUptoRow : OpenClaim := { program := "ytcjdbimojffggaagreatdoor", sum := "adede425eb444cb0662e70c93ca89de45e0042712b545a2123fde8518fcb6ade", func := "hygrometer/hyglaw26.ConvFolds", spec := "convFolds", inPlace := ["internal/reflectlite.ValueOf", "(internal/reflectlite.Value).Type", "(internal/reflectlite.Value).IsNil", "internal/reflectlite.TypeOf", "(internal/reflectlite.Value).Elem", "(internal/reflectlite.Value).Set"], unfollowed := true, recurses := true, named := ["errors.errorType"], loops := true, apart := false, laid := [("errors.errorType", laid_errors_errorType)], narrowed := true }
def ConvFoldsUptoSaid : Prop := convFoldsUptoRow.holds Tryz.pinned (OpenSpec.upto convFoldsSpec)

end Rows
end Go.Proofs.YtcjdbimojffggaaGreatDoor
