/-
  NARROWER THAN 'FOR EVERY INPUT', by the rows' own cells (each row's printed sentence says how): MergeSteps: laid · MergeSides: laid · MergeFits: loops, laid · MergeLeast: loops, laid · MergeTotals: loops, laid · MergeOrder: loops, laid · MergeBack: loops, laid.
  DERIVED. THE GIVEN ROWS OF THIS SEAT. 7 by the template 'for every input the law returns true; each argument reads behind the call as it read before'; 0 by the template 'total and deterministic' (their statements: YtcmghblegllmlaaDoorTotals.lean).
  GIVEN WITH THE SEED: the statements are not yours to turn. If you find one false, say at which input.
  Laid BY PROGRAM, IN A SANDBOX (cutbox-rows.mjs): the forced cells as the released guide's own fill.sh prints them over the translation e8d901ecf26d4248… (all of the seat's roots in one cut). By AI agents, Wed Nov 11 2026. No macro, syntax, notation, axiom, sorry.
-/
import Derived.Test.YtcmghblegllmlaaDoorChecked
import GoSem.Claim
import GoSem.ClaimJoined
import GoSem.ClaimMapViews
import Derived.JoinedTies
import Derived.KernelRfl
namespace Go.Proofs.YtcmghblegllmlaaDoor
/- THE CELL 'sum', in the pinned program and in every row, IS THE sha256 OF THE DUMP (.gsa) THAT YtcmghblegllmlaaDoorProg.lean LOADS. Nothing in Lean hashes anything: it is a label: what it is worth is what the hold of that sum in a sandbox is worth. -/
noncomputable def Tryd.pinned : Pinned := { name := "ytcmghblegllmlaadoor", sum := "e8d901ecf26d424880034b31080436270ce7b6d709558de7f4556f40bd695d64", checked := Tryd.checked }
namespace Rows
def none {H : Type} : Left H := { results := [], args := [] }

/- WHAT THE LISTED PACKAGE-LEVEL VARIABLES READ AS WHEN THE CALL BEGINS. Each datum BY PROGRAM (the guide's laid-datum.mjs) off the statement by which the dump's own 'gosem.cut.vars' lays the variable. In a bare row this is a premise. The card (YtcmghblegllmlaaDoorCards.lean) ties it to the program's text. -/
def laid_errors_errorType {H : Type} : DataW H := .iface "internal/reflectlite.rtype" (.agg [.ptr (.lit (.string [101, 114, 114, 111, 114]))])

/-- 'hyglaw25.MergeSteps': WHATEVER THE INPUT: true; the input reads as it did. -/
def mergeStepsSpec : ChangeSpec := { name := "mergeSteps", fn := fun _ => fun
  | [d1, d2, d3] => { results := [.lit (.bool true)], args := [d1, d2, d3] }
  | _ => none }
def mergeStepsRow : OpenClaim := { program := "ytcmghblegllmlaadoor", sum := "e8d901ecf26d424880034b31080436270ce7b6d709558de7f4556f40bd695d64", func := "hygrometer/hyglaw25.MergeSteps", spec := "mergeSteps", inPlace := ["internal/reflectlite.ValueOf", "(internal/reflectlite.Value).Type", "(internal/reflectlite.Value).IsNil", "internal/reflectlite.TypeOf", "(internal/reflectlite.Value).Elem", "(internal/reflectlite.Value).Set"], unfollowed := true, recurses := true, named := ["errors.errorType"], apart := false, laid := [("errors.errorType", laid_errors_errorType)] }
def MergeStepsSaid : Prop := mergeStepsRow.holds Tryd.pinned (OpenSpec.ofChange mergeStepsSpec)

/-- ITS FALSE NEIGHBOUR: 'it returns false'. Refute it at one input. -/
def mergeStepsWrong : ChangeSpec := { name := "mergeSteps", fn := fun _ => fun
  | [d1, d2, d3] => { results := [.lit (.bool false)], args := [d1, d2, d3] }
  | _ => none }
def MergeStepsWrongFalsely : Prop := mergeStepsRow.holds Tryd.pinned (OpenSpec.ofChange mergeStepsWrong)

/-- 'hyglaw25.MergeSides': WHATEVER THE INPUT: true; the input reads as it did. -/
def mergeSidesSpec : ChangeSpec := { name := "mergeSides", fn := fun _ => fun
  | [d1, d2] => { results := [.lit (.bool true)], args := [d1, d2] }
  | _ => none }
def mergeSidesRow : OpenClaim := { program := "ytcmghblegllmlaadoor", sum := "e8d901ecf26d424880034b31080436270ce7b6d709558de7f4556f40bd695d64", func := "hygrometer/hyglaw25.MergeSides", spec := "mergeSides", inPlace := ["internal/reflectlite.ValueOf", "(internal/reflectlite.Value).Type", "(internal/reflectlite.Value).IsNil", "internal/reflectlite.TypeOf", "(internal/reflectlite.Value).Elem", "(internal/reflectlite.Value).Set"], unfollowed := true, recurses := true, named := ["errors.errorType"], apart := false, laid := [("errors.errorType", laid_errors_errorType)] }
def MergeSidesSaid : Prop := mergeSidesRow.holds Tryd.pinned (OpenSpec.ofChange mergeSidesSpec)

/-- ITS FALSE NEIGHBOUR: 'it returns false'. Refute it at one input. -/
def mergeSidesWrong : ChangeSpec := { name := "mergeSides", fn := fun _ => fun
  | [d1, d2] => { results := [.lit (.bool false)], args := [d1, d2] }
  | _ => none }
def MergeSidesWrongFalsely : Prop := mergeSidesRow.holds Tryd.pinned (OpenSpec.ofChange mergeSidesWrong)

/-- 'hyglaw25.MergeFits': WHATEVER THE INPUT: true; the input reads as it did. -/
def mergeFitsSpec : ChangeSpec := { name := "mergeFits", fn := fun _ => fun
  | [d1, d2, d3] => { results := [.lit (.bool true)], args := [d1, d2, d3] }
  | _ => none }
def mergeFitsRow : OpenClaim := { program := "ytcmghblegllmlaadoor", sum := "e8d901ecf26d424880034b31080436270ce7b6d709558de7f4556f40bd695d64", func := "hygrometer/hyglaw25.MergeFits", spec := "mergeFits", inPlace := ["internal/reflectlite.ValueOf", "(internal/reflectlite.Value).Type", "(internal/reflectlite.Value).IsNil", "internal/reflectlite.TypeOf", "(internal/reflectlite.Value).Elem", "(internal/reflectlite.Value).Set"], unfollowed := true, recurses := true, named := ["errors.errorType"], loops := true, apart := false, laid := [("errors.errorType", laid_errors_errorType)] }
def MergeFitsSaid : Prop := mergeFitsRow.holds Tryd.pinned (OpenSpec.ofChange mergeFitsSpec)

/-- ITS FALSE NEIGHBOUR: 'it returns false'. Refute it at one input. -/
def mergeFitsWrong : ChangeSpec := { name := "mergeFits", fn := fun _ => fun
  | [d1, d2, d3] => { results := [.lit (.bool false)], args := [d1, d2, d3] }
  | _ => none }
def MergeFitsWrongFalsely : Prop := mergeFitsRow.holds Tryd.pinned (OpenSpec.ofChange mergeFitsWrong)

/-- 'hyglaw25.MergeLeast': WHATEVER THE INPUT: true; the input reads as it did. -/
def mergeLeastSpec : ChangeSpec := { name := "mergeLeast", fn := fun _ => fun
  | [d1, d2] => { results := [.lit (.bool true)], args := [d1, d2] }
  | _ => none }
def mergeLeastRow : OpenClaim := { program := "ytcmghblegllmlaadoor", sum := "e8d901ecf26d424880034b31080436270ce7b6d709558de7f4556f40bd695d64", func := "hygrometer/hyglaw25.MergeLeast", spec := "mergeLeast", inPlace := ["internal/reflectlite.ValueOf", "(internal/reflectlite.Value).Type", "(internal/reflectlite.Value).IsNil", "internal/reflectlite.TypeOf", "(internal/reflectlite.Value).Elem", "(internal/reflectlite.Value).Set"], unfollowed := true, recurses := true, named := ["errors.errorType"], loops := true, apart := false, laid := [("errors.errorType", laid_errors_errorType)] }
def MergeLeastSaid : Prop := mergeLeastRow.holds Tryd.pinned (OpenSpec.ofChange mergeLeastSpec)

/-- ITS FALSE NEIGHBOUR: 'it returns false'. Refute it at one input. -/
def mergeLeastWrong : ChangeSpec := { name := "mergeLeast", fn := fun _ => fun
  | [d1, d2] => { results := [.lit (.bool false)], args := [d1, d2] }
  | _ => none }
def MergeLeastWrongFalsely : Prop := mergeLeastRow.holds Tryd.pinned (OpenSpec.ofChange mergeLeastWrong)

/-- 'hyglaw25.MergeTotals': WHATEVER THE INPUT: true; the input reads as it did. -/
def mergeTotalsSpec : ChangeSpec := { name := "mergeTotals", fn := fun _ => fun
  | [d1, d2, d3, d4] => { results := [.lit (.bool true)], args := [d1, d2, d3, d4] }
  | _ => none }
def mergeTotalsRow : OpenClaim := { program := "ytcmghblegllmlaadoor", sum := "e8d901ecf26d424880034b31080436270ce7b6d709558de7f4556f40bd695d64", func := "hygrometer/hyglaw25.MergeTotals", spec := "mergeTotals", inPlace := ["internal/reflectlite.ValueOf", "(internal/reflectlite.Value).Type", "(internal/reflectlite.Value).IsNil", "internal/reflectlite.TypeOf", "(internal/reflectlite.Value).Elem", "(internal/reflectlite.Value).Set"], unfollowed := true, recurses := true, named := ["errors.errorType"], loops := true, apart := false, laid := [("errors.errorType", laid_errors_errorType)] }
def MergeTotalsSaid : Prop := mergeTotalsRow.holds Tryd.pinned (OpenSpec.ofChange mergeTotalsSpec)

/-- ITS FALSE NEIGHBOUR: 'it returns false'. Refute it at one input. -/
def mergeTotalsWrong : ChangeSpec := { name := "mergeTotals", fn := fun _ => fun
  | [d1, d2, d3, d4] => { results := [.lit (.bool false)], args := [d1, d2, d3, d4] }
  | _ => none }
def MergeTotalsWrongFalsely : Prop := mergeTotalsRow.holds Tryd.pinned (OpenSpec.ofChange mergeTotalsWrong)

/-- 'hyglaw25.MergeOrder': WHATEVER THE INPUT: true; the input reads as it did. -/
def mergeOrderSpec : ChangeSpec := { name := "mergeOrder", fn := fun _ => fun
  | [d1, d2, d3, d4, d5, d6] => { results := [.lit (.bool true)], args := [d1, d2, d3, d4, d5, d6] }
  | _ => none }
def mergeOrderRow : OpenClaim := { program := "ytcmghblegllmlaadoor", sum := "e8d901ecf26d424880034b31080436270ce7b6d709558de7f4556f40bd695d64", func := "hygrometer/hyglaw25.MergeOrder", spec := "mergeOrder", inPlace := ["internal/reflectlite.ValueOf", "(internal/reflectlite.Value).Type", "(internal/reflectlite.Value).IsNil", "internal/reflectlite.TypeOf", "(internal/reflectlite.Value).Elem", "(internal/reflectlite.Value).Set"], unfollowed := true, recurses := true, named := ["errors.errorType"], loops := true, apart := false, laid := [("errors.errorType", laid_errors_errorType)] }
def MergeOrderSaid : Prop := mergeOrderRow.holds Tryd.pinned (OpenSpec.ofChange mergeOrderSpec)

/-- ITS FALSE NEIGHBOUR: 'it returns false'. Refute it at one input. -/
def mergeOrderWrong : ChangeSpec := { name := "mergeOrder", fn := fun _ => fun
  | [d1, d2, d3, d4, d5, d6] => { results := [.lit (.bool false)], args := [d1, d2, d3, d4, d5, d6] }
  | _ => none }
def MergeOrderWrongFalsely : Prop := mergeOrderRow.holds Tryd.pinned (OpenSpec.ofChange mergeOrderWrong)

/-- 'hyglaw25.MergeBack': WHATEVER THE INPUT: true; the input reads as it did. -/
def mergeBackSpec : ChangeSpec := { name := "mergeBack", fn := fun _ => fun
  | [d1, d2, d3, d4, d5, d6] => { results := [.lit (.bool true)], args := [d1, d2, d3, d4, d5, d6] }
  | _ => none }
def mergeBackRow : OpenClaim := { program := "ytcmghblegllmlaadoor", sum := "e8d901ecf26d424880034b31080436270ce7b6d709558de7f4556f40bd695d64", func := "hygrometer/hyglaw25.MergeBack", spec := "mergeBack", inPlace := ["internal/reflectlite.ValueOf", "(internal/reflectlite.Value).Type", "(internal/reflectlite.Value).IsNil", "internal/reflectlite.TypeOf", "(internal/reflectlite.Value).Elem", "(internal/reflectlite.Value).Set"], unfollowed := true, recurses := true, named := ["errors.errorType"], loops := true, apart := false, laid := [("errors.errorType", laid_errors_errorType)] }
def MergeBackSaid : Prop := mergeBackRow.holds Tryd.pinned (OpenSpec.ofChange mergeBackSpec)

/-- ITS FALSE NEIGHBOUR: 'it returns false'. Refute it at one input. -/
def mergeBackWrong : ChangeSpec := { name := "mergeBack", fn := fun _ => fun
  | [d1, d2, d3, d4, d5, d6] => { results := [.lit (.bool false)], args := [d1, d2, d3, d4, d5, d6] }
  | _ => none }
def MergeBackWrongFalsely : Prop := mergeBackRow.holds Tryd.pinned (OpenSpec.ofChange mergeBackWrong)

/- THE SECOND FORM. 'bulk': how many values and letters a reading holds, each counted each time it is reached (what is shared counts as often as it is met; a slice's spare places count too). A statement '..UptoSaid' is the law's where the arguments, and the package variables that the reading takes, are together of bulk at most 1048576: NARROWER than '..Said'. Prove '..Said' where nothing that the law and all that it calls make is longer than what came in: it says more and counts as full. Else prove '..UptoSaid'. A law counts once. -/
mutual
def uptoBulk {H : Type} : DataW H → Nat
  | .lit (.string bytes) => bytes.length + 1
  | .lit _ => 1
  | .nil => 1
  | .ptr d => uptoBulk d + 1
  | .slice elems spare => uptoBulkAll elems + uptoBulkAll spare + 1
  | .agg parts => uptoBulkAll parts + 1
  | .iface _ d => uptoBulk d + 1
  | .map entries => uptoBulkEntries entries + 1
  | .held _ => 1
def uptoBulkAll {H : Type} : List (DataW H) → Nat
  | [] => 0
  | d :: r => uptoBulk d + uptoBulkAll r
def uptoBulkEntries {H : Type} : List (Lit × DataW H) → Nat
  | [] => 0
  | x :: r => uptoBulkEntry x + uptoBulkEntries r
def uptoBulkEntry {H : Type} : Lit × DataW H → Nat
  | (.string bytes, d) => bytes.length + uptoBulk d + 1
  | (_, d) => uptoBulk d + 1
 end
def uptoSmall : (H : Type) → List (DataW H) → Bool := fun _ ds => decide (uptoBulkAll ds ≤ 1048576)
def OpenSpec.upto (s : _root_.Go.ChangeSpec) : _root_.Go.OpenSpec := { _root_.Go.OpenSpec.ofChange s with cond := some uptoSmall }

/-- 'hyglaw25.MergeSteps', WHERE WHAT IT READS IS OF BULK AT MOST 1048576: true; the input reads as it did. -/
def mergeStepsUptoRow : OpenClaim := { program := "ytcmghblegllmlaadoor", sum := "e8d901ecf26d424880034b31080436270ce7b6d709558de7f4556f40bd695d64", func := "hygrometer/hyglaw25.MergeSteps", spec := "mergeSteps", inPlace := ["internal/reflectlite.ValueOf", "(internal/reflectlite.Value).Type", "(internal/reflectlite.Value).IsNil", "internal/reflectlite.TypeOf", "(internal/reflectlite.Value).Elem", "(internal/reflectlite.Value).Set"], unfollowed := true, recurses := true, named := ["errors.errorType"], apart := false, laid := [("errors.errorType", laid_errors_errorType)], narrowed := true }
def MergeStepsUptoSaid : Prop := mergeStepsUptoRow.holds Tryd.pinned (OpenSpec.upto mergeStepsSpec)

/-- 'hyglaw25.MergeSides', WHERE WHAT IT READS IS OF BULK AT MOST 1048576: true; the input reads as it did. -/
def mergeSidesUptoRow : OpenClaim := { program := "ytcmghblegllmlaadoor", sum := "e8d901ecf26d424880034b31080436270ce7b6d709558de7f4556f40bd695d64", func := "hygrometer/hyglaw25.MergeSides", spec := "mergeSides", inPlace := ["internal/reflectlite.ValueOf", "(internal/reflectlite.Value).Type", "(internal/reflectlite.Value).IsNil", "internal/reflectlite.TypeOf", "(internal/reflectlite.Value).Elem", "(internal/reflectlite.Value).Set"], unfollowed := true, recurses := true, named := ["errors.errorType"], apart := false, laid := [("errors.errorType", laid_errors_errorType)], narrowed := true }
def MergeSidesUptoSaid : Prop := mergeSidesUptoRow.holds Tryd.pinned (OpenSpec.upto mergeSidesSpec)

/-- 'hyglaw25.MergeFits', WHERE WHAT IT READS IS OF BULK AT MOST 1048576: true; the input reads as it did. -/
def mergeFitsUptoRow : OpenClaim := { program := "ytcmghblegllmlaadoor", sum := "e8d901ecf26d424880034b31080436270ce7b6d709558de7f4556f40bd695d64", func := "hygrometer/hyglaw25.MergeFits", spec := "mergeFits", inPlace := ["internal/reflectlite.ValueOf", "(internal/reflectlite.Value).Type", "(internal/reflectlite.Value).IsNil", "internal/reflectlite.TypeOf", "(internal/reflectlite.Value).Elem", "(internal/reflectlite.Value).Set"], unfollowed := true, recurses := true, named := ["errors.errorType"], loops := true, apart := false, laid := [("errors.errorType", laid_errors_errorType)], narrowed := true }
def MergeFitsUptoSaid : Prop := mergeFitsUptoRow.holds Tryd.pinned (OpenSpec.upto mergeFitsSpec)

/-- 'hyglaw25.MergeLeast', WHERE WHAT IT READS IS OF BULK AT MOST 1048576: true; the input reads as it did. -/
def mergeLeastUptoRow : OpenClaim := { program := "ytcmghblegllmlaadoor", sum := "e8d901ecf26d424880034b31080436270ce7b6d709558de7f4556f40bd695d64", func := "hygrometer/hyglaw25.MergeLeast", spec := "mergeLeast", inPlace := ["internal/reflectlite.ValueOf", "(internal/reflectlite.Value).Type", "(internal/reflectlite.Value).IsNil", "internal/reflectlite.TypeOf", "(internal/reflectlite.Value).Elem", "(internal/reflectlite.Value).Set"], unfollowed := true, recurses := true, named := ["errors.errorType"], loops := true, apart := false, laid := [("errors.errorType", laid_errors_errorType)], narrowed := true }
def MergeLeastUptoSaid : Prop := mergeLeastUptoRow.holds Tryd.pinned (OpenSpec.upto mergeLeastSpec)

/-- 'hyglaw25.MergeTotals', WHERE WHAT IT READS IS OF BULK AT MOST 1048576: true; the input reads as it did. -/
def mergeTotalsUptoRow : OpenClaim := { program := "ytcmghblegllmlaadoor", sum := "e8d901ecf26d424880034b31080436270ce7b6d709558de7f4556f40bd695d64", func := "hygrometer/hyglaw25.MergeTotals", spec := "mergeTotals", inPlace := ["internal/reflectlite.ValueOf", "(internal/reflectlite.Value).Type", "(internal/reflectlite.Value).IsNil", "internal/reflectlite.TypeOf", "(internal/reflectlite.Value).Elem", "(internal/reflectlite.Value).Set"], unfollowed := true, recurses := true, named := ["errors.errorType"], loops := true, apart := false, laid := [("errors.errorType", laid_errors_errorType)], narrowed := true }
def MergeTotalsUptoSaid : Prop := mergeTotalsUptoRow.holds Tryd.pinned (OpenSpec.upto mergeTotalsSpec)

/-- 'hyglaw25.MergeOrder', WHERE WHAT IT READS IS OF BULK AT MOST 1048576: true; the input reads as it did. -/
def mergeOrderUptoRow : OpenClaim := { program := "ytcmghblegllmlaadoor", sum := "e8d901ecf26d424880034b31080436270ce7b6d709558de7f4556f40bd695d64", func := "hygrometer/hyglaw25.MergeOrder", spec := "mergeOrder", inPlace := ["internal/reflectlite.ValueOf", "(internal/reflectlite.Value).Type", "(internal/reflectlite.Value).IsNil", "internal/reflectlite.TypeOf", "(internal/reflectlite.Value).Elem", "(internal/reflectlite.Value).Set"], unfollowed := true, recurses := true, named := ["errors.errorType"], loops := true, apart := false, laid := [("errors.errorType", laid_errors_errorType)], narrowed := true }
def MergeOrderUptoSaid : Prop := mergeOrderUptoRow.holds Tryd.pinned (OpenSpec.upto mergeOrderSpec)

/-- 'hyglaw25.MergeBack', WHERE WHAT IT READS IS OF BULK AT MOST 1048576: true; the input reads as it did. -/
def mergeBackUptoRow : OpenClaim := { program := "ytcmghblegllmlaadoor", sum := "e8d901ecf26d424880034b31080436270ce7b6d709558de7f4556f40bd695d64", func := "hygrometer/hyglaw25.MergeBack", spec := "mergeBack", inPlace := ["internal/reflectlite.ValueOf", "(internal/reflectlite.Value).Type", "(internal/reflectlite.Value).IsNil", "internal/reflectlite.TypeOf", "(internal/reflectlite.Value).Elem", "(internal/reflectlite.Value).Set"], unfollowed := true, recurses := true, named := ["errors.errorType"], loops := true, apart := false, laid := [("errors.errorType", laid_errors_errorType)], narrowed := true }
def MergeBackUptoSaid : Prop := mergeBackUptoRow.holds Tryd.pinned (OpenSpec.upto mergeBackSpec)

end Rows
end Go.Proofs.YtcmghblegllmlaaDoor
