/-
  No cell of these rows narrows 'for every input' (looked for: loops, veiled, ifaces, maps, wideKeys, modest, calm, conditions, laid).
  DERIVED. THE GIVEN ROWS OF THIS SEAT. 11 by the template 'for every input the law returns true; each argument reads behind the call as it read before'; 0 by the template 'total and deterministic' (their statements: YtmljncgglpckcaaTotals.lean).
  GIVEN WITH THE SEED: the statements are not yours to turn. If you find one false, say at which input.
  Laid BY PROGRAM, IN A SANDBOX (cutbox-rows.mjs): the forced cells as the released guide's own fill.sh prints them over the translation e65d6788015ef08e… (all of the seat's roots in one cut). By AI agents, Wed Nov 11 2026. No macro, syntax, notation, axiom, sorry.
-/
import Derived.Test.YtmljncgglpckcaaChecked
import GoSem.Claim
import GoSem.ClaimJoined
import GoSem.ClaimMapViews
import Derived.JoinedTies
import Derived.KernelRfl
namespace Go.Proofs.Ytmljncgglpckcaa
/- THE CELL 'sum', in the pinned program and in every row, IS THE sha256 OF THE DUMP (.gsa) THAT YtmljncgglpckcaaProg.lean LOADS. Nothing in Lean hashes anything: it is a label: what it is worth is what the hold of that sum in a sandbox is worth. -/
noncomputable def Try.pinned : Pinned := { name := "ytmljncgglpckcaa", sum := "e65d6788015ef08e67c862f0ad7e8027497c350081903030ab19e2c758bf477f", checked := Try.checked }
namespace Rows
def none {H : Type} : Left H := { results := [], args := [] }

/-- 'hyglaw6.FltInts': WHATEVER THE INPUT: true; the input reads as it did. -/
def fltIntsSpec : ChangeSpec := { name := "fltInts", fn := fun _ => fun
  | [d1, d2] => { results := [.lit (.bool true)], args := [d1, d2] }
  | _ => none }
def fltIntsRow : OpenClaim := { program := "ytmljncgglpckcaa", sum := "e65d6788015ef08e67c862f0ad7e8027497c350081903030ab19e2c758bf477f", func := "hygrometer/hyglaw6.FltInts", spec := "fltInts", apart := false }
def FltIntsSaid : Prop := fltIntsRow.holds Try.pinned (OpenSpec.ofChange fltIntsSpec)

/-- ITS FALSE NEIGHBOUR: 'it returns false'. Refute it at one input. -/
def fltIntsWrong : ChangeSpec := { name := "fltInts", fn := fun _ => fun
  | [d1, d2] => { results := [.lit (.bool false)], args := [d1, d2] }
  | _ => none }
def FltIntsWrongFalsely : Prop := fltIntsRow.holds Try.pinned (OpenSpec.ofChange fltIntsWrong)

/-- 'hyglaw6.FltBack': WHATEVER THE INPUT: true; the input reads as it did. -/
def fltBackSpec : ChangeSpec := { name := "fltBack", fn := fun _ => fun
  | [d1, d2] => { results := [.lit (.bool true)], args := [d1, d2] }
  | _ => none }
def fltBackRow : OpenClaim := { program := "ytmljncgglpckcaa", sum := "e65d6788015ef08e67c862f0ad7e8027497c350081903030ab19e2c758bf477f", func := "hygrometer/hyglaw6.FltBack", spec := "fltBack", apart := false }
def FltBackSaid : Prop := fltBackRow.holds Try.pinned (OpenSpec.ofChange fltBackSpec)

/-- ITS FALSE NEIGHBOUR: 'it returns false'. Refute it at one input. -/
def fltBackWrong : ChangeSpec := { name := "fltBack", fn := fun _ => fun
  | [d1, d2] => { results := [.lit (.bool false)], args := [d1, d2] }
  | _ => none }
def FltBackWrongFalsely : Prop := fltBackRow.holds Try.pinned (OpenSpec.ofChange fltBackWrong)

/-- 'hyglaw6.FltOrder': WHATEVER THE INPUT: true; the input reads as it did. -/
def fltOrderSpec : ChangeSpec := { name := "fltOrder", fn := fun _ => fun
  | [d1, d2, d3] => { results := [.lit (.bool true)], args := [d1, d2, d3] }
  | _ => none }
def fltOrderRow : OpenClaim := { program := "ytmljncgglpckcaa", sum := "e65d6788015ef08e67c862f0ad7e8027497c350081903030ab19e2c758bf477f", func := "hygrometer/hyglaw6.FltOrder", spec := "fltOrder", apart := false }
def FltOrderSaid : Prop := fltOrderRow.holds Try.pinned (OpenSpec.ofChange fltOrderSpec)

/-- ITS FALSE NEIGHBOUR: 'it returns false'. Refute it at one input. -/
def fltOrderWrong : ChangeSpec := { name := "fltOrder", fn := fun _ => fun
  | [d1, d2, d3] => { results := [.lit (.bool false)], args := [d1, d2, d3] }
  | _ => none }
def FltOrderWrongFalsely : Prop := fltOrderRow.holds Try.pinned (OpenSpec.ofChange fltOrderWrong)

/-- 'hyglaw7.FaddSums': WHATEVER THE INPUT: true; the input reads as it did. -/
def faddSumsSpec : ChangeSpec := { name := "faddSums", fn := fun _ => fun
  | [d] => { results := [.lit (.bool true)], args := [d] }
  | _ => none }
def faddSumsRow : OpenClaim := { program := "ytmljncgglpckcaa", sum := "e65d6788015ef08e67c862f0ad7e8027497c350081903030ab19e2c758bf477f", func := "hygrometer/hyglaw7.FaddSums", spec := "faddSums", apart := false }
def FaddSumsSaid : Prop := faddSumsRow.holds Try.pinned (OpenSpec.ofChange faddSumsSpec)

/-- ITS FALSE NEIGHBOUR: 'it returns false'. Refute it at one input. -/
def faddSumsWrong : ChangeSpec := { name := "faddSums", fn := fun _ => fun
  | [d] => { results := [.lit (.bool false)], args := [d] }
  | _ => none }
def FaddSumsWrongFalsely : Prop := faddSumsRow.holds Try.pinned (OpenSpec.ofChange faddSumsWrong)

/-- 'hyglaw7.FaddCuts': WHATEVER THE INPUT: true; the input reads as it did. -/
def faddCutsSpec : ChangeSpec := { name := "faddCuts", fn := fun _ => fun
  | [d1, d2] => { results := [.lit (.bool true)], args := [d1, d2] }
  | _ => none }
def faddCutsRow : OpenClaim := { program := "ytmljncgglpckcaa", sum := "e65d6788015ef08e67c862f0ad7e8027497c350081903030ab19e2c758bf477f", func := "hygrometer/hyglaw7.FaddCuts", spec := "faddCuts", apart := false }
def FaddCutsSaid : Prop := faddCutsRow.holds Try.pinned (OpenSpec.ofChange faddCutsSpec)

/-- ITS FALSE NEIGHBOUR: 'it returns false'. Refute it at one input. -/
def faddCutsWrong : ChangeSpec := { name := "faddCuts", fn := fun _ => fun
  | [d1, d2] => { results := [.lit (.bool false)], args := [d1, d2] }
  | _ => none }
def FaddCutsWrongFalsely : Prop := faddCutsRow.holds Try.pinned (OpenSpec.ofChange faddCutsWrong)

/-- 'hyglaw6.FltLeast': WHATEVER THE INPUT: true; the input reads as it did. -/
def fltLeastSpec : ChangeSpec := { name := "fltLeast", fn := fun _ => fun
  | [d1, d2] => { results := [.lit (.bool true)], args := [d1, d2] }
  | _ => none }
def fltLeastRow : OpenClaim := { program := "ytmljncgglpckcaa", sum := "e65d6788015ef08e67c862f0ad7e8027497c350081903030ab19e2c758bf477f", func := "hygrometer/hyglaw6.FltLeast", spec := "fltLeast", apart := false }
def FltLeastSaid : Prop := fltLeastRow.holds Try.pinned (OpenSpec.ofChange fltLeastSpec)

/-- ITS FALSE NEIGHBOUR: 'it returns false'. Refute it at one input. -/
def fltLeastWrong : ChangeSpec := { name := "fltLeast", fn := fun _ => fun
  | [d1, d2] => { results := [.lit (.bool false)], args := [d1, d2] }
  | _ => none }
def FltLeastWrongFalsely : Prop := fltLeastRow.holds Try.pinned (OpenSpec.ofChange fltLeastWrong)

/-- 'hyglaw6.FltTells': WHATEVER THE INPUT: true; the input reads as it did. -/
def fltTellsSpec : ChangeSpec := { name := "fltTells", fn := fun _ => fun
  | [d1, d2] => { results := [.lit (.bool true)], args := [d1, d2] }
  | _ => none }
def fltTellsRow : OpenClaim := { program := "ytmljncgglpckcaa", sum := "e65d6788015ef08e67c862f0ad7e8027497c350081903030ab19e2c758bf477f", func := "hygrometer/hyglaw6.FltTells", spec := "fltTells", apart := false }
def FltTellsSaid : Prop := fltTellsRow.holds Try.pinned (OpenSpec.ofChange fltTellsSpec)

/-- ITS FALSE NEIGHBOUR: 'it returns false'. Refute it at one input. -/
def fltTellsWrong : ChangeSpec := { name := "fltTells", fn := fun _ => fun
  | [d1, d2] => { results := [.lit (.bool false)], args := [d1, d2] }
  | _ => none }
def FltTellsWrongFalsely : Prop := fltTellsRow.holds Try.pinned (OpenSpec.ofChange fltTellsWrong)

/-- 'hyglaw7.FaddAdds': WHATEVER THE INPUT: true; the input reads as it did. -/
def faddAddsSpec : ChangeSpec := { name := "faddAdds", fn := fun _ => fun
  | [d1, d2] => { results := [.lit (.bool true)], args := [d1, d2] }
  | _ => none }
def faddAddsRow : OpenClaim := { program := "ytmljncgglpckcaa", sum := "e65d6788015ef08e67c862f0ad7e8027497c350081903030ab19e2c758bf477f", func := "hygrometer/hyglaw7.FaddAdds", spec := "faddAdds", apart := false }
def FaddAddsSaid : Prop := faddAddsRow.holds Try.pinned (OpenSpec.ofChange faddAddsSpec)

/-- ITS FALSE NEIGHBOUR: 'it returns false'. Refute it at one input. -/
def faddAddsWrong : ChangeSpec := { name := "faddAdds", fn := fun _ => fun
  | [d1, d2] => { results := [.lit (.bool false)], args := [d1, d2] }
  | _ => none }
def FaddAddsWrongFalsely : Prop := faddAddsRow.holds Try.pinned (OpenSpec.ofChange faddAddsWrong)

/-- 'hyglaw7.FaddTurns': WHATEVER THE INPUT: true; the input reads as it did. -/
def faddTurnsSpec : ChangeSpec := { name := "faddTurns", fn := fun _ => fun
  | [d1, d2] => { results := [.lit (.bool true)], args := [d1, d2] }
  | _ => none }
def faddTurnsRow : OpenClaim := { program := "ytmljncgglpckcaa", sum := "e65d6788015ef08e67c862f0ad7e8027497c350081903030ab19e2c758bf477f", func := "hygrometer/hyglaw7.FaddTurns", spec := "faddTurns", apart := false }
def FaddTurnsSaid : Prop := faddTurnsRow.holds Try.pinned (OpenSpec.ofChange faddTurnsSpec)

/-- ITS FALSE NEIGHBOUR: 'it returns false'. Refute it at one input. -/
def faddTurnsWrong : ChangeSpec := { name := "faddTurns", fn := fun _ => fun
  | [d1, d2] => { results := [.lit (.bool false)], args := [d1, d2] }
  | _ => none }
def FaddTurnsWrongFalsely : Prop := faddTurnsRow.holds Try.pinned (OpenSpec.ofChange faddTurnsWrong)

/-- 'hyglaw7.FaddNear': WHATEVER THE INPUT: true; the input reads as it did. -/
def faddNearSpec : ChangeSpec := { name := "faddNear", fn := fun _ => fun
  | [d1, d2] => { results := [.lit (.bool true)], args := [d1, d2] }
  | _ => none }
def faddNearRow : OpenClaim := { program := "ytmljncgglpckcaa", sum := "e65d6788015ef08e67c862f0ad7e8027497c350081903030ab19e2c758bf477f", func := "hygrometer/hyglaw7.FaddNear", spec := "faddNear", apart := false }
def FaddNearSaid : Prop := faddNearRow.holds Try.pinned (OpenSpec.ofChange faddNearSpec)

/-- ITS FALSE NEIGHBOUR: 'it returns false'. Refute it at one input. -/
def faddNearWrong : ChangeSpec := { name := "faddNear", fn := fun _ => fun
  | [d1, d2] => { results := [.lit (.bool false)], args := [d1, d2] }
  | _ => none }
def FaddNearWrongFalsely : Prop := faddNearRow.holds Try.pinned (OpenSpec.ofChange faddNearWrong)

/-- 'hyglaw7.FaddWhole': WHATEVER THE INPUT: true; the input reads as it did. -/
def faddWholeSpec : ChangeSpec := { name := "faddWhole", fn := fun _ => fun
  | [d1, d2, d3, d4, d5] => { results := [.lit (.bool true)], args := [d1, d2, d3, d4, d5] }
  | _ => none }
def faddWholeRow : OpenClaim := { program := "ytmljncgglpckcaa", sum := "e65d6788015ef08e67c862f0ad7e8027497c350081903030ab19e2c758bf477f", func := "hygrometer/hyglaw7.FaddWhole", spec := "faddWhole", apart := false }
def FaddWholeSaid : Prop := faddWholeRow.holds Try.pinned (OpenSpec.ofChange faddWholeSpec)

/-- ITS FALSE NEIGHBOUR: 'it returns false'. Refute it at one input. -/
def faddWholeWrong : ChangeSpec := { name := "faddWhole", fn := fun _ => fun
  | [d1, d2, d3, d4, d5] => { results := [.lit (.bool false)], args := [d1, d2, d3, d4, d5] }
  | _ => none }
def FaddWholeWrongFalsely : Prop := faddWholeRow.holds Try.pinned (OpenSpec.ofChange faddWholeWrong)

/- THE SECOND FORM. 'bulk': how many values and letters a reading holds, each counted each time it is reached (what is shared counts as often as it is met; a slice's spare places count too). A statement '..UptoSaid' is the law's where the arguments, and the package variables that the reading takes, are together of bulk at most 1048576: NARROWER than '..Said'. Prove '..Said' where nothing that the law and all that it calls make is longer than what came in: it says more and counts as full. Else prove '..UptoSaid'. A law counts once. -/
mutual
def uptoBulk {H : Type} : DataW H → Nat
  | .lit (.string bytes) => bytes.length + 1
  | .lit _ => 1
  | .nil => 1
  | .ptr d => uptoBulk d + 1
  | .slice elems spare => uptoBulkAll elems + uptoBulkAll spare + 1
  | .agg parts => uptoBulkAll parts + 1
  | .iface _ d => uptoBulk d + 1
  | .map entries => uptoBulkEntries entries + 1
  | .held _ => 1
def uptoBulkAll {H : Type} : List (DataW H) → Nat
  | [] => 0
  | d :: r => uptoBulk d + uptoBulkAll r
def uptoBulkEntries {H : Type} : List (Lit × DataW H) → Nat
  | [] => 0
  | x :: r => uptoBulkEntry x + uptoBulkEntries r
def uptoBulkEntry {H : Type} : Lit × DataW H → Nat
  | (.string bytes, d) => bytes.length + uptoBulk d + 1
  | (_, d) => uptoBulk d + 1
 end
def uptoSmall : (H : Type) → List (DataW H) → Bool := fun _ ds => decide (uptoBulkAll ds ≤ 1048576)
def OpenSpec.upto (s : _root_.Go.ChangeSpec) : _root_.Go.OpenSpec := { _root_.Go.OpenSpec.ofChange s with cond := some uptoSmall }

/-- 'hyglaw6.FltInts', WHERE WHAT IT READS IS OF BULK AT MOST 1048576: true; the input reads as it did. -/
def fltIntsUptoRow : OpenClaim := { program := "ytmljncgglpckcaa", sum := "e65d6788015ef08e67c862f0ad7e8027497c350081903030ab19e2c758bf477f", func := "hygrometer/hyglaw6.FltInts", spec := "fltInts", apart := false, narrowed := true }
def FltIntsUptoSaid : Prop := fltIntsUptoRow.holds Try.pinned (OpenSpec.upto fltIntsSpec)

/-- 'hyglaw6.FltBack', WHERE WHAT IT READS IS OF BULK AT MOST 1048576: true; the input reads as it did. -/
def fltBackUptoRow : OpenClaim := { program := "ytmljncgglpckcaa", sum := "e65d6788015ef08e67c862f0ad7e8027497c350081903030ab19e2c758bf477f", func := "hygrometer/hyglaw6.FltBack", spec := "fltBack", apart := false, narrowed := true }
def FltBackUptoSaid : Prop := fltBackUptoRow.holds Try.pinned (OpenSpec.upto fltBackSpec)

/-- 'hyglaw6.FltOrder', WHERE WHAT IT READS IS OF BULK AT MOST 1048576: true; the input reads as it did. -/
def fltOrderUptoRow : OpenClaim := { program := "ytmljncgglpckcaa", sum := "e65d6788015ef08e67c862f0ad7e8027497c350081903030ab19e2c758bf477f", func := "hygrometer/hyglaw6.FltOrder", spec := "fltOrder", apart := false, narrowed := true }
def FltOrderUptoSaid : Prop := fltOrderUptoRow.holds Try.pinned (OpenSpec.upto fltOrderSpec)

/-- 'hyglaw7.FaddSums', WHERE WHAT IT READS IS OF BULK AT MOST 1048576: true; the input reads as it did. -/
def faddSumsUptoRow : OpenClaim := { program := "ytmljncgglpckcaa", sum := "e65d6788015ef08e67c862f0ad7e8027497c350081903030ab19e2c758bf477f", func := "hygrometer/hyglaw7.FaddSums", spec := "faddSums", apart := false, narrowed := true }
def FaddSumsUptoSaid : Prop := faddSumsUptoRow.holds Try.pinned (OpenSpec.upto faddSumsSpec)

/-- 'hyglaw7.FaddCuts', WHERE WHAT IT READS IS OF BULK AT MOST 1048576: true; the input reads as it did. -/
def faddCutsUptoRow : OpenClaim := { program := "ytmljncgglpckcaa", sum := "e65d6788015ef08e67c862f0ad7e8027497c350081903030ab19e2c758bf477f", func := "hygrometer/hyglaw7.FaddCuts", spec := "faddCuts", apart := false, narrowed := true }
def FaddCutsUptoSaid : Prop := faddCutsUptoRow.holds Try.pinned (OpenSpec.upto faddCutsSpec)

/-- 'hyglaw6.FltLeast', WHERE WHAT IT READS IS OF BULK AT MOST 1048576: true; the input reads as it did. -/
def fltLeastUptoRow : OpenClaim := { program := "ytmljncgglpckcaa", sum := "e65d6788015ef08e67c862f0ad7e8027497c350081903030ab19e2c758bf477f", func := "hygrometer/hyglaw6.FltLeast", spec := "fltLeast", apart := false, narrowed := true }
def FltLeastUptoSaid : Prop := fltLeastUptoRow.holds Try.pinned (OpenSpec.upto fltLeastSpec)

/-- 'hyglaw6.FltTells', WHERE WHAT IT READS IS OF BULK AT MOST 1048576: true; the input reads as it did. -/
def fltTellsUptoRow : OpenClaim := { program := "ytmljncgglpckcaa", sum := "e65d6788015ef08e67c862f0ad7e8027497c350081903030ab19e2c758bf477f", func := "hygrometer/hyglaw6.FltTells", spec := "fltTells", apart := false, narrowed := true }
def FltTellsUptoSaid : Prop := fltTellsUptoRow.holds Try.pinned (OpenSpec.upto fltTellsSpec)

/-- 'hyglaw7.FaddAdds', WHERE WHAT IT READS IS OF BULK AT MOST 1048576: true; the input reads as it did. -/
def faddAddsUptoRow : OpenClaim := { program := "ytmljncgglpckcaa", sum := "e65d6788015ef08e67c862f0ad7e8027497c350081903030ab19e2c758bf477f", func := "hygrometer/hyglaw7.FaddAdds", spec := "faddAdds", apart := false, narrowed := true }
def FaddAddsUptoSaid : Prop := faddAddsUptoRow.holds Try.pinned (OpenSpec.upto faddAddsSpec)

/-- 'hyglaw7.FaddTurns', WHERE WHAT IT READS IS OF BULK AT MOST 1048576: true; the input reads as it did. -/
def faddTurnsUptoRow : OpenClaim := { program := "ytmljncgglpckcaa", sum := "e65d6788015ef08e67c862f0ad7e8027497c350081903030ab19e2c758bf477f", func := "hygrometer/hyglaw7.FaddTurns", spec := "faddTurns", apart := false, narrowed := true }
def FaddTurnsUptoSaid : Prop := faddTurnsUptoRow.holds Try.pinned (OpenSpec.upto faddTurnsSpec)

/-- 'hyglaw7.FaddNear', WHERE WHAT IT READS IS OF BULK AT MOST 1048576: true; the input reads as it did. -/
def faddNearUptoRow : OpenClaim := { program := "ytmljncgglpckcaa", sum := "e65d6788015ef08e67c862f0ad7e8027497c350081903030ab19e2c758bf477f", func := "hygrometer/hyglaw7.FaddNear", spec := "faddNear", apart := false, narrowed := true }
def FaddNearUptoSaid : Prop := faddNearUptoRow.holds Try.pinned (OpenSpec.upto faddNearSpec)

/-- 'hyglaw7.FaddWhole', WHERE WHAT IT READS IS OF BULK AT MOST 1048576: true; the input reads as it did. -/
def faddWholeUptoRow : OpenClaim := { program := "ytmljncgglpckcaa", sum := "e65d6788015ef08e67c862f0ad7e8027497c350081903030ab19e2c758bf477f", func := "hygrometer/hyglaw7.FaddWhole", spec := "faddWhole", apart := false, narrowed := true }
def FaddWholeUptoSaid : Prop := faddWholeUptoRow.holds Try.pinned (OpenSpec.upto faddWholeSpec)

end Rows
end Go.Proofs.Ytmljncgglpckcaa
