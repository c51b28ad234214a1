-- Made by a program of this session, after the guide's print, out of the translation. Lean checks it.
import Derived.Test.YtmljncgglpckcaaProg
import Derived.Below
import Derived.Deep.Draws
import Derived.Deep.AppendLies
import Derived.Maps.AppendAt
import Derived.OwnWalk
import Derived.Laws.BytesArg
import Derived.Laws.MakeOwn
import Derived.Laws.OwnMore
import Derived.Deep.OwnRows
import Derived.Tactics
import Derived.Lib.ConvBytes
import Derived.Laws.Slices
import Derived.WalkKit
import Derived.KernelRfl
import Derived.RowKit3
import Derived.Deep.LoopGhost
import Derived.Deep.QuietTactic
import Derived.BigQuiet
import Derived.WideLaws
import Derived.Deep.DeepCutAuto
import Derived.Deep.CutBlock
import Derived.Deep.RegionHeld3
import Derived.Laws.Rows
import Derived.Lib.AppendStr
import Derived.ArgAppend
import Derived.Laws.IdiomCopy
import Derived.OrdersHeld
import Derived.Laws.BitsLemmas
import Derived.RowKit
import Derived.Test.YtmljncgglpckcaaWWords
import Derived.Test.YtmljncgglpckcaaWLast
import Derived.Test.YtmljncgglpckcaaWTab
import Derived.Test.YtmljncgglpckcaaWFour
import Derived.Test.YtmljncgglpckcaaWQPut
import Derived.Test.YtmljncgglpckcaaWApart
import Derived.Test.YtmljncgglpckcaaWArr
import Derived.Test.YtmljncgglpckcaaWZeros
import Derived.Test.YtmljncgglpckcaaWFoot
import Derived.Test.YtmljncgglpckcaaWKept
import Derived.Test.YtmljncgglpckcaaWShare
import Derived.Test.YtmljncgglpckcaaWN
import Derived.Test.YtmljncgglpckcaaWFootNe
import Derived.Test.YtmljncgglpckcaaWAt
import Derived.Test.YtmljncgglpckcaaWEqStruct
import Derived.Test.YtmljncgglpckcaaWRepsOne
import Derived.Test.YtmljncgglpckcaaWInv
import Derived.Test.YtmljncgglpckcaaWInvWords
import Derived.Test.YtmljncgglpckcaaWGuard
import Derived.Test.YtmljncgglpckcaaWNEv
import Derived.Test.YtmljncgglpckcaaWMore
namespace Go.Proofs.Ytmljncgglpckcaa.PFaddWhole
open Go.RowKit Go.Proofs.YtmljncgglpckcaaW.PrintWords Go.Proofs.YtmljncgglpckcaaW.PrintLast Go.Proofs.YtmljncgglpckcaaW.PrintMore
attribute [local go_sem] max2_int min2_int max_two min_two max_three min_three max_four min_four   -- for this text's walks alone
set_option linter.unusedVariables false
set_option linter.unusedSimpArgs false



def errW : Option Int → Value
  | none => .nilIface
  | some c => .iface 0 (.int .i64 c)
theorem errW_none : errW none = .nilIface := rfl
theorem errW_some (c : Int) : errW (some c) = .iface 0 (.int .i64 c) := rfl

-- the values' own types

end Go.Proofs.Ytmljncgglpckcaa.PFaddWhole
