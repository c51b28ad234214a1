/- Part of the proof: a machine of states for walks, and contracts of functions over it. Conditions: those that each theorem names. -/
import Derived.Test.YtcjdbimojffggaaGreatDoorC14
set_option linter.unusedVariables false
set_option linter.unusedSimpArgs false
namespace Sx
open Go Go.Proofs
set_option maxRecDepth 30000
variable {G : Glob}
def classV (x : Int) : Int:=bif decide (szV x > 9218868437227405312) then 4 else bif szV x == 9218868437227405312 then 3 else bif decide (szV x ≥ 4503599627370496) then 2 else bif decide (szV x > 0) then 1 else 0
def classS : List U → Out SV
 | [.c (.v (.int .u64 x))]=>one (I64 (classV x))
 | _=>.fail
theorem class_ok : Ok G 143 classS:=by
 have hS : AllSound (B [(172,.pure (normG (B []) [31] szS))]) G:=.cons _ sz_ok noneS
 refine okP hS Tryz.func143 rfl (by decide) fun K us hk=>?_
 unfold classS at hk
 split at hk
 ·rename_i x
  refine ⟨by show 1 ≤ _; decide,?_⟩;conv=>whnf
  refine Ask.i (fun c1=>?_) (fun c1=>?_)
  ·have c1 : decide (szV x > 9218868437227405312) = true:=c1
   conv=>whnf
   exact fin hk (congrArg (fun z : Int=>SV.u (.c (I64 z))) (by unfold classV; rw [c1]; rfl))
  have c1 : decide (szV x > 9218868437227405312) = false:=c1;conv=>whnf
  refine Ask.i (fun c2=>?_) (fun c2=>?_)
  ·have c2 : (szV x == 9218868437227405312) = true:=c2
   conv=>whnf
   exact fin hk (congrArg (fun z : Int=>SV.u (.c (I64 z))) (by unfold classV; rw [c1,c2]; rfl))
  have c2 : (szV x == 9218868437227405312) = false:=c2;conv=>whnf
  refine Ask.i (fun c3=>?_) (fun c3=>?_)
  ·have c3 : decide (szV x ≥ 4503599627370496) = true:=c3
   conv=>whnf
   exact fin hk (congrArg (fun z : Int=>SV.u (.c (I64 z))) (by unfold classV; rw [c1,c2,c3]; rfl))
  have c3 : decide (szV x ≥ 4503599627370496) = false:=c3;conv=>whnf
  refine Ask.i (fun c4=>?_) (fun c4=>?_)
  ·have c4 : decide (szV x > 0) = true:=c4
   conv=>whnf
   exact fin hk (congrArg (fun z : Int=>SV.u (.c (I64 z))) (by unfold classV; rw [c1,c2,c3,c4]; rfl))
  have c4 : decide (szV x > 0) = false:=c4;conv=>whnf
  exact fin hk (congrArg (fun z : Int=>SV.u (.c (I64 z))) (by unfold classV; rw [c1,c2,c3,c4]; rfl))
 exact hk.elim
def R63 (n : Int) : Prop:=-9223372036854775808 ≤ n ∧ n < 9223372036854775808
theorem w64_r (n : Int) : R63 (w64 n):=by
 show -9223372036854775808 ≤ IntKind.i64.wrap n ∧ IntKind.i64.wrap n < 9223372036854775808
 rw [IntKind.wrap_i64]; omega
end Sx
