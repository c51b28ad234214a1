/- Part of the proof: a machine of states for walks, and contracts of functions over it. Conditions: those that each theorem names. -/
import Derived.Test.YtcjdbimojffggaaGreatDoorC18
set_option linter.unusedVariables false
set_option linter.unusedSimpArgs false
namespace Sx
open Go Go.Proofs
open Sx.Pf (fadd_parted.f fadd_part_lower.f fadd_part_round.f fadd_part_raise.f fadd_part_raise.l0 fadd_finite.f fadd_finite.j0)
open Go.Proofs.SxPu (cls qt sz sg addV subV ng finV)
set_option maxRecDepth 30000
variable {G : Glob}
def FinD (x : Int) : Prop:=sz x < 9218868437227405312
def finiteT : List U → Out SV
 | [.c (.v (.int .u64 a)),.c (.v (.int .u64 b))]=>.need (UU a ∧ UU b ∧ FinD a ∧ FinD b) (one (U64 (finV a b)))
 | _=>.fail
theorem finite_ex : Ok G 145 finiteT:=by
 have hS : AllSound (B [(173,.pure (normG (B []) [31] partedT)),(174,.pure (normG (B []) [254,3] lowerT)),(175,.pure (normG (B []) [254] roundT)),(176,.pure (normG (B []) [254] raiseT))]) G:=.cons _ parted_ex (.cons _ lower_ex (.cons _ round_ex (.cons _ raise_ex noneS)))
 refine okP hS Tryz.func145 rfl (by decide) fun K us hk=>?_
 unfold finiteT at hk
 split at hk
 ·rename_i a b
  refine ⟨by show 2 ≤ _; decide,?_⟩
  obtain ⟨⟨ua,ub,fa,fb⟩,hk⟩:=hk
  have hr:=Go.Proofs.SxPu.finite_f (k:=2999 + 1) ua ub (by decide) fa fb
  generalize finV a b = R at hk hr
  unfold fadd_finite.f at hr
  simp only [bits_an] at hr
  conv=>whnf
  refine Ask.i (fun c1=>?_) (fun c1=>?_)
  ·rw [if_pos (show anU a 9223372036854775808 < anU b 9223372036854775808 from of_decide_eq_true c1),fadd_finite.j0] at hr
   simp only [bits_and,bits_or,rw64] at hr
   obtain ⟨v1,h1,hr⟩:=Option.bind_eq_some_iff.1 hr
   obtain ⟨v2,h2,hr⟩:=Option.bind_eq_some_iff.1 hr
   obtain ⟨v3,h3,hr⟩:=Option.bind_eq_some_iff.1 hr
   conv=>whnf
   refine ⟨by rw [h1]; rfl,?_⟩;conv=>whnf
   intro p1 e1
   obtain rfl:=optG_eq h1 e1
   conv=>whnf
   refine ⟨by rw [h2]; rfl,?_⟩;conv=>whnf
   intro p2 e2
   obtain rfl:=optG_eq h2 e2
   conv=>whnf
   refine ⟨by rw [show fadd_part_lower.f _ _ _ = _ from h3]; rfl,?_⟩;conv=>whnf
   intro p3 e3
   obtain rfl:=optG_eq h3 e3
   conv=>whnf
   refine Ask.i (fun c2=>?_) (fun c2=>?_)
   ·rw [if_pos (show andU b 9223372036854775808 = andU a 9223372036854775808 from eq_of_beq c2)] at hr
    conv=>whnf
    refine Ask.i (fun c3=>?_) (fun c3=>?_)
    ·rw [if_pos (show x64 (p1.2 + p3.2) ≥ 72057594037927936 from of_decide_eq_true c3)] at hr
     obtain ⟨v4,h4,hr⟩:=Option.bind_eq_some_iff.1 hr
     obtain ⟨v5,h5,hr⟩:=Option.bind_eq_some_iff.1 hr
     conv=>whnf
     refine ⟨by rw [show fadd_part_lower.f _ _ _ = _ from h4]; rfl,?_⟩;conv=>whnf
     intro p4 e4
     obtain rfl:=optG_eq h4 e4
     conv=>whnf
     refine ⟨by rw [h5]; rfl,?_⟩;conv=>whnf
     intro p5 e5
     obtain rfl:=optG_eq h5 e5
     conv=>whnf
     exact fin hk (congrArg (fun z : Int=>SV.u (.c (U64 z))) (Option.some.inj hr).symm)
    rw [if_neg (show ¬ x64 (p1.2 + p3.2) ≥ 72057594037927936 from of_decide_eq_false c3)] at hr
    obtain ⟨v5,h5,hr⟩:=Option.bind_eq_some_iff.1 hr
    conv=>whnf
    refine ⟨by rw [show fadd_part_round.f _ _ = _ from h5]; rfl,?_⟩;conv=>whnf
    intro p5 e5
    obtain rfl:=optG_eq h5 e5
    conv=>whnf
    exact fin hk (congrArg (fun z : Int=>SV.u (.c (U64 z))) (Option.some.inj hr).symm)
   rw [if_neg (show ¬ andU b 9223372036854775808 = andU a 9223372036854775808 from ne_of_beq_false c2)] at hr
   conv=>whnf
   refine Ask.i (fun c3=>?_) (fun c3=>?_)
   ·rw [if_pos (show x64 (p1.2 - p3.2) = 0 from eq_of_beq c3)] at hr
    conv=>whnf
    exact fin hk (congrArg (fun z : Int=>SV.u (.c (U64 z))) (Option.some.inj hr).symm)
   rw [if_neg (show ¬ x64 (p1.2 - p3.2) = 0 from ne_of_beq_false c3)] at hr
   obtain ⟨v4,h4,hr⟩:=Option.bind_eq_some_iff.1 hr
   obtain ⟨v5,h5,hr⟩:=Option.bind_eq_some_iff.1 hr
   conv=>whnf
   refine ⟨by rw [show fadd_part_raise.f _ _ _ = _ from h4]; rfl,?_⟩;conv=>whnf
   intro p4 e4
   obtain rfl:=optG_eq h4 e4
   conv=>whnf
   refine ⟨by rw [h5]; rfl,?_⟩;conv=>whnf
   intro p5 e5
   obtain rfl:=optG_eq h5 e5
   conv=>whnf
   exact fin hk (congrArg (fun z : Int=>SV.u (.c (U64 z))) (Option.some.inj hr).symm)
  rw [if_neg (show ¬ anU a 9223372036854775808 < anU b 9223372036854775808 from of_decide_eq_false c1),fadd_finite.j0] at hr
  simp only [bits_and,bits_or,rw64] at hr
  obtain ⟨v1,h1,hr⟩:=Option.bind_eq_some_iff.1 hr
  obtain ⟨v2,h2,hr⟩:=Option.bind_eq_some_iff.1 hr
  obtain ⟨v3,h3,hr⟩:=Option.bind_eq_some_iff.1 hr
  conv=>whnf
  refine ⟨by rw [h1]; rfl,?_⟩;conv=>whnf
  intro p1 e1
  obtain rfl:=optG_eq h1 e1
  conv=>whnf
  refine ⟨by rw [h2]; rfl,?_⟩;conv=>whnf
  intro p2 e2
  obtain rfl:=optG_eq h2 e2
  conv=>whnf
  refine ⟨by rw [show fadd_part_lower.f _ _ _ = _ from h3]; rfl,?_⟩;conv=>whnf
  intro p3 e3
  obtain rfl:=optG_eq h3 e3
  conv=>whnf
  refine Ask.i (fun c2=>?_) (fun c2=>?_)
  ·rw [if_pos (show andU a 9223372036854775808 = andU b 9223372036854775808 from eq_of_beq c2)] at hr
   conv=>whnf
   refine Ask.i (fun c3=>?_) (fun c3=>?_)
   ·rw [if_pos (show x64 (p1.2 + p3.2) ≥ 72057594037927936 from of_decide_eq_true c3)] at hr
    obtain ⟨v4,h4,hr⟩:=Option.bind_eq_some_iff.1 hr
    obtain ⟨v5,h5,hr⟩:=Option.bind_eq_some_iff.1 hr
    conv=>whnf
    refine ⟨by rw [show fadd_part_lower.f _ _ _ = _ from h4]; rfl,?_⟩;conv=>whnf
    intro p4 e4
    obtain rfl:=optG_eq h4 e4
    conv=>whnf
    refine ⟨by rw [h5]; rfl,?_⟩;conv=>whnf
    intro p5 e5
    obtain rfl:=optG_eq h5 e5
    conv=>whnf
    exact fin hk (congrArg (fun z : Int=>SV.u (.c (U64 z))) (Option.some.inj hr).symm)
   rw [if_neg (show ¬ x64 (p1.2 + p3.2) ≥ 72057594037927936 from of_decide_eq_false c3)] at hr
   obtain ⟨v5,h5,hr⟩:=Option.bind_eq_some_iff.1 hr
   conv=>whnf
   refine ⟨by rw [show fadd_part_round.f _ _ = _ from h5]; rfl,?_⟩;conv=>whnf
   intro p5 e5
   obtain rfl:=optG_eq h5 e5
   conv=>whnf
   exact fin hk (congrArg (fun z : Int=>SV.u (.c (U64 z))) (Option.some.inj hr).symm)
  rw [if_neg (show ¬ andU a 9223372036854775808 = andU b 9223372036854775808 from ne_of_beq_false c2)] at hr
  conv=>whnf
  refine Ask.i (fun c3=>?_) (fun c3=>?_)
  ·rw [if_pos (show x64 (p1.2 - p3.2) = 0 from eq_of_beq c3)] at hr
   conv=>whnf
   exact fin hk (congrArg (fun z : Int=>SV.u (.c (U64 z))) (Option.some.inj hr).symm)
  rw [if_neg (show ¬ x64 (p1.2 - p3.2) = 0 from ne_of_beq_false c3)] at hr
  obtain ⟨v4,h4,hr⟩:=Option.bind_eq_some_iff.1 hr
  obtain ⟨v5,h5,hr⟩:=Option.bind_eq_some_iff.1 hr
  conv=>whnf
  refine ⟨by rw [show fadd_part_raise.f _ _ _ = _ from h4]; rfl,?_⟩;conv=>whnf
  intro p4 e4
  obtain rfl:=optG_eq h4 e4
  conv=>whnf
  refine ⟨by rw [h5]; rfl,?_⟩;conv=>whnf
  intro p5 e5
  obtain rfl:=optG_eq h5 e5
  conv=>whnf
  exact fin hk (congrArg (fun z : Int=>SV.u (.c (U64 z))) (Option.some.inj hr).symm)
 exact hk.elim
def addT : List U → Out SV
 | [.c (.v (.int .u64 a)),.c (.v (.int .u64 b))]=>.need (UU a ∧ UU b) (one (U64 (addV a b)))
 | _=>.fail
theorem of_bne_false {a b : Int} (h : (a != b) = false) : a = b:=by simpa [bne] using h
theorem add_ex : Ok G 106 addT:=by
 have hS : AllSound (B [(143,.pure (normG (B []) [31] classT)),(144,.pure (normG (B []) [31] quietT)),(145,.pure (normG (B []) [31,31] finiteT))]) G:=.cons _ class_ex (.cons _ quiet_ex (.cons _ finite_ex noneS))
 refine okP hS Tryz.func106 rfl (by decide) fun K us hk=>?_
 unfold addT at hk
 split at hk
 ·rename_i a b
  refine ⟨by show 2 ≤ _; decide,?_⟩
  obtain ⟨⟨ua,ub⟩,hk⟩:=hk
  have key : ∀ z,addV a b = z → K (.u (.c (U64 z))):=fun z h=>fin hk (congrArg (fun z : Int=>SV.u (.c (U64 z))) h)
  have ra:=Go.Proofs.SxPu.cls_range a
  have rb:=Go.Proofs.SxPu.cls_range b
  have fa : cls a < 3 → FinD a:=Go.Proofs.SxPu.cls_fin ua
  have fb : cls b < 3 → FinD b:=Go.Proofs.SxPu.cls_fin ub
  have av : addV a b = if cls a = 4 then qt a else if cls b = 4 then qt b else if cls a = 3 then (if cls b = 3 then (if a = b then a else 9221120237041090560) else a) else if cls b = 3 then b else finV a b:=rfl;conv=>whnf
  refine ⟨ua,?_⟩;conv=>whnf
  refine ⟨ub,?_⟩;conv=>whnf
  refine Ask.i (fun c1=>?_) (fun c1=>?_)
  ·have c1 : cls b = 4:=eq_of_beq c1
   conv=>whnf
   refine Ask.i (fun c2=>?_) (fun c2=>?_)
   ·have c2 : cls a < 4:=of_decide_eq_true c2
    conv=>whnf
    exact key _ (by rw [av]; (repeat' split) <;> first | rfl | (exfalso; omega))
   have c2 : ¬ cls a < 4:=of_decide_eq_false c2
   conv=>whnf
   refine Ask.i (fun c3=>?_) (fun c3=>?_)
   ·have c3 : cls a < 3:=of_decide_eq_true c3
    conv=>whnf
    exact key _ (by rw [av]; (repeat' split) <;> first | rfl | (exfalso; omega))
   have c3 : ¬ cls a < 3:=of_decide_eq_false c3
   conv=>whnf
   refine Ask.i (fun c4=>?_) (fun c4=>?_)
   ·have c4 : cls a = 3:=eq_of_beq c4
    conv=>whnf
    refine Ask.i (fun c7=>?_) (fun c7=>?_)
    ·have c7 : a ≠ b:=bne_iff_ne.1 c7
     conv=>whnf
     exact key _ (by rw [av]; (repeat' split) <;> first | rfl | (exfalso; omega))
    have c7 : a = b:=of_bne_false c7
    conv=>whnf
    refine Ask.i (fun c5=>?_) (fun c5=>?_)
    ·have c5 : cls a = 4:=eq_of_beq c5
     conv=>whnf
     exact key _ (by rw [av]; (repeat' split) <;> first | rfl | (exfalso; omega))
    have c5 : ¬ cls a = 4:=ne_of_beq_false c5
    conv=>whnf
    refine Ask.i (fun c6=>?_) (fun c6=>?_)
    ·have c6 : cls a = 3:=eq_of_beq c6
     conv=>whnf
     exact key _ (by rw [av]; (repeat' split) <;> first | rfl | (exfalso; omega))
    have c6 : ¬ cls a = 3:=ne_of_beq_false c6
    conv=>whnf
    refine ⟨⟨ua,ub,fa (by omega),fb (by omega)⟩,?_⟩;conv=>whnf
    exact key _ (by rw [av]; (repeat' split) <;> first | rfl | (exfalso; omega))
   have c4 : ¬ cls a = 3:=ne_of_beq_false c4
   conv=>whnf
   refine Ask.i (fun c5=>?_) (fun c5=>?_)
   ·have c5 : cls a = 4:=eq_of_beq c5
    conv=>whnf
    exact key _ (by rw [av]; (repeat' split) <;> first | rfl | (exfalso; omega))
   have c5 : ¬ cls a = 4:=ne_of_beq_false c5
   conv=>whnf
   refine Ask.i (fun c6=>?_) (fun c6=>?_)
   ·have c6 : cls a = 3:=eq_of_beq c6
    conv=>whnf
    exact key _ (by rw [av]; (repeat' split) <;> first | rfl | (exfalso; omega))
   have c6 : ¬ cls a = 3:=ne_of_beq_false c6
   conv=>whnf
   refine ⟨⟨ua,ub,fa (by omega),fb (by omega)⟩,?_⟩;conv=>whnf
   exact key _ (by rw [av]; (repeat' split) <;> first | rfl | (exfalso; omega))
  have c1 : ¬ cls b = 4:=ne_of_beq_false c1
  conv=>whnf
  refine Ask.i (fun c8=>?_) (fun c8=>?_)
  ·have c8 : cls b = 3:=eq_of_beq c8
   conv=>whnf
   refine Ask.i (fun c3=>?_) (fun c3=>?_)
   ·have c3 : cls a < 3:=of_decide_eq_true c3
    conv=>whnf
    exact key _ (by rw [av]; (repeat' split) <;> first | rfl | (exfalso; omega))
   have c3 : ¬ cls a < 3:=of_decide_eq_false c3
   conv=>whnf
   refine Ask.i (fun c4=>?_) (fun c4=>?_)
   ·have c4 : cls a = 3:=eq_of_beq c4
    conv=>whnf
    refine Ask.i (fun c7=>?_) (fun c7=>?_)
    ·have c7 : a ≠ b:=bne_iff_ne.1 c7
     conv=>whnf
     exact key _ (by rw [av]; (repeat' split) <;> first | rfl | (exfalso; omega))
    have c7 : a = b:=of_bne_false c7
    conv=>whnf
    refine Ask.i (fun c5=>?_) (fun c5=>?_)
    ·have c5 : cls a = 4:=eq_of_beq c5
     conv=>whnf
     exact key _ (by rw [av]; (repeat' split) <;> first | rfl | (exfalso; omega))
    have c5 : ¬ cls a = 4:=ne_of_beq_false c5
    conv=>whnf
    refine Ask.i (fun c6=>?_) (fun c6=>?_)
    ·have c6 : cls a = 3:=eq_of_beq c6
     conv=>whnf
     exact key _ (by rw [av]; (repeat' split) <;> first | rfl | (exfalso; omega))
    have c6 : ¬ cls a = 3:=ne_of_beq_false c6
    conv=>whnf
    refine ⟨⟨ua,ub,fa (by omega),fb (by omega)⟩,?_⟩;conv=>whnf
    exact key _ (by rw [av]; (repeat' split) <;> first | rfl | (exfalso; omega))
   have c4 : ¬ cls a = 3:=ne_of_beq_false c4
   conv=>whnf
   refine Ask.i (fun c5=>?_) (fun c5=>?_)
   ·have c5 : cls a = 4:=eq_of_beq c5
    conv=>whnf
    exact key _ (by rw [av]; (repeat' split) <;> first | rfl | (exfalso; omega))
   have c5 : ¬ cls a = 4:=ne_of_beq_false c5
   conv=>whnf
   refine Ask.i (fun c6=>?_) (fun c6=>?_)
   ·have c6 : cls a = 3:=eq_of_beq c6
    conv=>whnf
    exact key _ (by rw [av]; (repeat' split) <;> first | rfl | (exfalso; omega))
   have c6 : ¬ cls a = 3:=ne_of_beq_false c6
   conv=>whnf
   refine ⟨⟨ua,ub,fa (by omega),fb (by omega)⟩,?_⟩;conv=>whnf
   exact key _ (by rw [av]; (repeat' split) <;> first | rfl | (exfalso; omega))
  have c8 : ¬ cls b = 3:=ne_of_beq_false c8
  conv=>whnf
  refine Ask.i (fun c5=>?_) (fun c5=>?_)
  ·have c5 : cls a = 4:=eq_of_beq c5
   conv=>whnf
   exact key _ (by rw [av]; (repeat' split) <;> first | rfl | (exfalso; omega))
  have c5 : ¬ cls a = 4:=ne_of_beq_false c5
  conv=>whnf
  refine Ask.i (fun c6=>?_) (fun c6=>?_)
  ·have c6 : cls a = 3:=eq_of_beq c6
   conv=>whnf
   exact key _ (by rw [av]; (repeat' split) <;> first | rfl | (exfalso; omega))
  have c6 : ¬ cls a = 3:=ne_of_beq_false c6
  conv=>whnf
  refine ⟨⟨ua,ub,fa (by omega),fb (by omega)⟩,?_⟩;conv=>whnf
  exact key _ (by rw [av]; (repeat' split) <;> first | rfl | (exfalso; omega))
 exact hk.elim
end Sx
