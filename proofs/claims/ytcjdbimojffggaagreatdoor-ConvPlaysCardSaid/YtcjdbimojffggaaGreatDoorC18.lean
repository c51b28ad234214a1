/- Part of the proof: a machine of states for walks, and contracts of functions over it. Conditions: those that each theorem names. -/
import Derived.Test.YtcjdbimojffggaaGreatDoorC15
import Derived.Test.YtcjdbimojffggaaGreatDoorC17
set_option linter.unusedVariables false
set_option linter.unusedSimpArgs false
namespace Sx
open Go Go.Proofs
open Sx.Pf (fadd_parted.f fadd_part_lower.f fadd_part_round.f fadd_part_raise.f fadd_part_raise.l0 fadd_finite.f fadd_finite.j0 mx mn shl shr)
open Go.Proofs.SxPu (cls qt sz sg addV subV ng finV)
abbrev UU (x : Int) : Prop:=Go.Proofs.SxPu.U x
set_option maxRecDepth 30000
variable {G : Glob}
theorem Ok.mono {f : FuncId} {g g' : List U → Out SV} (h : Ok G f g) (hm : ∀ us K,(g' us).wp K → (g us).wp K) : Ok G f g':=⟨h.1,fun K us X w vals hk=>h.2 K us X w vals (hm us K hk)⟩
def optG {ρ : Type} (o : Option ρ) (d : ρ) (k : ρ → Out SV) : Out SV:=.need (o.isSome = true) (.all ρ (fun p=>o = some p ∨ o = none) ⟨o.getD d,by cases o <;> simp⟩ k)
theorem optG_wp {ρ : Type} {o : Option ρ} {d : ρ} {k : ρ → Out SV} {K : SV → Prop} (h : (optG o d k).wp K) : ∃ p,o = some p ∧ (k p).wp K:=by
 obtain ⟨h1,h2⟩:=h
 obtain ⟨p,hp⟩:=Option.isSome_iff_exists.1 h1
 exact ⟨p,hp,h2 p (.inl hp)⟩
theorem optG_eq {ρ : Type} {o : Option ρ} {v p : ρ} (hv : o = some v) (h : o = some p ∨ o = none) : p = v:=by
 subst hv; rcases h with h | h
 ·exact (Option.some.inj h).symm
 cases h
theorem bits_an (a b : Int) : Go.bits .andNot .u64 a b = anU a b:=(Eq.refl _).trans (Eq.refl _)
theorem bits_and (a b : Int) : Go.bits .and .u64 a b = andU a b:=(Eq.refl _).trans (Eq.refl _)
theorem bits_or (a b : Int) : Go.bits .or .u64 a b = orU a b:=(Eq.refl _).trans (Eq.refl _)
theorem bits_xor (a b : Int) : Go.bits .xor .u64 a b = xorU a b:=(Eq.refl _).trans (Eq.refl _)
theorem rw64 (n : Int) : Go.RowKit.wrap64 n = w64 n:=by show _ = IntKind.i64.wrap n; rw [IntKind.wrap_i64]; unfold Go.RowKit.wrap64; omega
theorem fdl (a : Int) (n : Nat) : a.fdiv (2 ^ n) = a / 2 ^ n:=Int.fdiv_eq_ediv_of_nonneg _ (by have:=Int.pow_pos (n:=2) (m:=n) (by decide); omega)
def quietT : List U → Out SV
 | [.c (.v (.int .u64 x))]=>one (U64 (qt x))
 | _=>.fail
theorem quiet_ex : Ok G 144 quietT:=by
 refine okP noneS Tryz.func144 rfl (by decide) fun K us hk=>?_
 unfold quietT at hk
 split at hk
 ·refine ⟨by show 1 ≤ _; decide,?_⟩
  conv=>whnf
  exact hk
 exact hk.elim
def negT : List U → Out SV
 | [.c (.v (.int .u64 x))]=>.need (UU x) (one (U64 (ng x)))
 | _=>.fail
theorem neg_ex : Ok G 166 negT:=by
 refine okP noneS Tryz.func166 rfl (by decide) fun K us hk=>?_
 unfold negT at hk
 split at hk
 ·refine ⟨by show 1 ≤ _; decide,?_⟩
  obtain ⟨hu,hk⟩:=hk
  conv=>whnf
  refine fin hk (congrArg (fun z : Int=>SV.u (.c (U64 z))) ?_)
  exact (Option.some.inj (Go.Proofs.SxPu.neg_f hu)).symm
 exact hk.elim
def classT : List U → Out SV
 | [.c (.v (.int .u64 x))]=>.need (UU x) (one (I64 (cls x)))
 | _=>.fail
theorem classV_cls {x : Int} (h : UU x) : classV x = cls x:=by
 have e : szV x = x % 9223372036854775808:=by rw [← Go.Proofs.SxFl.andNot_sign h.1 h.2]; rfl
 unfold classV cls
 rw [e]
 by_cases c1 : x % 9223372036854775808 > 9218868437227405312
 ·rw [if_pos c1,decide_eq_true c1]; rfl
 rw [if_neg c1,decide_eq_false c1]
 by_cases c2 : x % 9223372036854775808 = 9218868437227405312
 ·rw [if_pos c2,c2]; rfl
 rw [if_neg c2,beq_eq_false_iff_ne.2 c2]
 by_cases c3 : x % 9223372036854775808 ≥ 4503599627370496
 ·rw [if_pos c3,decide_eq_true c3]; rfl
 rw [if_neg c3,decide_eq_false c3]
 by_cases c4 : x % 9223372036854775808 > 0
 ·rw [if_pos c4,decide_eq_true c4]; rfl
 rw [if_neg c4,decide_eq_false c4]; rfl
theorem class_ex : Ok G 143 classT:=Ok.mono class_ok (fun us K hk=>by
 unfold classT at hk
 split at hk
 ·obtain ⟨hu,hk⟩:=hk
  show K _
  exact fin hk (congrArg (fun z : Int=>SV.u (.c (I64 z))) (classV_cls hu).symm)
 exact hk.elim)
theorem fd52 (a : Int) : a.fdiv (2 ^ min (Int.toNat 52) IntKind.u64.bits) = a / 4503599627370496:=fdl a 52
theorem fd63 (a : Int) : a.fdiv (2 ^ min (Int.toNat 63) IntKind.u64.bits) = a / 9223372036854775808:=fdl a 63
theorem fd3 (a : Int) : a.fdiv (2 ^ min (Int.toNat 3) IntKind.u64.bits) = a / 8:=fdl a 3
theorem mu3 : (2 : Int) ^ min (Int.toNat 3) IntKind.u64.bits = 8:=rfl
theorem mu52 : (2 : Int) ^ min (Int.toNat 52) IntKind.u64.bits = 4503599627370496:=rfl
theorem eq2 {a a' b b' : Int} (h1 : a = a') (h2 : b = b') : SV.u (.a [I64 a,U64 b]) = SV.u (.a [I64 a',U64 b']):=by subst h1 h2; rfl
theorem fdn (a c : Int) : a.fdiv (2 ^ min (Int.toNat c) IntKind.u64.bits) = Sx.Pf.shr IntKind.u64 a c:=fdl a _
def partedT : List U → Out SV
 | [.c (.v (.int .u64 x))]=>optG (fadd_parted.f x) (0,0) fun p=>agg [I64 p.1,U64 p.2]
 | _=>.fail
theorem parted_ex : Ok G 173 partedT:=by
 refine okP noneS Tryz.func173 rfl (by decide) fun K us hk=>?_
 unfold partedT at hk
 split at hk
 ·rename_i x
  refine ⟨by show 1 ≤ _; decide,?_⟩
  obtain ⟨v,hr,hk⟩:=optG_wp hk
  unfold fadd_parted.f at hr
  simp only [bits_an,bits_and,bits_or,rw64] at hr
  conv=>whnf
  refine ⟨by decide,?_⟩;conv=>whnf
  refine Ask.i (fun c1=>?_) (fun c1=>?_)
  ·have c1:=of_decide_eq_true c1
   rw [fd52] at c1
   rw [if_pos (show w64 (anU x 9223372036854775808 / 4503599627370496) > 0 from c1)] at hr
   cases hr
   conv=>whnf
   refine ⟨by decide,?_⟩;conv=>whnf
   refine fin hk (eq2 ?_ ?_)
   ·first | rfl | (simp only [fd52]; rfl)
   first | rfl | (simp only [mu3]; rfl)
  have c1:=of_decide_eq_false c1
  rw [fd52] at c1
  rw [if_neg (show ¬ w64 (anU x 9223372036854775808 / 4503599627370496) > 0 from c1)] at hr
  cases hr
  conv=>whnf
  refine ⟨by decide,?_⟩;conv=>whnf
  refine fin hk (eq2 ?_ ?_)
  ·first | rfl | (simp only [fd52]; rfl)
  first | rfl | (simp only [mu3]; rfl)
 exact hk.elim
def lowerT : List U → Out SV
 | [.a [.v (.int .i64 e),.v (.int .u64 b)],.c (.v (.int .i64 n))]=>optG (fadd_part_lower.f e b n) (0,0) fun p=>agg [I64 p.1,U64 p.2]
 | _=>.fail
theorem lower_ex : Ok G 174 lowerT:=by
 refine okP noneS Tryz.func174 rfl (by decide) fun K us hk=>?_
 unfold lowerT at hk
 split at hk
 ·rename_i e b n
  refine ⟨by show 2 ≤ _; decide,?_⟩
  obtain ⟨v,hr,hk⟩:=optG_wp hk
  unfold fadd_part_lower.f at hr
  simp only [bits_an,bits_and,bits_or,rw64] at hr
  conv=>whnf
  refine Ask.i (fun c1=>?_) (fun c1=>?_)
  ·have c1 : n > 63:=of_decide_eq_true c1
   rw [if_pos c1] at hr
   conv=>whnf
   refine ⟨mixed,[],[],[],by kernel_rfl,?_⟩;conv=>whnf
   refine ⟨by decide,?_⟩;conv=>whnf
   refine ⟨by decide,?_⟩;conv=>whnf
   refine Ask.i (fun c2=>?_) (fun c2=>?_)
   ·have c2 : andU b ((1 * 9223372036854775808) - 1) > 0:=of_decide_eq_true c2
    rw [if_pos c2] at hr
    cases hr
    conv=>whnf
    refine fin hk (eq2 ?_ ?_)
    ·rfl
    first | rfl | (simp only [fd63]; rfl)
   have c2 : ¬ andU b ((1 * 9223372036854775808) - 1) > 0:=of_decide_eq_false c2
   rw [if_neg c2] at hr
   cases hr
   conv=>whnf
   refine fin hk (eq2 ?_ ?_)
   ·rfl
   simp only [fd63]
  have c1 : ¬ n > 63:=of_decide_eq_false c1
  rw [if_neg c1] at hr
  by_cases hn : 0 ≤ n
  ·rw [if_pos hn] at hr
   conv=>whnf
   refine ⟨mixed,[],[],[],by kernel_rfl,?_⟩;conv=>whnf
   refine ⟨hn,?_⟩;conv=>whnf
   refine ⟨hn,?_⟩;conv=>whnf
   refine Ask.i (fun c2=>?_) (fun c2=>?_)
   ·have c2 : andU b (x64 (shl IntKind.u64 1 n - 1)) > 0:=of_decide_eq_true c2
    rw [if_pos c2] at hr
    cases hr
    conv=>whnf
    refine fin hk (eq2 ?_ ?_)
    ·rfl
    simp only [fdn]; rfl
   have c2 : ¬ andU b (x64 (shl IntKind.u64 1 n - 1)) > 0:=of_decide_eq_false c2
   rw [if_neg c2] at hr
   cases hr
   conv=>whnf
   refine fin hk (eq2 ?_ ?_)
   ·rfl
   simp only [fdn]
  rw [if_neg hn] at hr; cases hr
 exact hk.elim
def raiseT : List U → Out SV
 | [.a [.v (.int .i64 e),.v (.int .u64 b)]]=>optG (fadd_part_raise.f 2999 e b) (0,0) fun p=>agg [I64 p.1,U64 p.2]
 | _=>.fail
theorem raise_ex : Ok G 176 raiseT:=by
 refine okP noneS Tryz.func176 rfl (by decide) fun K us hk=>?_
 unfold raiseT at hk
 split at hk
 ·rename_i e b
  refine ⟨by show 1 ≤ _; decide,?_⟩
  obtain ⟨v,hr,hk⟩:=optG_wp hk
  unfold fadd_part_raise.f at hr
  conv=>whnf
  refine ⟨[],_,_,rfl,Nat × Int × Int,(fun y=>([(1,.u (.c (.p 1 0))),(2,.u (.c (.p 2 0)))],[(1,.cells 254 [I64 y.2.1,U64 y.2.2]),(2,.cells 254 [I64 0,U64 0])])),
   (fun y=>fadd_part_raise.l0 y.1 y.2.1 y.2.2 = some v),(fun y=>y.1),fun x _=>rfl,⟨(2999,e,b),hr,⟨rfl,rfl,trivial⟩,⟨rfl,rfl,trivial⟩⟩,?_⟩
  rintro ⟨k,e,b⟩ hr
  replace hr : fadd_part_raise.l0 k e b = some v:=hr
  cases k with
  | zero=>cases hr
  | succ k =>
   rw [fadd_part_raise.l0] at hr
   simp only [rw64] at hr
   conv=>whnf
   refine Ask.i (fun c1=>?_) (fun c1=>?_)
   ·have c1 : b < 36028797018963968:=of_decide_eq_true c1
    rw [if_pos c1] at hr
    conv=>whnf
    refine Ask.i (fun c2=>?_) (fun c2=>?_)
    ·have c2 : e > 1:=of_decide_eq_true c2
     rw [if_pos c2] at hr
     conv=>whnf
     refine ⟨by decide,?_⟩;conv=>whnf
     refine ⟨(k,w64 (e - 1),x64 (b * 2)),hr,Nat.lt_succ_self k,⟨rfl,rfl,trivial⟩,⟨rfl,rfl,trivial⟩⟩
    have c2 : ¬ e > 1:=of_decide_eq_false c2
    rw [if_neg c2] at hr
    cases hr
    conv=>whnf
    exact hk
   have c1 : ¬ b < 36028797018963968:=of_decide_eq_false c1
   rw [if_neg c1] at hr
   cases hr
   conv=>whnf
   exact hk
 exact hk.elim
def roundT : List U → Out SV
 | [.a [.v (.int .i64 e),.v (.int .u64 b)]]=>optG (fadd_part_round.f e b) 0 fun p=>one (U64 p)
 | _=>.fail
theorem round_ex : Ok G 175 roundT:=by
 refine okP noneS Tryz.func175 rfl (by decide) fun K us hk=>?_
 unfold roundT at hk
 split at hk
 ·rename_i e b
  refine ⟨by show 1 ≤ _; decide,?_⟩
  obtain ⟨v,hr,hk⟩:=optG_wp hk
  unfold fadd_part_round.f at hr
  simp only [bits_an,bits_and,bits_or,rw64] at hr
  conv=>whnf
  refine ⟨by decide,?_⟩;conv=>whnf
  refine ⟨by decide,?_⟩;conv=>whnf
  refine Ask.i (fun c1=>?_) (fun c1=>?_)
  ·have c1 : andU b 7 > 4:=of_decide_eq_true c1
   rw [if_pos c1] at hr
   cases hr
   conv=>whnf
   refine fin hk (congrArg (fun z : Int=>SV.u (.c (U64 z))) ?_)
   simp only [fd3,mu52]; rfl
  have c1 : ¬ andU b 7 > 4:=of_decide_eq_false c1
  rw [if_neg c1] at hr
  conv=>whnf
  refine Ask.i (fun c2=>?_) (fun c2=>?_)
  ·have c2 : andU b 7 = 4:=eq_of_beq c2
   rw [if_pos c2] at hr
   conv=>whnf
   refine Ask.i (fun c3=>?_) (fun c3=>?_)
   ·have c3:=eq_of_beq c3
    simp only [fd3,mu52] at c3
    rw [if_pos (show andU _ 1 = 1 from c3)] at hr
    cases hr
    conv=>whnf
    refine fin hk (congrArg (fun z : Int=>SV.u (.c (U64 z))) ?_)
    simp only [fd3,mu52]; rfl
   have c3:=ne_of_beq_false c3
   simp only [fd3,mu52] at c3
   rw [if_neg (show ¬ andU _ 1 = 1 from c3)] at hr
   cases hr
   conv=>whnf
   refine fin hk (congrArg (fun z : Int=>SV.u (.c (U64 z))) ?_)
   simp only [fd3,mu52]; rfl
  have c2 : ¬ andU b 7 = 4:=ne_of_beq_false c2
  rw [if_neg c2] at hr
  cases hr
  conv=>whnf
  refine fin hk (congrArg (fun z : Int=>SV.u (.c (U64 z))) ?_)
  simp only [fd3,mu52]; rfl
 exact hk.elim
end Sx
