/- Part of the proof: a machine of states for walks, and contracts of functions over it. Conditions: those that each theorem names. -/
import Derived.Test.YtcjdbimojffggaaGreatDoorC23
import Derived.Test.YtcjdbimojffggaaGreatDoorC15
set_option linter.unusedVariables false
set_option linter.unusedSimpArgs false
namespace Sx
open Go Go.Proofs
open Go.Proofs.SxPu (cls qt sz sg addV subV ng finV sumV)
set_option maxRecDepth 30000
variable {G : Glob}
theorem less_val {a b : Int} {v : Bool} (ua : UU a) (ub : UU b) (h : v = true ↔ LessP a b) : lessV a b = v:=by
 rw [Bool.eq_iff_iff,lessV_iff ua ub]; exact h.symm
theorem LessP_of {a b : Int} (h1 : ¬ cls a = 4) (h2 : ¬ cls b = 4) (h3 : ¬ (a % 9223372036854775808 = 0 ∧ b % 9223372036854775808 = 0)) : LessP a b ↔ (if 9223372036854775808 ≤ a then (if 9223372036854775808 ≤ b then a % 9223372036854775808 > b % 9223372036854775808 else True) else (if 9223372036854775808 ≤ b then False else a % 9223372036854775808 < b % 9223372036854775808)) :=
 ⟨fun h=>h.2.2.2,fun h=>⟨h1,h2,h3,h⟩⟩
def lessRT : List U → Out SV
 | [.c (.v (.int .u64 a)),.c (.v (.int .u64 b))]=>.need (UU a ∧ UU b) (one (Bo (lessV a b)))
 | _=>.fail
def minRT : List U → Out SV
 | [.c (.v (.int .u64 a)),.c (.v (.int .u64 b))]=>.need (UU a ∧ UU b) (one (U64 (minV a b)))
 | _=>.fail
def maxRT : List U → Out SV
 | [.c (.v (.int .u64 a)),.c (.v (.int .u64 b))]=>.need (UU a ∧ UU b) (one (U64 (maxV a b)))
 | _=>.fail
def subT : List U → Out SV
 | [.c (.v (.int .u64 a)),.c (.v (.int .u64 b))]=>.need (UU a ∧ UU b) (one (U64 (subV a b)))
 | _=>.fail
theorem radd_ex : Ok G 59 addT:=by
 refine Ok.byCases3 radd_ex0 radd_ex1 radd_ex2 fun us K hk=>?_
 unfold addT at hk
 split at hk
 ·rename_i a b
  obtain ⟨⟨ua,ub⟩,hk⟩:=hk
  by_cases c : cls a < 3 ∧ cls b < 3
  ·by_cases d : sz a < sz b
   ·exact .inr (.inl ⟨⟨ua,ub,c,d⟩,hk⟩)
   by_cases e : sz a = 0
   ·exact .inl ⟨⟨ua,ub,.inr ⟨e,by omega⟩⟩,hk⟩
   exact .inr (.inr ⟨⟨ua,ub,c,by omega,by omega⟩,hk⟩)
  exact .inl ⟨⟨ua,ub,.inl c⟩,hk⟩
 exact hk.elim
theorem rless_ex : Ok G 132 lessRT:=by
 have hS : AllSound (B [(91,.pure (normG (B []) [31] classT)),(93,.pure (normG (B []) [31] rsizeT)),(95,.pure (normG (B []) [31] rnegT))]) G:=.cons _ rclass_ex (.cons _ rsize_ex (.cons _ rneg_ex (noneS)))
 refine okP hS Tryz.func132 rfl (by decide) fun K us hk=>?_
 unfold lessRT at hk
 split at hk
 ·rename_i a b
  refine ⟨by show 2 ≤ _; decide,?_⟩
  obtain ⟨⟨ua,ub⟩,hk⟩:=hk
  have key : ∀ v : Bool,(v = true ↔ LessP a b) → K (.u (.c (Bo v))):=fun v h=>fin hk (congrArg (fun z : Bool=>SV.u (.c (Bo z))) (less_val ua ub h))
  have ca:=Go.Proofs.SxPu.sz_cast ua
  have cb:=Go.Proofs.SxPu.sz_cast ub
  conv=>whnf
  refine ⟨ua,?_⟩;conv=>whnf
  refine Ask.i (fun q8=>?_) (fun q8=>?_)
  ·have q8 : cls a = 4:=eq_of_beq q8
   conv=>whnf
   exact key _ ⟨fun h=>(by cases h),fun h=>absurd q8 h.1⟩
  have q8 : ¬ cls a = 4:=ne_of_beq_false q8
  conv=>whnf
  refine ⟨ub,?_⟩;conv=>whnf
  refine Ask.i (fun q9=>?_) (fun q9=>?_)
  ·have q9 : cls b = 4:=eq_of_beq q9
   conv=>whnf
   exact key _ ⟨fun h=>(by cases h),fun h=>absurd q9 h.2.1⟩
  have q9 : ¬ cls b = 4:=ne_of_beq_false q9
  conv=>whnf
  refine ⟨ua,?_⟩;conv=>whnf
  refine Ask.i (fun q6=>?_) (fun q6=>?_)
  ·have q6 : ((sz a : Nat) : Int) = 0:=eq_of_beq q6
   conv=>whnf
   refine ⟨ub,?_⟩;conv=>whnf
   refine Ask.i (fun q7=>?_) (fun q7=>?_)
   ·have q7 : ((sz b : Nat) : Int) = 0:=eq_of_beq q7
    conv=>whnf
    exact key _ ⟨fun h=>(by cases h),fun h=>absurd ⟨by omega,by omega⟩ h.2.2.1⟩
   have q7 : ¬ ((sz b : Nat) : Int) = 0:=ne_of_beq_false q7
   have hz : ¬ (a % 9223372036854775808 = 0 ∧ b % 9223372036854775808 = 0):=fun h=>q7 (by omega)
   conv=>whnf
   refine ⟨ua,?_⟩;conv=>whnf
   refine ⟨ub,?_⟩;conv=>whnf
   refine Ask.i (fun s1=>?_) (fun s1=>?_)
   ·have s1 : (decide (9223372036854775808 ≤ a) != decide (9223372036854775808 ≤ b)) = true:=s1
    conv=>whnf
    refine ⟨ua,?_⟩;conv=>whnf
    exact key _ (by rw [LessP_of q8 q9 hz]; by_cases A : 9223372036854775808 ≤ a <;> by_cases B : 9223372036854775808 ≤ b <;> simp [A,B] at s1 ⊢ <;> omega)
   have s1 : (decide (9223372036854775808 ≤ a) != decide (9223372036854775808 ≤ b)) = false:=s1;conv=>whnf
   refine ⟨ua,?_⟩;conv=>whnf
   refine Ask.i (fun s2=>?_) (fun s2=>?_)
   ·have s2 : 9223372036854775808 ≤ a:=of_decide_eq_true s2
    conv=>whnf
    refine ⟨ua,?_⟩;conv=>whnf
    refine ⟨ub,?_⟩;conv=>whnf
    exact key _ (by rw [LessP_of q8 q9 hz]; by_cases A : 9223372036854775808 ≤ a <;> by_cases B : 9223372036854775808 ≤ b <;> simp [A,B] at s1 s2 ⊢ <;> omega)
   have s2 : ¬ 9223372036854775808 ≤ a:=of_decide_eq_false s2
   conv=>whnf
   refine ⟨ua,?_⟩;conv=>whnf
   refine ⟨ub,?_⟩;conv=>whnf
   exact key _ (by rw [LessP_of q8 q9 hz]; by_cases A : 9223372036854775808 ≤ a <;> by_cases B : 9223372036854775808 ≤ b <;> simp [A,B] at s1 s2 ⊢ <;> omega)
  have q6 : ¬ ((sz a : Nat) : Int) = 0:=ne_of_beq_false q6
  have hz : ¬ (a % 9223372036854775808 = 0 ∧ b % 9223372036854775808 = 0):=fun h=>q6 (by omega)
  conv=>whnf
  refine ⟨ua,?_⟩;conv=>whnf
  refine ⟨ub,?_⟩;conv=>whnf
  refine Ask.i (fun s1=>?_) (fun s1=>?_)
  ·have s1 : (decide (9223372036854775808 ≤ a) != decide (9223372036854775808 ≤ b)) = true:=s1
   conv=>whnf
   refine ⟨ua,?_⟩;conv=>whnf
   exact key _ (by rw [LessP_of q8 q9 hz]; by_cases A : 9223372036854775808 ≤ a <;> by_cases B : 9223372036854775808 ≤ b <;> simp [A,B] at s1 ⊢ <;> omega)
  have s1 : (decide (9223372036854775808 ≤ a) != decide (9223372036854775808 ≤ b)) = false:=s1;conv=>whnf
  refine ⟨ua,?_⟩;conv=>whnf
  refine Ask.i (fun s2=>?_) (fun s2=>?_)
  ·have s2 : 9223372036854775808 ≤ a:=of_decide_eq_true s2
   conv=>whnf
   refine ⟨ua,?_⟩;conv=>whnf
   refine ⟨ub,?_⟩;conv=>whnf
   exact key _ (by rw [LessP_of q8 q9 hz]; by_cases A : 9223372036854775808 ≤ a <;> by_cases B : 9223372036854775808 ≤ b <;> simp [A,B] at s1 s2 ⊢ <;> omega)
  have s2 : ¬ 9223372036854775808 ≤ a:=of_decide_eq_false s2
  conv=>whnf
  refine ⟨ua,?_⟩;conv=>whnf
  refine ⟨ub,?_⟩;conv=>whnf
  exact key _ (by rw [LessP_of q8 q9 hz]; by_cases A : 9223372036854775808 ≤ a <;> by_cases B : 9223372036854775808 ≤ b <;> simp [A,B] at s1 s2 ⊢ <;> omega)
 exact hk.elim
theorem rmin_ex : Ok G 164 minRT:=by
 have hS : AllSound (B [(91,.pure (normG (B []) [31] classT)),(132,.pure (normG (B []) [31,31] lessRT))]) G:=.cons _ rclass_ex (.cons _ rless_ex (noneS))
 refine okP hS Tryz.func164 rfl (by decide) fun K us hk=>?_
 unfold minRT at hk
 split at hk
 ·rename_i a b
  refine ⟨by show 2 ≤ _; decide,?_⟩
  obtain ⟨⟨ua,ub⟩,hk⟩:=hk
  have key : ∀ z,minV a b = z → K (.u (.c (U64 z))):=fun z h=>fin hk (congrArg (fun z : Int=>SV.u (.c (U64 z))) h)
  conv=>whnf
  refine ⟨⟨ub,ua⟩,?_⟩;conv=>whnf
  refine Ask.i (fun q1=>?_) (fun q1=>?_)
  ·have q1 : lessV b a = true:=q1
   conv=>whnf
   exact key _ (by unfold minV; rw [q1]; rfl)
  have q1 : lessV b a = false:=q1;conv=>whnf
  refine ⟨ua,?_⟩;conv=>whnf
  refine Ask.i (fun q2=>?_) (fun q2=>?_)
  ·have q2 : cls a = 4:=eq_of_beq q2
   conv=>whnf
   refine ⟨ub,?_⟩;conv=>whnf
   refine Ask.i (fun q3=>?_) (fun q3=>?_)
   ·have q3 : ¬ cls b = 4:=bne_iff_ne.1 q3
    conv=>whnf
    exact key _ (by unfold minV otherV; rw [nanV_cls ua,nanV_cls ub,q1,decide_eq_true q2,decide_eq_false q3]; rfl)
   have q3 : cls b = 4:=of_bne_false q3
   conv=>whnf
   exact key _ (by unfold minV otherV; rw [nanV_cls ua,nanV_cls ub,q1,decide_eq_true q2,decide_eq_true q3]; rfl)
  have q2 : ¬ cls a = 4:=ne_of_beq_false q2
  conv=>whnf
  exact key _ (by unfold minV otherV; rw [nanV_cls ua,nanV_cls ub,q1,decide_eq_false q2]; rfl)
 exact hk.elim
theorem rmax_ex : Ok G 165 maxRT:=by
 have hS : AllSound (B [(91,.pure (normG (B []) [31] classT)),(132,.pure (normG (B []) [31,31] lessRT))]) G:=.cons _ rclass_ex (.cons _ rless_ex (noneS))
 refine okP hS Tryz.func165 rfl (by decide) fun K us hk=>?_
 unfold maxRT at hk
 split at hk
 ·rename_i a b
  refine ⟨by show 2 ≤ _; decide,?_⟩
  obtain ⟨⟨ua,ub⟩,hk⟩:=hk
  have key : ∀ z,maxV a b = z → K (.u (.c (U64 z))):=fun z h=>fin hk (congrArg (fun z : Int=>SV.u (.c (U64 z))) h)
  conv=>whnf
  refine ⟨⟨ua,ub⟩,?_⟩;conv=>whnf
  refine Ask.i (fun q1=>?_) (fun q1=>?_)
  ·have q1 : lessV a b = true:=q1
   conv=>whnf
   exact key _ (by unfold maxV; rw [q1]; rfl)
  have q1 : lessV a b = false:=q1;conv=>whnf
  refine ⟨ua,?_⟩;conv=>whnf
  refine Ask.i (fun q2=>?_) (fun q2=>?_)
  ·have q2 : cls a = 4:=eq_of_beq q2
   conv=>whnf
   refine ⟨ub,?_⟩;conv=>whnf
   refine Ask.i (fun q3=>?_) (fun q3=>?_)
   ·have q3 : ¬ cls b = 4:=bne_iff_ne.1 q3
    conv=>whnf
    exact key _ (by unfold maxV otherV; rw [nanV_cls ua,nanV_cls ub,q1,decide_eq_true q2,decide_eq_false q3]; rfl)
   have q3 : cls b = 4:=of_bne_false q3
   conv=>whnf
   exact key _ (by unfold maxV otherV; rw [nanV_cls ua,nanV_cls ub,q1,decide_eq_true q2,decide_eq_true q3]; rfl)
  have q2 : ¬ cls a = 4:=ne_of_beq_false q2
  conv=>whnf
  exact key _ (by unfold maxV otherV; rw [nanV_cls ua,nanV_cls ub,q1,decide_eq_false q2]; rfl)
 exact hk.elim
theorem sub_ex : Ok G 128 subT:=by
 have hS : AllSound (B [(143,.pure (normG (B []) [31] classT)),(106,.pure (normG (B []) [31,31] addT)),(166,.pure (normG (B []) [31] negT))]) G:=.cons _ class_ex (.cons _ add_ex (.cons _ neg_ex (noneS)))
 refine okP hS Tryz.func128 rfl (by decide) fun K us hk=>?_
 unfold subT at hk
 split at hk
 ·rename_i a b
  refine ⟨by show 2 ≤ _; decide,?_⟩
  obtain ⟨⟨ua,ub⟩,hk⟩:=hk
  unfold subV at hk
  conv=>whnf
  refine ⟨ub,?_⟩;conv=>whnf
  refine Ask.i (fun q1=>?_) (fun q1=>?_)
  ·have q1 : cls b = 4:=eq_of_beq q1
   rw [if_pos q1] at hk
   conv=>whnf
   refine ⟨⟨ua,ub⟩,?_⟩;conv=>whnf
   exact hk
  have q1 : ¬ cls b = 4:=ne_of_beq_false q1
  rw [if_neg q1] at hk
  conv=>whnf
  refine ⟨ub,?_⟩;conv=>whnf
  refine ⟨⟨ua,Go.Proofs.SxPu.ng_U ub⟩,?_⟩;conv=>whnf
  exact hk
 exact hk.elim
theorem rsub_ex : Ok G 133 subT:=by
 have hS : AllSound (B [(91,.pure (normG (B []) [31] classT)),(59,.pure (normG (B []) [31,31] addT)),(170,.pure (normG (B []) [31] negT))]) G:=.cons _ rclass_ex (.cons _ radd_ex (.cons _ rNeg_ex (noneS)))
 refine okP hS Tryz.func133 rfl (by decide) fun K us hk=>?_
 unfold subT at hk
 split at hk
 ·rename_i a b
  refine ⟨by show 2 ≤ _; decide,?_⟩
  obtain ⟨⟨ua,ub⟩,hk⟩:=hk
  unfold subV at hk
  conv=>whnf
  refine ⟨ub,?_⟩;conv=>whnf
  refine Ask.i (fun q1=>?_) (fun q1=>?_)
  ·have q1 : cls b = 4:=eq_of_beq q1
   rw [if_pos q1] at hk
   conv=>whnf
   refine ⟨⟨ua,ub⟩,?_⟩;conv=>whnf
   exact hk
  have q1 : ¬ cls b = 4:=ne_of_beq_false q1
  rw [if_neg q1] at hk
  conv=>whnf
  refine ⟨ub,?_⟩;conv=>whnf
  refine ⟨⟨ua,Go.Proofs.SxPu.ng_U ub⟩,?_⟩;conv=>whnf
  exact hk
 exact hk.elim
end Sx
namespace Sx
open Go Go.Proofs
open Go.Proofs.SxPu (cls qt sz sg addV subV ng finV sumV)
set_option maxRecDepth 30000
variable {G : Glob}
def rsumT : List U → Out SV
 | [.c (.v (.int .u64 a)),.c (.v (.int .u64 b))]=>.ret (.t [.c (U64 (x64 (a + b))),.c (Bo (decide (x64 (a + b) ≥ a)))])
 | _=>.fail
theorem rsum_ex : Ok G 126 rsumT:=by
 refine okP noneS Tryz.func126 rfl (by decide) fun K us hk=>?_
 unfold rsumT at hk
 split at hk
 ·refine ⟨by show 2 ≤ _; decide,?_⟩
  conv=>whnf
  exact hk
 exact hk.elim
def lessSumT : List U → Out SV
 | [.a [.v (.bool h),.v (.int .u64 n)],.a [.v (.bool h'),.v (.int .u64 n')]]=>.need (UU n ∧ UU n') (agg [Bo (h && h'),U64 (bif h && h' then subV n n' else 0)])
 | _=>.fail
theorem lessSum_ex : Ok G 135 lessSumT:=by
 have hS : AllSound (B [(133,.pure (normG (B []) [31,31] subT))]) G:=.cons _ rsub_ex noneS
 refine okP hS Tryz.func135 rfl (by decide) fun K us hk=>?_
 unfold lessSumT at hk
 split at hk
 ·rename_i h n h' n'
  refine ⟨by show 2 ≤ _; decide,?_⟩
  obtain ⟨⟨ua,ub⟩,hk⟩:=hk
  conv=>whnf
  refine Ask.i (fun c1=>?_) (fun c1=>?_)
  ·have c1 : (!h) = true:=c1
   obtain rfl : h = false:=by simpa using c1
   conv=>whnf
   exact hk
  have c1 : (!h) = false:=c1
  obtain rfl : h = true:=by simpa using c1
  conv=>whnf
  refine Ask.i (fun c2=>?_) (fun c2=>?_)
  ·have c2 : (!h') = true:=c2
   obtain rfl : h' = false:=by simpa using c2
   conv=>whnf
   exact hk
  have c2 : (!h') = false:=c2
  obtain rfl : h' = true:=by simpa using c2
  conv=>whnf
  refine ⟨⟨ua,ub⟩,?_⟩;conv=>whnf
  exact hk
 exact hk.elim
inductive Q4 where | q0 | q1 | q2 | q3
def Q4.m : Q4 → Nat | .q0=>3 | .q1=>2 | .q2=>1 | .q3=>0
def Q4.i : Q4 → Int | .q0=>0 | .q1=>1 | .q2=>2 | .q3=>3
def Q4.out (h0 : Bool) (n0 : Int) (h1 : Bool) (n1 : Int) (h2 : Bool) (n2 : Int) (k0 : Bool) (m0 : Int) (k1 : Bool) (m1 : Int) (k2 : Bool) (m2 : Int) : Q4 → List C
 | .q0=>[Bo false,U64 0,Bo false,U64 0,Bo false,U64 0]
 | .q1=>[Bo (h0 && k0),U64 (bif h0 && k0 then addV n0 m0 else 0),Bo false,U64 0,Bo false,U64 0]
 | .q2=>[Bo (h0 && k0),U64 (bif h0 && k0 then addV n0 m0 else 0),Bo (h1 && k1),U64 (bif h1 && k1 then minV n1 m1 else 0),Bo false,U64 0]
 | .q3=>[Bo (h0 && k0),U64 (bif h0 && k0 then addV n0 m0 else 0),Bo (h1 && k1),U64 (bif h1 && k1 then minV n1 m1 else 0),Bo (h2 && k2),U64 (bif h2 && k2 then maxV n2 m2 else 0)]
def optsT : List U → Out SV
 | [.a [.v (.bool h0),.v (.int .u64 n0),.v (.bool h1),.v (.int .u64 n1),.v (.bool h2),.v (.int .u64 n2)],.a [.v (.bool k0),.v (.int .u64 m0),.v (.bool k1),.v (.int .u64 m1),.v (.bool k2),.v (.int .u64 m2)]] =>
  .need ((UU n0 ∧ UU m0) ∧ (UU n1 ∧ UU m1) ∧ UU n2 ∧ UU m2) (agg (Q4.out h0 n0 h1 n1 h2 n2 k0 m0 k1 m1 k2 m2 .q3))
 | _=>.fail
theorem opts_ex : Ok G 127 optsT:=by
 have hS : AllSound (B [(59,.pure (normG (B []) [31,31] addT)),(164,.pure (normG (B []) [31,31] minRT)),(165,.pure (normG (B []) [31,31] maxRT))]) G:=.cons _ radd_ex (.cons _ rmin_ex (.cons _ rmax_ex noneS))
 refine okP hS Tryz.func127 rfl (by decide) fun K us hk=>?_
 unfold optsT at hk
 split at hk
 ·rename_i h0 n0 h1 n1 h2 n2 k0 m0 k1 m1 k2 m2
  refine ⟨by show 2 ≤ _; decide,?_⟩
  obtain ⟨⟨⟨a0,b0⟩,⟨a1,b1⟩,a2,b2⟩,hk⟩:=hk
  conv=>whnf
  refine ⟨[],_,_,rfl,Q4,(fun y=>([(2,.u (.c (.p 2 0))),(3,.u (.c (.p 3 0))),(4,.u (.c (.p 4 0))),(5,.u (.c (.p 5 0))),(6,.u (.c (I64 y.i)))],
    [(2,.cells 220 [Bo h0,U64 n0,Bo h1,U64 n1,Bo h2,U64 n2]),(3,.cells 220 [Bo k0,U64 m0,Bo k1,U64 m1,Bo k2,U64 m2]),(4,.cells 220 [Bo false,U64 0,Bo false,U64 0,Bo false,U64 0]),(5,.cells 220 (Q4.out h0 n0 h1 n1 h2 n2 k0 m0 k1 m1 k2 m2 y))])),
   (fun _=>True),Q4.m,fun x _=>(by cases x <;> rfl),⟨.q0,trivial,⟨rfl,rfl,rfl,rfl,rfl,trivial⟩,⟨rfl,rfl,rfl,rfl,trivial⟩⟩,?_⟩
  intro x _
  cases x
  ·skip
   conv=>whnf
   refine ⟨by decide,?_⟩;conv=>whnf
   refine Ask.i (fun c1=>?_) (fun c1=>?_)
   ·have c1 : (!h0) = true:=c1
    obtain rfl : h0 = false:=by simpa using c1
    conv=>whnf
    exact ⟨.q1,trivial,by decide,⟨rfl,rfl,rfl,rfl,rfl,trivial⟩,⟨rfl,rfl,rfl,rfl,trivial⟩⟩
   have c1 : (!h0) = false:=c1
   obtain rfl : h0 = true:=by simpa using c1
   conv=>whnf
   refine ⟨by decide,?_⟩;conv=>whnf
   refine Ask.i (fun c2=>?_) (fun c2=>?_)
   ·have c2 : (!k0) = true:=c2
    obtain rfl : k0 = false:=by simpa using c2
    conv=>whnf
    exact ⟨.q1,trivial,by decide,⟨rfl,rfl,rfl,rfl,rfl,trivial⟩,⟨rfl,rfl,rfl,rfl,trivial⟩⟩
   have c2 : (!k0) = false:=c2
   obtain rfl : k0 = true:=by simpa using c2
   conv=>whnf
   refine ⟨mixed,[],[],[],by kernel_rfl,?_⟩;conv=>whnf
   refine ⟨by decide,?_⟩;conv=>whnf
   refine ⟨by decide,?_⟩;conv=>whnf
   refine ⟨⟨a0,b0⟩,?_⟩;conv=>whnf
   refine ⟨by decide,?_⟩;conv=>whnf
   exact ⟨.q1,trivial,by decide,⟨rfl,rfl,rfl,rfl,rfl,trivial⟩,⟨rfl,rfl,rfl,rfl,trivial⟩⟩
  ·skip
   conv=>whnf
   refine ⟨by decide,?_⟩;conv=>whnf
   refine Ask.i (fun c1=>?_) (fun c1=>?_)
   ·have c1 : (!h1) = true:=c1
    obtain rfl : h1 = false:=by simpa using c1
    conv=>whnf
    exact ⟨.q2,trivial,by decide,⟨rfl,rfl,rfl,rfl,rfl,trivial⟩,⟨rfl,rfl,rfl,rfl,trivial⟩⟩
   have c1 : (!h1) = false:=c1
   obtain rfl : h1 = true:=by simpa using c1
   conv=>whnf
   refine ⟨by decide,?_⟩;conv=>whnf
   refine Ask.i (fun c2=>?_) (fun c2=>?_)
   ·have c2 : (!k1) = true:=c2
    obtain rfl : k1 = false:=by simpa using c2
    conv=>whnf
    exact ⟨.q2,trivial,by decide,⟨rfl,rfl,rfl,rfl,rfl,trivial⟩,⟨rfl,rfl,rfl,rfl,trivial⟩⟩
   have c2 : (!k1) = false:=c2
   obtain rfl : k1 = true:=by simpa using c2
   conv=>whnf
   refine ⟨mixed,[],[],[],by kernel_rfl,?_⟩;conv=>whnf
   refine ⟨by decide,?_⟩;conv=>whnf
   refine ⟨by decide,?_⟩;conv=>whnf
   refine ⟨⟨a1,b1⟩,?_⟩;conv=>whnf
   refine ⟨mixed,[],[],[],by kernel_rfl,?_⟩;conv=>whnf
   refine ⟨by decide,?_⟩;conv=>whnf
   refine ⟨by decide,?_⟩;conv=>whnf
   refine ⟨⟨a1,b1⟩,?_⟩;conv=>whnf
   refine ⟨by decide,?_⟩;conv=>whnf
   exact ⟨.q2,trivial,by decide,⟨rfl,rfl,rfl,rfl,rfl,trivial⟩,⟨rfl,rfl,rfl,rfl,trivial⟩⟩
  ·skip
   conv=>whnf
   refine ⟨by decide,?_⟩;conv=>whnf
   refine Ask.i (fun c1=>?_) (fun c1=>?_)
   ·have c1 : (!h2) = true:=c1
    obtain rfl : h2 = false:=by simpa using c1
    conv=>whnf
    exact ⟨.q3,trivial,by decide,⟨rfl,rfl,rfl,rfl,rfl,trivial⟩,⟨rfl,rfl,rfl,rfl,trivial⟩⟩
   have c1 : (!h2) = false:=c1
   obtain rfl : h2 = true:=by simpa using c1
   conv=>whnf
   refine ⟨by decide,?_⟩;conv=>whnf
   refine Ask.i (fun c2=>?_) (fun c2=>?_)
   ·have c2 : (!k2) = true:=c2
    obtain rfl : k2 = false:=by simpa using c2
    conv=>whnf
    exact ⟨.q3,trivial,by decide,⟨rfl,rfl,rfl,rfl,rfl,trivial⟩,⟨rfl,rfl,rfl,rfl,trivial⟩⟩
   have c2 : (!k2) = false:=c2
   obtain rfl : k2 = true:=by simpa using c2
   conv=>whnf
   refine ⟨mixed,[],[],[],by kernel_rfl,?_⟩;conv=>whnf
   refine ⟨by decide,?_⟩;conv=>whnf
   refine ⟨by decide,?_⟩;conv=>whnf
   refine ⟨⟨a2,b2⟩,?_⟩;conv=>whnf
   refine ⟨mixed,[],[],[],by kernel_rfl,?_⟩;conv=>whnf
   refine ⟨by decide,?_⟩;conv=>whnf
   refine ⟨by decide,?_⟩;conv=>whnf
   refine ⟨⟨a2,b2⟩,?_⟩;conv=>whnf
   refine ⟨by decide,?_⟩;conv=>whnf
   exact ⟨.q3,trivial,by decide,⟨rfl,rfl,rfl,rfl,rfl,trivial⟩,⟨rfl,rfl,rfl,rfl,trivial⟩⟩
  skip
  conv=>whnf
  exact hk
 exact hk.elim
end Sx
namespace Sx
open Go Go.Proofs
set_option maxRecDepth 30000
variable {G : Glob}
def addGo (o : Nat) : Nat → List Int → List Int → Bool → List Int × Bool
 | _,[],c,bad=>(c,bad)
 | i,x :: l,c,bad=>addGo o (i + 1) l (c.set (o + i) (x64 (c.getD (o + i) 0 + x))) (bad || decide (x64 (c.getD (o + i) 0 + x) < c.getD (o + i) 0))
theorem addGo_len (o : Nat) : ∀ (l : List Int) (i : Nat) (c : List Int) (bad : Bool),(addGo o i l c bad).1.length = c.length
 | [],_,_,_=>rfl
 | x :: l,i,c,bad=>by rw [addGo,addGo_len o l]; simp
def lo2 (f g : Int) : Int:=if g < f then g else f
def hi2 (a b : Int) : Int:=if b > a then b else a
def addN (f : Int) (l : List Int) (g : Int) (m : List Int) : Int:=hi2 (f + l.length) (g + m.length) - lo2 f g
def addL (s t : Int × List Int) (bad : Bool) : Int × List Int × Bool :=
 match s.2,t.2 with
 | [],_=>(t.1,t.2,bad)
 | _ :: _,[]=>(s.1,s.2,bad)
 | _ :: _,_ :: _ =>
  (lo2 s.1 t.1,addGo (t.1 - lo2 s.1 t.1).toNat 0 t.2 (addGo (s.1 - lo2 s.1 t.1).toNat 0 s.2 (List.replicate (addN s.1 s.2 t.1 t.2).toNat 0) bad).1 (addGo (s.1 - lo2 s.1 t.1).toNat 0 s.2 (List.replicate (addN s.1 s.2 t.1 t.2).toNat 0) bad).2)
def addS : List U → List Blk → Out RF
 | [.c (.p 50000 0),.a [.v (.int .i64 f),.d 38 (.ints l)],.a [.v (.int .i64 g),.d 38 (.ints m)]],[.cells 181 [.v (.bool bad)]] =>
  .need (Near f l ∧ Near g m ∧ addN f l g m ≤ 68719476736)
   (.ret (.u (.a [I64 (addL (f,l) (g,m) bad).1,.d 38 (.ints (addL (f,l) (g,m) bad).2.1)]),[some (.cells 181 [Bo (addL (f,l) (g,m) bad).2.2])],[]))
 | _,_=>.fail
theorem add_ok : OkF G 114 addS:=by
 have hS : AllSound (B [(142,.pure (normG (B []) [185] endS)),(108,.full (normF (B []) [228,31,31] plusS))]) G:=.cons _ end_ok (.consF _ plus_ok noneS)
 refine okF false hS Tryz.func114 rfl (by decide) fun K us lent hk=>?_
 unfold addS at hk
 split at hk
 ·rename_i f l g m bad
  refine ⟨by show 3 ≤ _; decide,?_⟩
  obtain ⟨⟨hF,hG,hN⟩,hk⟩:=hk
  obtain ⟨f1,f2,f3⟩:=hF
  obtain ⟨g1,g2,g3⟩:=hG
  conv=>whnf
  cases l with
  | nil =>
   conv=>whnf
   exact hk
  | cons a r =>
   cases m with
   | nil =>
    conv=>whnf
    exact hk
   | cons b q =>
    have lo : lo2 f g ≤ f ∧ lo2 f g ≤ g ∧ -1099511627776 ≤ lo2 f g:=by unfold lo2; split <;> omega
    have hi : f + ((a :: r).length : Nat) ≤ hi2 (f + ((a :: r).length : Nat)) (g + ((b :: q).length : Nat)) ∧ g + ((b :: q).length : Nat) ≤ hi2 (f + ((a :: r).length : Nat)) (g + ((b :: q).length : Nat)) ∧ hi2 (f + ((a :: r).length : Nat)) (g + ((b :: q).length : Nat)) ≤ 1168231104512:=by unfold hi2; split <;> omega
    have eN : w64 (hi2 (w64 (f + ((a :: r).length : Nat))) (w64 (g + ((b :: q).length : Nat))) - lo2 f g) = addN f (a :: r) g (b :: q):=by
     rw [w64_eq (n:=f + ((a :: r).length : Nat)) (by omega),w64_eq (n:=g + ((b :: q).length : Nat)) (by omega)]
     exact w64_eq (by omega)
    have hN0 : 0 ≤ addN f (a :: r) g (b :: q):=by unfold addN; omega
    simp only [addL] at hk
    generalize hfirst : lo2 f g = first at *
    generalize hNN : addN f (a :: r) g (b :: q) = N at *
    conv=>whnf
    refine ⟨mixed,[(11,[8])],[(1,[]),(2,[]),(3,[]),(4,[]),(5,[]),(8,[])],[],by kernel_rfl,?_⟩;conv=>whnf
    refine ⟨?_,?_⟩
    ·have : 0 ≤ N ∧ N ≤ N ∧ N ≤ 1099511627776:=by omega
     rw [← eN,← hfirst] at this
     exact this
    conv=>whnf
    refine ⟨[],_,_,rfl,Nat × List Int × Bool × Int,(fun x=>([(0,.u (.c (.p 50000 0))),(6,.u (.c (.p 6 0))),(7,.u (.c (I64 x.2.2.2))),(8,.u (.c (.p 8 0))),(42,.u (.c (.d 232 (.rows [[.int f,.ints (a :: r)],[.int g,.ints (b :: q)]])))),(43,.u (.c (I64 2))),(44,.u (.c (I64 (x.1 : Nat))))],
      [(50000,.cells 181 [Bo x.2.2.1]),(6,.cells 185 [I64 0,.v (.slice none 0 0)]),(8,.cells 185 [I64 x.2.2.2,.r 38 38]),(38,.row 38 (.ints x.2.1))])),
     (fun x=>x.2.2.2 = first ∧ x.2.1.length = N.toNat ∧ (x.1 = 0 ∧ x.2.1 = List.replicate N.toNat 0 ∧ x.2.2.1 = bad ∨ x.1 = 1 ∧ (x.2.1,x.2.2.1) = addGo (f - first).toNat 0 (a :: r) (List.replicate N.toNat 0) bad ∨
      x.1 = 2 ∧ (x.2.1,x.2.2.1) = addGo (g - first).toNat 0 (b :: q) (addGo (f - first).toNat 0 (a :: r) (List.replicate N.toNat 0) bad).1 (addGo (f - first).toNat 0 (a :: r) (List.replicate N.toNat 0) bad).2)),
     (fun x=>2 - x.1),fun x _=>rfl,⟨(0,List.replicate (w64 (hi2 (w64 (f + ((a :: r).length : Nat))) (w64 (g + ((b :: q).length : Nat))) - lo2 f g)).toNat 0,bad,lo2 f g),?_,⟨rfl,rfl,rfl,rfl,rfl,rfl,rfl,trivial⟩,⟨rfl,rfl,rfl,rfl,trivial⟩⟩,?_⟩
    ·refine ⟨hfirst,?_,.inl ⟨rfl,?_,rfl⟩⟩
     ·show (List.replicate (w64 (hi2 (w64 (f + ((a :: r).length : Nat))) (w64 (g + ((b :: q).length : Nat))) - lo2 f g)).toNat (0 : Int)).length = N.toNat
      rw [hfirst,eN]; simp
     show List.replicate (w64 (hi2 (w64 (f + ((a :: r).length : Nat))) (w64 (g + ((b :: q).length : Nat))) - lo2 f g)).toNat (0 : Int) = List.replicate N.toNat 0
     rw [hfirst,eN]
    rintro ⟨k,c0,bd0,first'⟩ ⟨p1,p2,p3⟩
    simp only at p1 p2 p3
    subst p1
    rcases p3 with ⟨rfl,p3,p4⟩ | ⟨rfl,p3⟩ | ⟨rfl,p3⟩
    ·conv=>whnf
     refine ⟨by show (0 : Int) ≤ 0 ∧ (0 : Int) < 2; decide,?_⟩;conv=>whnf
     refine ⟨[],_,_,rfl,Nat × List Int × Bool,(fun y=>([(0,.u (.c (.p 50000 0))),(6,.u (.c (.p 6 0))),(7,.u (.c (I64 first'))),(8,.u (.c (.p 8 0))),(10,.u (.c (.p 10 0))),(42,.u (.c (.d 232 (.rows [[.int f,.ints (a :: r)],[.int g,.ints (b :: q)]])))),(43,.u (.c (I64 2))),(44,.u (.c (I64 0))),(49,.u (.c (.d 38 (.ints (a :: r))))),(50,.u (.c (I64 (((a :: r)).length : Nat)))),(51,.u (.c (I64 (y.1 : Nat))))],
       [(50000,.cells 181 [Bo y.2.2]),(6,.cells 185 [I64 0,.v (.slice none 0 0)]),(8,.cells 185 [I64 first',.r 38 38]),(10,.cells 185 [I64 f,.d 38 (.ints (a :: r))]),(38,.row 38 (.ints y.2.1))])),
      (fun y=>y.1 ≤ ((a :: r)).length ∧ y.2.1.length = N.toNat ∧ addGo (f - first').toNat y.1 (((a :: r)).drop y.1) y.2.1 y.2.2 = addGo (f - first').toNat 0 (a :: r) c0 bd0),
      (fun y=>((a :: r)).length - y.1),fun x _=>rfl,⟨(0,c0,bd0),⟨Nat.zero_le _,p2,rfl⟩,⟨rfl,rfl,rfl,rfl,rfl,rfl,rfl,rfl,rfl,rfl,rfl,trivial⟩,⟨rfl,rfl,rfl,rfl,rfl,trivial⟩⟩,?_⟩
     rintro ⟨i,c,bd⟩ ⟨q1,q2,q3⟩
     simp only at q1 q2 q3
     conv=>whnf
     refine Ask.i (fun c1=>?_) (fun c1=>?_)
     ·have c1 : (i : Int) < (((a :: r)).length : Nat):=of_decide_eq_true c1
      have hi' : i < ((a :: r)).length:=by omega
      have hw : w64 (w64 (f + (i : Int)) - first') = f + i - first':=by rw [w64_eq (n:=f + (i : Int)) (by omega),w64_eq (by omega)]
      have hin : 0 ≤ w64 (w64 (f + (i : Int)) - first') ∧ w64 (w64 (f + (i : Int)) - first') < (c.length : Int):=by
       rw [hw,q2]
       unfold addN at hNN
       omega
      conv=>whnf
      refine ⟨⟨by omega,c1⟩,?_⟩;conv=>whnf
      refine ⟨mixed,[(20,[50000]),(22,[38])],[(1,[50000]),(3,[50000]),(10,[]),(12,[]),(17,[]),(18,[]),(21,[50000])],[],by kernel_rfl,?_⟩;conv=>whnf
      refine ⟨hin,?_⟩;conv=>whnf
      refine ⟨hin,?_⟩;conv=>whnf
      have hK : (w64 (w64 (f + (i : Int)) - first')).toNat = (f - first').toNat + i:=by rw [hw]; omega
      have hstep : addGo (f - first').toNat i (((a :: r)).drop i) c bd = addGo (f - first').toNat (i + 1) (((a :: r)).drop (i + 1)) (c.set ((f - first').toNat + i) (x64 (c.getD ((f - first').toNat + i) 0 + ((a :: r)).getD i 0))) (bd || decide (x64 (c.getD ((f - first').toNat + i) 0 + ((a :: r)).getD i 0) < c.getD ((f - first').toNat + i) 0)):=by
       rw [List.drop_eq_getElem_cons hi',addGo]
       have : ((a :: r)).getD i 0 = ((a :: r))[i]:=by rw [List.getD_eq_getElem?_getD,List.getElem?_eq_getElem hi']; rfl
       rw [this]
      rw [← hK] at hstep
      refine ⟨(i + 1,_,_),⟨?_,?_,hstep.symm.trans q3⟩,?_,⟨rfl,rfl,rfl,rfl,rfl,rfl,rfl,rfl,rfl,rfl,?_,trivial⟩,⟨rfl,rfl,rfl,rfl,rfl,trivial⟩⟩
      ·exact hi'
      ·simp only [List.length_set]; exact q2
      ·simp only; omega
      exact congrArg (fun z : Int=>some (SV.u (.c (I64 z)))) (w64_eq (n:=(i : Int) + 1) (by omega))
     have c1 : ¬ (i : Int) < (((a :: r)).length : Nat):=of_decide_eq_false c1
     have hi' : i = ((a :: r)).length:=by omega
     rw [hi',List.drop_length,addGo] at q3
     conv=>whnf
     refine ⟨(0 + 1,c,bd,first'),⟨rfl,q2,.inr (.inl ⟨rfl,by rw [← p3,← p4]; exact q3⟩)⟩,by show 2 - (0 + 1) < 2 - 0; decide,⟨rfl,rfl,rfl,rfl,rfl,rfl,rfl,trivial⟩,⟨rfl,rfl,rfl,rfl,trivial⟩⟩
    ·conv=>whnf
     refine ⟨by show (0 : Int) ≤ 1 ∧ (1 : Int) < 2; decide,?_⟩;conv=>whnf
     refine ⟨[],_,_,rfl,Nat × List Int × Bool,(fun y=>([(0,.u (.c (.p 50000 0))),(6,.u (.c (.p 6 0))),(7,.u (.c (I64 first'))),(8,.u (.c (.p 8 0))),(10,.u (.c (.p 10 0))),(42,.u (.c (.d 232 (.rows [[.int f,.ints (a :: r)],[.int g,.ints (b :: q)]])))),(43,.u (.c (I64 2))),(44,.u (.c (I64 1))),(49,.u (.c (.d 38 (.ints (b :: q))))),(50,.u (.c (I64 (((b :: q)).length : Nat)))),(51,.u (.c (I64 (y.1 : Nat))))],
       [(50000,.cells 181 [Bo y.2.2]),(6,.cells 185 [I64 0,.v (.slice none 0 0)]),(8,.cells 185 [I64 first',.r 38 38]),(10,.cells 185 [I64 g,.d 38 (.ints (b :: q))]),(38,.row 38 (.ints y.2.1))])),
      (fun y=>y.1 ≤ ((b :: q)).length ∧ y.2.1.length = N.toNat ∧ addGo (g - first').toNat y.1 (((b :: q)).drop y.1) y.2.1 y.2.2 = addGo (g - first').toNat 0 (b :: q) c0 bd0),
      (fun y=>((b :: q)).length - y.1),fun x _=>rfl,⟨(0,c0,bd0),⟨Nat.zero_le _,p2,rfl⟩,⟨rfl,rfl,rfl,rfl,rfl,rfl,rfl,rfl,rfl,rfl,rfl,trivial⟩,⟨rfl,rfl,rfl,rfl,rfl,trivial⟩⟩,?_⟩
     rintro ⟨i,c,bd⟩ ⟨q1,q2,q3⟩
     simp only at q1 q2 q3
     conv=>whnf
     refine Ask.i (fun c1=>?_) (fun c1=>?_)
     ·have c1 : (i : Int) < (((b :: q)).length : Nat):=of_decide_eq_true c1
      have hi' : i < ((b :: q)).length:=by omega
      have hw : w64 (w64 (g + (i : Int)) - first') = g + i - first':=by rw [w64_eq (n:=g + (i : Int)) (by omega),w64_eq (by omega)]
      have hin : 0 ≤ w64 (w64 (g + (i : Int)) - first') ∧ w64 (w64 (g + (i : Int)) - first') < (c.length : Int):=by
       rw [hw,q2]
       unfold addN at hNN
       omega
      conv=>whnf
      refine ⟨⟨by omega,c1⟩,?_⟩;conv=>whnf
      refine ⟨mixed,[(20,[50000]),(22,[38])],[(1,[50000]),(3,[50000]),(10,[]),(12,[]),(17,[]),(18,[]),(21,[50000])],[],by kernel_rfl,?_⟩;conv=>whnf
      refine ⟨hin,?_⟩;conv=>whnf
      refine ⟨hin,?_⟩;conv=>whnf
      have hK : (w64 (w64 (g + (i : Int)) - first')).toNat = (g - first').toNat + i:=by rw [hw]; omega
      have hstep : addGo (g - first').toNat i (((b :: q)).drop i) c bd = addGo (g - first').toNat (i + 1) (((b :: q)).drop (i + 1)) (c.set ((g - first').toNat + i) (x64 (c.getD ((g - first').toNat + i) 0 + ((b :: q)).getD i 0))) (bd || decide (x64 (c.getD ((g - first').toNat + i) 0 + ((b :: q)).getD i 0) < c.getD ((g - first').toNat + i) 0)):=by
       rw [List.drop_eq_getElem_cons hi',addGo]
       have : ((b :: q)).getD i 0 = ((b :: q))[i]:=by rw [List.getD_eq_getElem?_getD,List.getElem?_eq_getElem hi']; rfl
       rw [this]
      rw [← hK] at hstep
      refine ⟨(i + 1,_,_),⟨?_,?_,hstep.symm.trans q3⟩,?_,⟨rfl,rfl,rfl,rfl,rfl,rfl,rfl,rfl,rfl,rfl,?_,trivial⟩,⟨rfl,rfl,rfl,rfl,rfl,trivial⟩⟩
      ·exact hi'
      ·simp only [List.length_set]; exact q2
      ·simp only; omega
      exact congrArg (fun z : Int=>some (SV.u (.c (I64 z)))) (w64_eq (n:=(i : Int) + 1) (by omega))
     have c1 : ¬ (i : Int) < (((b :: q)).length : Nat):=of_decide_eq_false c1
     have hi' : i = ((b :: q)).length:=by omega
     rw [hi',List.drop_length,addGo] at q3
     conv=>whnf
     refine ⟨(1 + 1,c,bd,first'),⟨rfl,q2,.inr (.inr ⟨rfl,by rw [← p3]; exact q3⟩)⟩,by show 2 - (1 + 1) < 2 - 1; decide,⟨rfl,rfl,rfl,rfl,rfl,rfl,rfl,trivial⟩,⟨rfl,rfl,rfl,rfl,trivial⟩⟩
    conv=>whnf
    rw [← p3] at hk
    exact hk
 exact hk.elim
end Sx
namespace Sx
open Go Go.Proofs
set_option maxRecDepth 30000
variable {G : Glob}
def oneSide (s t : Int × List Int) (x y : Nat) (bad : Bool) : Int × List Int × Bool :=
 addL ((downL s.1 s.2 x bad).1,(downL s.1 s.2 x bad).2.1) ((downL t.1 t.2 y (downL s.1 s.2 x bad).2.2).1,(downL t.1 t.2 y (downL s.1 s.2 x bad).2.2).2.1) (downL t.1 t.2 y (downL s.1 s.2 x bad).2.2).2.2
def cntBad (a b : ExpD) : Bool:=(false || decide (x64 (a.count + b.count) < a.count)) || decide (x64 (a.zero + b.zero) < a.zero)
def addP (a b : ExpD) (x y : Nat) : Int × List Int × Bool:=oneSide (sdP a) (sdP b) x y (cntBad a b)
def addNn (a b : ExpD) (x y : Nat) : Int × List Int × Bool:=oneSide (sdN a) (sdN b) x y (addP a b x y).2.2
def addBad (a b : ExpD) (x y : Nat) : Bool:=(addNn a b x y).2.2 || (bigS (addP a b x y).1 (addP a b x y).2.1 || bigS (addNn a b x y).1 (addNn a b x y).2.1)
def addE (a b : ExpD) (x y : Nat) (s z : Int) : ExpD :=
 ({ b with start:=a.start,scale:=w32 s,count:=x64 (a.count + b.count),zero:=x64 (a.zero + b.zero),sumH:=a.sumH && b.sumH,sum:=z,minH:=a.minH && b.minH,min:=bif a.minH && b.minH then minV a.min b.min else 0,maxH:=a.maxH && b.maxH,max:=bif a.maxH && b.maxH then maxV a.max b.max else 0,hasP:=a.hasP || b.hasP,hasN:=a.hasN || b.hasN }).lay
  (trim (addP a b x y).1 (addP a b x y).2.1) (trim (addNn a b x y).1 (addNn a b x y).2.1)
theorem downL_near {f : Int} {l : List Int} {n : Nat} {bad : Bool} (h1 : -8589934592 ≤ f ∧ f ≤ 8589934592) (h2 : l.length ≤ 3750) :
  -8589938342 ≤ (downL f l n bad).1 ∧ (downL f l n bad).1 ≤ 8589938342 ∧ (downL f l n bad).2.1.length ≤ 3750:=by
 have hlen:=Nat.le_trans (downL_len f l n bad) h2
 unfold downL at hlen ⊢
 rcases trim_spec l f (by omega) (by omega) with ⟨h,_⟩ | ⟨k,m,c,h,hc,_,_,hll⟩
 ·rw [h]; exact ⟨by simp,by simp,by simp⟩
 rw [h] at hlen ⊢
 have:=congrArg List.length hll
 simp only [List.length_append,List.length_replicate] at this
 cases c with
 | nil=>exact absurd rfl hc
 | cons a r =>
  have lo:=shr_bound (a:=f + k) n (m:=8589938342) (by omega) (by omega) (by omega)
  exact ⟨lo.1,lo.2,hlen⟩
theorem addN_near {f g : Int} {l m : List Int} (h1 : -8589938342 ≤ f ∧ f ≤ 8589938342 ∧ l.length ≤ 3750) (h2 : -8589938342 ≤ g ∧ g ≤ 8589938342 ∧ m.length ≤ 3750) : Near f l ∧ Near g m ∧ addN f l g m ≤ 68719476736:=by
 refine ⟨⟨by omega,by omega,by omega⟩,⟨by omega,by omega,by omega⟩,?_⟩
 unfold addN hi2 lo2
 split <;> split <;> omega
theorem addN_len {s t : Int × List Int} {bad : Bool} (h1 : -8589938342 ≤ s.1 ∧ s.1 ≤ 8589938342 ∧ s.2.length ≤ 3750) (h2 : -8589938342 ≤ t.1 ∧ t.1 ≤ 8589938342 ∧ t.2.length ≤ 3750) : (addL s t bad).2.1.length ≤ 68719476736:=by
 obtain ⟨f,l⟩:=s
 obtain ⟨g,m⟩:=t
 have:=(addN_near h1 h2).2.2
 unfold addL
 cases l with
 | nil=>simp only at *; omega
 | cons a r =>
  cases m with
  | nil=>simp only at *; omega
  | cons b q=>simp only [addGo_len,List.length_replicate]; simp only at this; omega
theorem sd_near {f : Int} {l : List Int} {h : Bool} (h1 : -2147483648 ≤ f ∧ f < 2147483648) (h2 : l.length ≤ 3750) :
  -8589934592 ≤ (trim (bif h then w64 f else 0) (bif h then l else [])).1 ∧ (trim (bif h then w64 f else 0) (bif h then l else [])).1 ≤ 8589934592 ∧ (trim (bif h then w64 f else 0) (bif h then l else [])).2.length ≤ 3750:=by
 have ho:=bifoff h h1
 have hl:=Nat.le_trans (side_len h l) h2
 have:=trim_len (bif h then w64 f else 0) (bif h then l else [])
 rcases trim_spec (bif h then l else []) (bif h then w64 f else 0) (by omega) (by omega) with ⟨e,_⟩ | ⟨k,m,c,e,hc,_,_,hll⟩
 ·rw [e]; exact ⟨by simp,by simp,by simp⟩
 rw [e] at this ⊢
 have h3:=congrArg List.length hll
 simp only [List.length_append,List.length_replicate] at h3
 exact ⟨by simp only; omega,by simp only; omega,by simp only at *; omega⟩
end Sx
namespace Sx
open Go Go.Proofs
set_option maxRecDepth 30000
def S (l : List Int) : Int:=l.sum
theorem S_nil : S [] = 0:=rfl
theorem S_cons (a : Int) (l : List Int) : S (a :: l) = a + S l:=by simp [S]
theorem S_rtrim : ∀ l : List Int,S (rtrim l) = S l
 | []=>rfl
 | a :: l=>by
  have ih:=S_rtrim l
  rw [rtrim,S_cons]
  split
  ·rename_i h
   rw [h] at ih
   split
   ·rename_i h0; rw [S_nil] at *; omega
   rw [S_cons]; omega
  rw [S_cons]; omega
theorem S_ltrim : ∀ (l : List Int) (f : Int),S (ltrim f l).2 = S l
 | [],_=>rfl
 | a :: l,f=>by
  rw [ltrim]
  split
  ·rename_i h; rw [S_ltrim l,S_cons,h]; simp
  rfl
theorem S_trim (f : Int) (l : List Int) : S (trim f l).2 = S l:=by unfold trim; rw [S_ltrim,S_rtrim]
theorem S_set : ∀ (c : List Int) (p : Nat) (x : Int),p < c.length → S (c.set p (c.getD p 0 + x)) = S c + x
 | [],p,x,h=>by simp at h
 | a :: c,0,x,h=>by simp [S_cons]; omega
 | a :: c,p + 1,x,h=>by
  have:=S_set c p x (by simpa using h)
  simp only [List.set_cons_succ,S_cons,List.getD_cons_succ] at *
  omega
theorem S_zero (n : Nat) : S (List.replicate n 0) = 0:=by
 induction n with
 | zero=>rfl
 | succ n ih=>rw [List.replicate_succ,S_cons,ih]; rfl
theorem getD_r {c : List Int} (h : R64 c) (p : Nat) : 0 ≤ c.getD p 0 ∧ c.getD p 0 < 18446744073709551616:=by
 by_cases hp : p < c.length
 ·exact h _ (getD_mem (a:=0) hp)
 rw [List.getD_eq_getElem?_getD,List.getElem?_eq_none (by omega)]; decide
theorem no_wrap {a x : Int} (ha : 0 ≤ a ∧ a < 18446744073709551616) (hx : 0 ≤ x ∧ x < 18446744073709551616) (h : decide (x64 (a + x) < a) = false) : x64 (a + x) = a + x:=by
 have h:=of_decide_eq_false h
 have e : x64 (a + x) = (a + x) % 18446744073709551616:=by
  show IntKind.u64.wrap (a + x) = _
  rw [IntKind.wrap_u64]
 rw [e] at h ⊢
 omega
theorem set_r {c : List Int} (h : R64 c) (p : Nat) (x : Int) : R64 (c.set p (x64 x)):=fun y hy=>by
 rcases List.mem_or_eq_of_mem_set hy with hy | rfl
 ·exact h y hy
 exact x64_r _
theorem downGo_bad (f : Int) (n : Nat) : ∀ (l : List Int) (i : Nat) (c : List Int),(downGo f n i l c true).2 = true
 | [],_,_=>rfl
 | a :: l,i,c=>by rw [downGo,Bool.true_or]; exact downGo_bad f n l _ _
theorem S_downGo (f : Int) (n : Nat) : ∀ (l : List Int) (i : Nat) (c : List Int) (bad : Bool),R64 l → R64 c → (∀ j,j < l.length → place f n (i + j) < c.length) → (downGo f n i l c bad).2 = false → S (downGo f n i l c bad).1 = S c + S l
 | [],i,c,bad,_,_,_,_=>by rw [downGo,S_nil]; simp
 | x :: l,i,c,bad,hl,hc,hp,h=>by
  rw [downGo] at h ⊢
  have hx:=hl x List.mem_cons_self
  have hp0:=hp 0 (by simp)
  rw [Nat.add_zero] at hp0
  cases hb : (bad || decide (x64 (c.getD (place f n i) 0 + x) < c.getD (place f n i) 0)) with
  | true=>rw [hb,downGo_bad] at h; cases h
  | false =>
   rw [hb] at h
   have hb:=(Bool.or_eq_false_iff.1 hb).2
   have hw:=no_wrap (getD_r hc _) hx hb
   rw [S_downGo f n l (i + 1) _ false (fun y hy=>hl y (List.mem_cons_of_mem _ hy)) (set_r hc _ _) (fun j hj=>by
    have:=hp (j + 1) (by simp; omega)
    simp only [List.length_set]
    rwa [show i + 1 + j = i + (j + 1) from by omega]) h,hw,S_set _ _ _ hp0,S_cons]
   omega
theorem place_lt {f : Int} {a : Int} {r : List Int} {n j : Nat} (hj : j < (a :: r).length) : place f n j < (wideS f (a :: r) n).toNat:=by
 have h1:=shr_mono (a:=f) (b:=f + j) n (by omega)
 have h2:=shr_mono (a:=f + j) (b:=f + (a :: r).length - 1) n (by omega)
 unfold place wideS
 omega
theorem rep_r (n : Nat) : R64 (List.replicate n 0):=fun x hx=>by rw [(List.mem_replicate.1 hx).2]; decide
theorem S_downL {f : Int} {l : List Int} {n : Nat} {bad : Bool} (hl : R64 l) (h : (downL f l n bad).2.2 = false) : S (downL f l n bad).2.1 = S l:=by
 have ht:=S_trim f l
 have hr : R64 (trim f l).2:=fun x hx=>hl x (trim_mem hx)
 unfold downL at h ⊢
 generalize trim f l = t at *
 obtain ⟨g,c⟩:=t
 cases c with
 | nil=>exact ht
 | cons a r =>
  simp only at h ht hr ⊢
  rw [S_downGo g n (a :: r) 0 _ bad hr (rep_r _) (fun j hj=>by rw [List.length_replicate,Nat.zero_add]; exact place_lt hj) h,S_zero,ht]
  simp
theorem downL_bad {f : Int} {l : List Int} {n : Nat} {bad : Bool} (h : (downL f l n bad).2.2 = false) : bad = false:=by
 cases bad with
 | false=>rfl
 | true =>
  unfold downL at h
  split at h
  ·exact h
  rw [downGo_bad] at h; cases h
theorem addGo_bad (o : Nat) : ∀ (l : List Int) (i : Nat) (c : List Int),(addGo o i l c true).2 = true
 | [],_,_=>rfl
 | a :: l,i,c=>by rw [addGo,Bool.true_or]; exact addGo_bad o l _ _
theorem addGo_r (o : Nat) : ∀ (l : List Int) (i : Nat) (c : List Int) (bad : Bool),R64 c → R64 (addGo o i l c bad).1
 | [],_,_,_,h=>h
 | x :: l,i,c,bad,h=>by rw [addGo]; exact addGo_r o l _ _ _ (set_r h _ _)
theorem S_addGo (o : Nat) : ∀ (l : List Int) (i : Nat) (c : List Int) (bad : Bool),R64 l → R64 c → o + i + l.length ≤ c.length → (addGo o i l c bad).2 = false → S (addGo o i l c bad).1 = S c + S l
 | [],i,c,bad,_,_,_,_=>by rw [addGo,S_nil]; simp
 | x :: l,i,c,bad,hl,hc,hp,h=>by
  rw [addGo] at h ⊢
  have hx:=hl x List.mem_cons_self
  simp only [List.length_cons] at hp
  cases hb : (bad || decide (x64 (c.getD (o + i) 0 + x) < c.getD (o + i) 0)) with
  | true=>rw [hb,addGo_bad] at h; cases h
  | false =>
   rw [hb] at h
   have hb:=(Bool.or_eq_false_iff.1 hb).2
   have hw:=no_wrap (getD_r hc _) hx hb
   rw [S_addGo o l (i + 1) _ false (fun y hy=>hl y (List.mem_cons_of_mem _ hy)) (set_r hc _ _) (by simp only [List.length_set]; omega) h,hw,S_set _ _ _ (by omega),S_cons]
   omega
theorem addL_bad {s t : Int × List Int} {bad : Bool} (h : (addL s t bad).2.2 = false) : bad = false:=by
 cases bad with
 | false=>rfl
 | true =>
  unfold addL at h
  split at h
  ·exact h
  ·exact h
  simp only [addGo_bad] at h; cases h
theorem addL_r {s t : Int × List Int} {bad : Bool} (h1 : R64 s.2) (h2 : R64 t.2) : R64 (addL s t bad).2.1:=by
 unfold addL
 split
 ·exact h2
 ·exact h1
 exact addGo_r _ _ _ _ _ (addGo_r _ _ _ _ _ (rep_r _))
theorem S_addL {s t : Int × List Int} {bad : Bool} (h1 : R64 s.2) (h2 : R64 t.2) (h : (addL s t bad).2.2 = false) : S (addL s t bad).2.1 = S s.2 + S t.2:=by
 obtain ⟨f,l⟩:=s
 obtain ⟨g,m⟩:=t
 unfold addL at h ⊢
 cases l with
 | nil=>simp [S_nil]
 | cons a r =>
  cases m with
  | nil=>simp [S_nil]
  | cons b q =>
   simp only at h h1 h2 ⊢
   cases hb : (addGo (f - lo2 f g).toNat 0 (a :: r) (List.replicate (addN f (a :: r) g (b :: q)).toNat 0) bad).2 with
   | true=>rw [hb,addGo_bad] at h; cases h
   | false =>
    rw [hb] at h
    have hlo : lo2 f g ≤ f ∧ lo2 f g ≤ g:=by unfold lo2; split <;> omega
    have hhi : f + ((a :: r).length : Nat) ≤ hi2 (f + ((a :: r).length : Nat)) (g + ((b :: q).length : Nat)) ∧ g + ((b :: q).length : Nat) ≤ hi2 (f + ((a :: r).length : Nat)) (g + ((b :: q).length : Nat)):=by unfold hi2; split <;> omega
    have e1:=S_addGo (f - lo2 f g).toNat (a :: r) 0 _ bad h1 (rep_r (addN f (a :: r) g (b :: q)).toNat) (by rw [List.length_replicate]; unfold addN; omega) hb
    rw [S_zero] at e1
    rw [S_addGo _ _ 0 _ _ h2 (addGo_r _ _ _ _ _ (rep_r _)) (by rw [addGo_len,List.length_replicate]; unfold addN; omega) h,e1]
    omega
theorem lay_fitted {e : ExpD} {most : Int} {p n : Int × List Int} (m1 : 1 ≤ most) (m2 : most ≤ 320) (lP : (p.2.length : Int) ≤ most) (lN : (n.2.length : Int) ≤ most)
  (rP : R64 p.2) (rN : R64 n.2) (oP : -2147483648 ≤ p.1 ∧ p.1 ≤ 8589938342) (oN : -2147483648 ≤ n.1 ∧ n.1 ≤ 8589938342) (bP : bigS p.1 p.2 = false) (bN : bigS n.1 n.2 = false)
  (hs : -2147483648 ≤ e.scale ∧ e.scale < 2147483648) (hP : e.hasP = false → p.2 = []) (hN : e.hasN = false → n.2 = []) : Fitted (e.lay (trim p.1 p.2) (trim n.1 n.2)) most:=by
 have main : ∀ {t : Int × List Int},-2147483648 ≤ t.1 ∧ t.1 ≤ 8589938342 → (t.2.length : Int) ≤ most → bigS t.1 t.2 = false → R64 t.2 →
   (-2147483648 ≤ (trim t.1 t.2).1 ∧ (trim t.1 t.2).1 < 2147483648) ∧ Tight (trim t.1 t.2) ∧ R64 (trim t.1 t.2).2 ∧ (((trim t.1 t.2).2.length : Nat) : Int) ≤ most:=by
  intro t h1 h2 h3 h4
  have hl:=trim_len t.1 t.2
  have h3 : ¬ (trim t.1 t.2).1 > 2147483647:=of_decide_eq_false h3
  refine ⟨⟨?_,by omega⟩,trim_tight (by omega) (by omega),fun x hx=>h4 x (trim_mem hx),by omega⟩
  rcases trim_spec t.2 t.1 (by omega) (by omega) with ⟨h,_⟩ | ⟨k,m,c,h,_⟩
  ·rw [h]; decide
  rw [h]; simp only; omega
 obtain ⟨p1,p2,p3,p4⟩:=main oP lP bP rP
 obtain ⟨q1,q2,q3,q4⟩:=main oN lN bN rN
 refine ⟨m1,m2,p4,q4,?_,?_,p3,q3,?_,?_,hs,rfl,rfl,?_,?_⟩
 ·show Tight (w32 _,_); rw [w32_eq p1]; exact p2
 ·show Tight (w32 _,_); rw [w32_eq q1]; exact q2
 ·show -2147483648 ≤ w32 _ ∧ w32 _ < 2147483648; rw [w32_eq p1]; exact p1
 ·show -2147483648 ≤ w32 _ ∧ w32 _ < 2147483648; rw [w32_eq q1]; exact q1
 ·intro h
  show w32 (trim p.1 p.2).1 = 0 ∧ (trim p.1 p.2).2 = []
  rw [hP h]; exact ⟨rfl,rfl⟩
 intro h
 show w32 (trim n.1 n.2).1 = 0 ∧ (trim n.1 n.2).2 = []
 rw [hN h]; exact ⟨rfl,rfl⟩
end Sx
