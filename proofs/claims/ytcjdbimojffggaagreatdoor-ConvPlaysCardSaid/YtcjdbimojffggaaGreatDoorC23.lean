/- Part of the proof: a machine of states for walks, and contracts of functions over it. Conditions: those that each theorem names. -/
import Derived.Test.YtcjdbimojffggaaGreatDoorC22
set_option linter.unusedVariables false
set_option linter.unusedSimpArgs false
namespace Sx
open Go Go.Proofs
open Sx.Pf (hygref6_Add.j2 hygref6_Add.j3 hygref6_parts.f hygref6_round.f hygref6_neg.f)
open Go.Proofs.SxPu (cls qt sz sg addV subV ng finV sumV)
set_option maxRecDepth 30000
variable {G : Glob}
def addTP (P : Int → Int → Prop) : List U → Out SV
 | [.c (.v (.int .u64 a)),.c (.v (.int .u64 b))]=>.need (UU a ∧ UU b ∧ P a b) (one (U64 (addV a b)))
 | _=>.fail
def P0 (a b : Int) : Prop:=¬ (cls a < 3 ∧ cls b < 3) ∨ (sz a = 0 ∧ sz b = 0)
def P1 (a b : Int) : Prop:=(cls a < 3 ∧ cls b < 3) ∧ sz a < sz b
def P2 (a b : Int) : Prop:=(cls a < 3 ∧ cls b < 3) ∧ sz b ≤ sz a ∧ 0 < sz a
theorem Ok.byCases3 {f : FuncId} {g g0 g1 g2 : List U → Out SV} (h0 : Ok G f g0) (h1 : Ok G f g1) (h2 : Ok G f g2) (hm : ∀ us K,(g us).wp K → (g0 us).wp K ∨ (g1 us).wp K ∨ (g2 us).wp K) : Ok G f g:=⟨h0.1,fun K us X w vals hk=>by
 rcases hm us K hk with h | h | h
 ·exact h0.2 K us X w vals h
 ·exact h1.2 K us X w vals h
 exact h2.2 K us X w vals h⟩
theorem addS_all {G : Glob} : AllSound (B [(91,.pure (normG (B []) [31] classT)),(92,.pure (normG (B []) [31] quietT)),(93,.pure (normG (B []) [31] rsizeT)),(94,.pure (normG (B []) [31] partsT)),(95,.pure (normG (B []) [31] rnegT)),(96,.pure (normG (B []) [4,31,3] rroundT))]) G :=
 .cons _ rclass_ex (.cons _ rquiet_ex (.cons _ rsize_ex (.cons _ parts_ex (.cons _ rneg_ex (.cons _ rround_ex noneS)))))
theorem radd_ex0 : Ok G 59 (addTP P0):=by
 refine okP addS_all Tryz.func59 rfl (by decide) fun K us hk=>?_
 unfold addTP at hk
 split at hk
 ·rename_i a b
  refine ⟨by show 2 ≤ _; decide,?_⟩
  obtain ⟨⟨ua,ub,hP⟩,hk⟩:=hk
  unfold P0 at hP
  have key : ∀ z,addV a b = z → K (.u (.c (U64 z))):=fun z h=>fin hk (congrArg (fun z : Int=>SV.u (.c (U64 z))) h)
  have av : addV a b = if cls a = 4 then qt a else if cls b = 4 then qt b else if cls a = 3 then (if cls b = 3 then (if a = b then a else 9221120237041090560) else a) else if cls b = 3 then b else finV a b:=rfl
  have ra:=Go.Proofs.SxPu.cls_range a
  have rb:=Go.Proofs.SxPu.cls_range b
  conv=>whnf
  refine ⟨ua,?_⟩;conv=>whnf
  refine Ask.i (fun q8=>?_) (fun q8=>?_)
  ·have q8 : cls a = 4:=eq_of_beq q8
   conv=>whnf
   exact key _ (by rw [av]; (repeat' split) <;> first | rfl | (exfalso; omega))
  have q8 : ¬ cls a = 4:=ne_of_beq_false q8
  conv=>whnf
  refine ⟨ub,?_⟩;conv=>whnf
  refine Ask.i (fun q9=>?_) (fun q9=>?_)
  ·have q9 : cls b = 4:=eq_of_beq q9
   conv=>whnf
   exact key _ (by rw [av]; (repeat' split) <;> first | rfl | (exfalso; omega))
  have q9 : ¬ cls b = 4:=ne_of_beq_false q9
  conv=>whnf
  refine ⟨ua,?_⟩;conv=>whnf
  refine Ask.i (fun q1=>?_) (fun q1=>?_)
  ·have q1 : cls a = 3:=eq_of_beq q1
   conv=>whnf
   refine ⟨ub,?_⟩;conv=>whnf
   refine Ask.i (fun q2=>?_) (fun q2=>?_)
   ·have q2 : cls b = 3:=eq_of_beq q2
    conv=>whnf
    refine Ask.i (fun q3=>?_) (fun q3=>?_)
    ·have q3 : a ≠ b:=bne_iff_ne.1 q3
     conv=>whnf
     exact key _ (by rw [av]; (repeat' split) <;> first | rfl | (exfalso; omega))
    have q3 : a = b:=of_bne_false q3
    conv=>whnf
    refine ⟨ua,?_⟩;conv=>whnf
    refine Ask.i (fun q4=>?_) (fun q4=>?_)
    ·have q4 : cls a = 3:=eq_of_beq q4
     conv=>whnf
     exact key _ (by rw [av]; (repeat' split) <;> first | rfl | (exfalso; omega))
    have q4 : ¬ cls a = 3:=ne_of_beq_false q4
    conv=>whnf
    refine ⟨ub,?_⟩;conv=>whnf
    refine Ask.i (fun q5=>?_) (fun q5=>?_)
    ·have q5 : cls b = 3:=eq_of_beq q5
     conv=>whnf
     exact key _ (by rw [av]; (repeat' split) <;> first | rfl | (exfalso; omega))
    have q5 : ¬ cls b = 3:=ne_of_beq_false q5
    conv=>whnf
    refine ⟨ua,?_⟩;conv=>whnf
    refine Ask.i (fun q6=>?_) (fun q6=>?_)
    ·have q6 : ((sz a : Nat) : Int) = 0:=eq_of_beq q6
     conv=>whnf
     refine ⟨ub,?_⟩;conv=>whnf
     refine Ask.i (fun q7=>?_) (fun q7=>?_)
     ·have q7 : ((sz b : Nat) : Int) = 0:=eq_of_beq q7
      have q6 : sz a = 0:=Int.ofNat.inj q6
      have q7 : sz b = 0:=Int.ofNat.inj q7
      conv=>whnf
      exact key _ (by rw [av,if_neg (by omega),if_neg (by omega),if_neg (by omega),if_neg (by omega),Go.Proofs.SxPu.finV_zero ua ub q6 q7]; rfl)
     have q7 : ¬ ((sz b : Nat) : Int) = 0:=ne_of_beq_false q7
     have q6 : sz a = 0:=Int.ofNat.inj q6
     have q7 : ¬ sz b = 0:=fun h=>q7 (by rw [h]; rfl)
     exfalso; omega
    have q6 : ¬ ((sz a : Nat) : Int) = 0:=ne_of_beq_false q6
    have q6 : ¬ sz a = 0:=fun h=>q6 (by rw [h]; rfl)
    exfalso; omega
   have q2 : ¬ cls b = 3:=ne_of_beq_false q2
   conv=>whnf
   refine ⟨ua,?_⟩;conv=>whnf
   refine Ask.i (fun q4=>?_) (fun q4=>?_)
   ·have q4 : cls a = 3:=eq_of_beq q4
    conv=>whnf
    exact key _ (by rw [av]; (repeat' split) <;> first | rfl | (exfalso; omega))
   have q4 : ¬ cls a = 3:=ne_of_beq_false q4
   conv=>whnf
   refine ⟨ub,?_⟩;conv=>whnf
   refine Ask.i (fun q5=>?_) (fun q5=>?_)
   ·have q5 : cls b = 3:=eq_of_beq q5
    conv=>whnf
    exact key _ (by rw [av]; (repeat' split) <;> first | rfl | (exfalso; omega))
   have q5 : ¬ cls b = 3:=ne_of_beq_false q5
   conv=>whnf
   refine ⟨ua,?_⟩;conv=>whnf
   refine Ask.i (fun q6=>?_) (fun q6=>?_)
   ·have q6 : ((sz a : Nat) : Int) = 0:=eq_of_beq q6
    conv=>whnf
    refine ⟨ub,?_⟩;conv=>whnf
    refine Ask.i (fun q7=>?_) (fun q7=>?_)
    ·have q7 : ((sz b : Nat) : Int) = 0:=eq_of_beq q7
     have q6 : sz a = 0:=Int.ofNat.inj q6
     have q7 : sz b = 0:=Int.ofNat.inj q7
     conv=>whnf
     exact key _ (by rw [av,if_neg (by omega),if_neg (by omega),if_neg (by omega),if_neg (by omega),Go.Proofs.SxPu.finV_zero ua ub q6 q7]; rfl)
    have q7 : ¬ ((sz b : Nat) : Int) = 0:=ne_of_beq_false q7
    have q6 : sz a = 0:=Int.ofNat.inj q6
    have q7 : ¬ sz b = 0:=fun h=>q7 (by rw [h]; rfl)
    exfalso; omega
   have q6 : ¬ ((sz a : Nat) : Int) = 0:=ne_of_beq_false q6
   have q6 : ¬ sz a = 0:=fun h=>q6 (by rw [h]; rfl)
   exfalso; omega
  have q1 : ¬ cls a = 3:=ne_of_beq_false q1
  conv=>whnf
  refine ⟨ua,?_⟩;conv=>whnf
  refine Ask.i (fun q4=>?_) (fun q4=>?_)
  ·have q4 : cls a = 3:=eq_of_beq q4
   conv=>whnf
   exact key _ (by rw [av]; (repeat' split) <;> first | rfl | (exfalso; omega))
  have q4 : ¬ cls a = 3:=ne_of_beq_false q4
  conv=>whnf
  refine ⟨ub,?_⟩;conv=>whnf
  refine Ask.i (fun q5=>?_) (fun q5=>?_)
  ·have q5 : cls b = 3:=eq_of_beq q5
   conv=>whnf
   exact key _ (by rw [av]; (repeat' split) <;> first | rfl | (exfalso; omega))
  have q5 : ¬ cls b = 3:=ne_of_beq_false q5
  conv=>whnf
  refine ⟨ua,?_⟩;conv=>whnf
  refine Ask.i (fun q6=>?_) (fun q6=>?_)
  ·have q6 : ((sz a : Nat) : Int) = 0:=eq_of_beq q6
   conv=>whnf
   refine ⟨ub,?_⟩;conv=>whnf
   refine Ask.i (fun q7=>?_) (fun q7=>?_)
   ·have q7 : ((sz b : Nat) : Int) = 0:=eq_of_beq q7
    have q6 : sz a = 0:=Int.ofNat.inj q6
    have q7 : sz b = 0:=Int.ofNat.inj q7
    conv=>whnf
    exact key _ (by rw [av,if_neg (by omega),if_neg (by omega),if_neg (by omega),if_neg (by omega),Go.Proofs.SxPu.finV_zero ua ub q6 q7]; rfl)
   have q7 : ¬ ((sz b : Nat) : Int) = 0:=ne_of_beq_false q7
   have q6 : sz a = 0:=Int.ofNat.inj q6
   have q7 : ¬ sz b = 0:=fun h=>q7 (by rw [h]; rfl)
   exfalso; omega
  have q6 : ¬ ((sz a : Nat) : Int) = 0:=ne_of_beq_false q6
  have q6 : ¬ sz a = 0:=fun h=>q6 (by rw [h]; rfl)
  exfalso; omega
 exact hk.elim
theorem radd_ex1 : Ok G 59 (addTP P1):=by
 refine okP addS_all Tryz.func59 rfl (by decide) fun K us hk=>?_
 unfold addTP at hk
 split at hk
 ·rename_i a b
  refine ⟨by show 2 ≤ _; decide,?_⟩
  obtain ⟨⟨ua,ub,hP⟩,hk⟩:=hk
  unfold P1 at hP
  have key : ∀ z,addV a b = z → K (.u (.c (U64 z))):=fun z h=>fin hk (congrArg (fun z : Int=>SV.u (.c (U64 z))) h)
  have av : addV a b = if cls a = 4 then qt a else if cls b = 4 then qt b else if cls a = 3 then (if cls b = 3 then (if a = b then a else 9221120237041090560) else a) else if cls b = 3 then b else finV a b:=rfl
  have ra:=Go.Proofs.SxPu.cls_range a
  have rb:=Go.Proofs.SxPu.cls_range b
  conv=>whnf
  refine ⟨ua,?_⟩;conv=>whnf
  refine Ask.i (fun q8=>?_) (fun q8=>?_)
  ·have q8 : cls a = 4:=eq_of_beq q8
   exfalso; omega
  have q8 : ¬ cls a = 4:=ne_of_beq_false q8
  conv=>whnf
  refine ⟨ub,?_⟩;conv=>whnf
  refine Ask.i (fun q9=>?_) (fun q9=>?_)
  ·have q9 : cls b = 4:=eq_of_beq q9
   exfalso; omega
  have q9 : ¬ cls b = 4:=ne_of_beq_false q9
  conv=>whnf
  refine ⟨ua,?_⟩;conv=>whnf
  refine Ask.i (fun q1=>?_) (fun q1=>?_)
  ·have q1 : cls a = 3:=eq_of_beq q1
   exfalso; omega
  have q1 : ¬ cls a = 3:=ne_of_beq_false q1
  conv=>whnf
  refine ⟨ua,?_⟩;conv=>whnf
  refine Ask.i (fun q4=>?_) (fun q4=>?_)
  ·have q4 : cls a = 3:=eq_of_beq q4
   exfalso; omega
  have q4 : ¬ cls a = 3:=ne_of_beq_false q4
  conv=>whnf
  refine ⟨ub,?_⟩;conv=>whnf
  refine Ask.i (fun q5=>?_) (fun q5=>?_)
  ·have q5 : cls b = 3:=eq_of_beq q5
   exfalso; omega
  have q5 : ¬ cls b = 3:=ne_of_beq_false q5
  conv=>whnf
  refine ⟨ua,?_⟩;conv=>whnf
  refine Ask.i (fun q6=>?_) (fun q6=>?_)
  ·have q6 : ((sz a : Nat) : Int) = 0:=eq_of_beq q6
   conv=>whnf
   refine ⟨ub,?_⟩;conv=>whnf
   refine Ask.i (fun q7=>?_) (fun q7=>?_)
   ·have q7 : ((sz b : Nat) : Int) = 0:=eq_of_beq q7
    have q6 : sz a = 0:=Int.ofNat.inj q6
    have q7 : sz b = 0:=Int.ofNat.inj q7
    exfalso; omega
   have q7 : ¬ ((sz b : Nat) : Int) = 0:=ne_of_beq_false q7
   have q6 : sz a = 0:=Int.ofNat.inj q6
   have q7 : ¬ sz b = 0:=fun h=>q7 (by rw [h]; rfl)
   have av2 : addV a b = sumV b a:=by rw [av,if_neg (by omega),if_neg (by omega),if_neg (by omega),if_neg (by omega)]; unfold finV; rw [if_pos (by omega)]
   have hr:=Go.Proofs.SxPu.radd_j2 (k:=197 + 1) (x:=b) (y:=a) ub ua (by decide) (by have:=Go.Proofs.SxPu.cls_fin ub (by omega); exact this) (by omega) (by omega)
   generalize sumV b a = R at av2 hr
   have key2 : ∀ z,z = R → K (.u (.c (U64 z))):=fun z h=>key z (av2.trans h.symm)
   clear key hk av av2
   rw [hygref6_Add.j2] at hr
   obtain ⟨v1,h1,hr⟩:=Option.bind_eq_some_iff.1 hr
   obtain ⟨v2,h2,hr⟩:=Option.bind_eq_some_iff.1 hr
   simp only [hygref6_Add.j3,Go.Proofs.SxPu.rneg_f ub,Go.Proofs.SxPu.rneg_f ua,Option.bind_some,rw64,bits_or,bits_and] at hr
   conv=>whnf
   refine ⟨ua,?_⟩;conv=>whnf
   refine ⟨ub,?_⟩;conv=>whnf
   refine Ask.i (fun s0=>?_) (fun s0=>?_)
   ·replace s0 : ((sz a : Nat) : Int) < ((sz b : Nat) : Int):=of_decide_eq_true s0
    conv=>whnf
    refine ⟨by rw [h1]; rfl,?_⟩;conv=>whnf
    intro p1 e1
    obtain rfl:=optG_eq h1 e1
    conv=>whnf
    refine ⟨by rw [h2]; rfl,?_⟩;conv=>whnf
    intro p2 e2
    obtain rfl:=optG_eq h2 e2
    conv=>whnf
    refine ⟨by decide,?_⟩;conv=>whnf
    refine ⟨by decide,?_⟩;conv=>whnf
    generalize hm : IntKind.u64.wrap (p1.1 * 2 ^ min (Int.toNat 10) IntKind.u64.bits) = mm
    generalize hn : IntKind.u64.wrap (p2.1 * 2 ^ min (Int.toNat 10) IntKind.u64.bits) = nn
    generalize he : IntKind.i64.wrap (p1.2 - 10) = ee
    generalize hf : IntKind.i64.wrap (p2.2 - 10) = ff
    generalize hd : IntKind.i64.wrap (ee - ff) = dd
    rw [show IntKind.u64.wrap (p1.1 * 1024) = mm from hm,show IntKind.u64.wrap (p2.1 * 1024) = nn from hn,show w64 (p1.2 - 10) = ee from he,show w64 (p2.2 - 10) = ff from hf,show w64 (ee - ff) = dd from hd] at hr
    clear hm hn he hf hd h1 h2 e1 e2
    refine Ask.i (fun t0=>?_) (fun t0=>?_)
    ·replace t0 : dd > 0:=of_decide_eq_true t0
     replace hr:=itp hr t0
     conv=>whnf
     refine Ask.i (fun t1=>?_) (fun t1=>?_)
     ·replace t1 : dd > 63:=of_decide_eq_true t1
      replace hr:=itp hr t1
      conv=>whnf
      refine Ask.i (fun t2=>?_) (fun t2=>?_)
      ·replace t2 : nn > 0:=of_decide_eq_true t2
       replace hr:=itp hr t2
       conv=>whnf
       refine ⟨ub,?_⟩;conv=>whnf
       refine ⟨ua,?_⟩;conv=>whnf
       refine Ask.i (fun s1=>?_) (fun s1=>?_)
       ·have s1 : decide (9223372036854775808 ≤ b) = decide (9223372036854775808 ≤ a):=eq_of_beq s1
        replace hr:=itp hr (beq_iff_eq.2 s1)
        conv=>whnf
        refine ⟨ub,?_⟩;conv=>whnf
        obtain ⟨v5,h5,hr⟩:=Option.bind_eq_some_iff.1 hr
        refine ⟨Option.isSome_iff_exists.2 ⟨_,h5⟩,?_⟩;conv=>whnf
        intro p5 e5
        obtain rfl:=optG_eq h5 e5
        conv=>whnf
        exact key2 _ (Option.some.inj hr)
       have s1 : ¬ decide (9223372036854775808 ≤ b) = decide (9223372036854775808 ≤ a):=ne_of_beq_false s1
       replace hr:=itn hr (fun h=>s1 (eq_of_beq h))
       conv=>whnf
       refine Ask.i (fun s2=>?_) (fun s2=>?_)
       ·replace s2:=eq_of_beq s2
        replace hr:=itp hr s2
        conv=>whnf
        exact key2 _ (Option.some.inj hr)
       replace s2:=ne_of_beq_false s2
       replace hr:=itn hr s2
       conv=>whnf
       refine ⟨ub,?_⟩;conv=>whnf
       obtain ⟨v5,h5,hr⟩:=Option.bind_eq_some_iff.1 hr
       refine ⟨Option.isSome_iff_exists.2 ⟨_,h5⟩,?_⟩;conv=>whnf
       intro p5 e5
       obtain rfl:=optG_eq h5 e5
       conv=>whnf
       exact key2 _ (Option.some.inj hr)
      replace t2 : ¬ nn > 0:=of_decide_eq_false t2
      replace hr:=itn hr t2
      conv=>whnf
      refine ⟨ub,?_⟩;conv=>whnf
      refine ⟨ua,?_⟩;conv=>whnf
      refine Ask.i (fun s1=>?_) (fun s1=>?_)
      ·have s1 : decide (9223372036854775808 ≤ b) = decide (9223372036854775808 ≤ a):=eq_of_beq s1
       replace hr:=itp hr (beq_iff_eq.2 s1)
       conv=>whnf
       refine ⟨ub,?_⟩;conv=>whnf
       obtain ⟨v5,h5,hr⟩:=Option.bind_eq_some_iff.1 hr
       refine ⟨Option.isSome_iff_exists.2 ⟨_,h5⟩,?_⟩;conv=>whnf
       intro p5 e5
       obtain rfl:=optG_eq h5 e5
       conv=>whnf
       exact key2 _ (Option.some.inj hr)
      have s1 : ¬ decide (9223372036854775808 ≤ b) = decide (9223372036854775808 ≤ a):=ne_of_beq_false s1
      replace hr:=itn hr (fun h=>s1 (eq_of_beq h))
      conv=>whnf
      refine Ask.i (fun s2=>?_) (fun s2=>?_)
      ·replace s2:=eq_of_beq s2
       replace hr:=itp hr s2
       conv=>whnf
       exact key2 _ (Option.some.inj hr)
      replace s2:=ne_of_beq_false s2
      replace hr:=itn hr s2
      conv=>whnf
      refine ⟨ub,?_⟩;conv=>whnf
      obtain ⟨v5,h5,hr⟩:=Option.bind_eq_some_iff.1 hr
      refine ⟨Option.isSome_iff_exists.2 ⟨_,h5⟩,?_⟩;conv=>whnf
      intro p5 e5
      obtain rfl:=optG_eq h5 e5
      conv=>whnf
      exact key2 _ (Option.some.inj hr)
     replace t1 : ¬ dd > 63:=of_decide_eq_false t1
     replace hr:=itp (itn hr t1) (x64_r _).1
     conv=>whnf
     refine ⟨(x64_r _).1,?_⟩
     generalize hq : IntKind.u64.wrap (1 * 2 ^ min (IntKind.u64.wrap dd).toNat IntKind.u64.bits) = qq
     change runOps (B _) Tryz.f59.ntmps _ _ _ _ _
     unfold runOps
     change (stepO _ _ _ _).wp _
     change runOps (B _) Tryz.f59.ntmps _ _ _ _ _
     unfold runOps
     change (stepO _ _ _ _).wp _
     change runOps (B _) Tryz.f59.ntmps _ _ _ _ _
     unfold runOps
     change (stepO _ _ _ _).wp _
     change runOps (B _) Tryz.f59.ntmps _ _ _ _ _
     unfold runOps
     change wpC _ _ _ _ _ _ _ _
     unfold wpC
     change Ask (decide (IntKind.u64.wrap _ > 0)) _
     unfold Ask
     refine Ask.i (fun t2=>?_) (fun t2=>?_)
     ·replace t2:=of_decide_eq_true t2
      rw [← hq] at t2
      replace hr:=itp hr t2
      clear hq t2
      conv=>whnf
      refine ⟨(x64_r _).1,?_⟩
      generalize hs : nn.fdiv (2 ^ min (IntKind.u64.wrap dd).toNat IntKind.u64.bits) = ss
      rw [show Sx.Pf.shr IntKind.u64 nn (IntKind.u64.wrap dd) = ss from (fdn _ _).symm.trans hs] at hr
      clear hs
      conv=>whnf
      refine ⟨ub,?_⟩;conv=>whnf
      refine ⟨ua,?_⟩;conv=>whnf
      refine Ask.i (fun s1=>?_) (fun s1=>?_)
      ·have s1 : decide (9223372036854775808 ≤ b) = decide (9223372036854775808 ≤ a):=eq_of_beq s1
       replace hr:=itp hr (beq_iff_eq.2 s1)
       conv=>whnf
       refine ⟨ub,?_⟩;conv=>whnf
       obtain ⟨v5,h5,hr⟩:=Option.bind_eq_some_iff.1 hr
       refine ⟨Option.isSome_iff_exists.2 ⟨_,h5⟩,?_⟩;conv=>whnf
       intro p5 e5
       obtain rfl:=optG_eq h5 e5
       conv=>whnf
       exact key2 _ (Option.some.inj hr)
      have s1 : ¬ decide (9223372036854775808 ≤ b) = decide (9223372036854775808 ≤ a):=ne_of_beq_false s1
      replace hr:=itn hr (fun h=>s1 (eq_of_beq h))
      conv=>whnf
      refine Ask.i (fun s2=>?_) (fun s2=>?_)
      ·replace s2:=eq_of_beq s2
       replace hr:=itp hr s2
       conv=>whnf
       exact key2 _ (Option.some.inj hr)
      replace s2:=ne_of_beq_false s2
      replace hr:=itn hr s2
      conv=>whnf
      refine ⟨ub,?_⟩;conv=>whnf
      obtain ⟨v5,h5,hr⟩:=Option.bind_eq_some_iff.1 hr
      refine ⟨Option.isSome_iff_exists.2 ⟨_,h5⟩,?_⟩;conv=>whnf
      intro p5 e5
      obtain rfl:=optG_eq h5 e5
      conv=>whnf
      exact key2 _ (Option.some.inj hr)
     replace t2:=of_decide_eq_false t2
     rw [← hq] at t2
     replace hr:=itn hr t2
     clear hq t2
     conv=>whnf
     refine ⟨(x64_r _).1,?_⟩
     generalize hs : nn.fdiv (2 ^ min (IntKind.u64.wrap dd).toNat IntKind.u64.bits) = ss
     rw [show Sx.Pf.shr IntKind.u64 nn (IntKind.u64.wrap dd) = ss from (fdn _ _).symm.trans hs] at hr
     clear hs
     conv=>whnf
     refine ⟨ub,?_⟩;conv=>whnf
     refine ⟨ua,?_⟩;conv=>whnf
     refine Ask.i (fun s1=>?_) (fun s1=>?_)
     ·have s1 : decide (9223372036854775808 ≤ b) = decide (9223372036854775808 ≤ a):=eq_of_beq s1
      replace hr:=itp hr (beq_iff_eq.2 s1)
      conv=>whnf
      refine ⟨ub,?_⟩;conv=>whnf
      obtain ⟨v5,h5,hr⟩:=Option.bind_eq_some_iff.1 hr
      refine ⟨Option.isSome_iff_exists.2 ⟨_,h5⟩,?_⟩;conv=>whnf
      intro p5 e5
      obtain rfl:=optG_eq h5 e5
      conv=>whnf
      exact key2 _ (Option.some.inj hr)
     have s1 : ¬ decide (9223372036854775808 ≤ b) = decide (9223372036854775808 ≤ a):=ne_of_beq_false s1
     replace hr:=itn hr (fun h=>s1 (eq_of_beq h))
     conv=>whnf
     refine Ask.i (fun s2=>?_) (fun s2=>?_)
     ·replace s2:=eq_of_beq s2
      replace hr:=itp hr s2
      conv=>whnf
      exact key2 _ (Option.some.inj hr)
     replace s2:=ne_of_beq_false s2
     replace hr:=itn hr s2
     conv=>whnf
     refine ⟨ub,?_⟩;conv=>whnf
     obtain ⟨v5,h5,hr⟩:=Option.bind_eq_some_iff.1 hr
     refine ⟨Option.isSome_iff_exists.2 ⟨_,h5⟩,?_⟩;conv=>whnf
     intro p5 e5
     obtain rfl:=optG_eq h5 e5
     conv=>whnf
     exact key2 _ (Option.some.inj hr)
    replace t0 : ¬ dd > 0:=of_decide_eq_false t0
    replace hr:=itn hr t0
    conv=>whnf
    refine ⟨ub,?_⟩;conv=>whnf
    refine ⟨ua,?_⟩;conv=>whnf
    refine Ask.i (fun s1=>?_) (fun s1=>?_)
    ·have s1 : decide (9223372036854775808 ≤ b) = decide (9223372036854775808 ≤ a):=eq_of_beq s1
     replace hr:=itp hr (beq_iff_eq.2 s1)
     conv=>whnf
     refine ⟨ub,?_⟩;conv=>whnf
     obtain ⟨v5,h5,hr⟩:=Option.bind_eq_some_iff.1 hr
     refine ⟨Option.isSome_iff_exists.2 ⟨_,h5⟩,?_⟩;conv=>whnf
     intro p5 e5
     obtain rfl:=optG_eq h5 e5
     conv=>whnf
     exact key2 _ (Option.some.inj hr)
    have s1 : ¬ decide (9223372036854775808 ≤ b) = decide (9223372036854775808 ≤ a):=ne_of_beq_false s1
    replace hr:=itn hr (fun h=>s1 (eq_of_beq h))
    conv=>whnf
    refine Ask.i (fun s2=>?_) (fun s2=>?_)
    ·replace s2:=eq_of_beq s2
     replace hr:=itp hr s2
     conv=>whnf
     exact key2 _ (Option.some.inj hr)
    replace s2:=ne_of_beq_false s2
    replace hr:=itn hr s2
    conv=>whnf
    refine ⟨ub,?_⟩;conv=>whnf
    obtain ⟨v5,h5,hr⟩:=Option.bind_eq_some_iff.1 hr
    refine ⟨Option.isSome_iff_exists.2 ⟨_,h5⟩,?_⟩;conv=>whnf
    intro p5 e5
    obtain rfl:=optG_eq h5 e5
    conv=>whnf
    exact key2 _ (Option.some.inj hr)
   replace s0 : ¬ ((sz a : Nat) : Int) < ((sz b : Nat) : Int):=of_decide_eq_false s0
   exfalso; omega
  have q6 : ¬ ((sz a : Nat) : Int) = 0:=ne_of_beq_false q6
  have q6 : ¬ sz a = 0:=fun h=>q6 (by rw [h]; rfl)
  have av2 : addV a b = sumV b a:=by rw [av,if_neg (by omega),if_neg (by omega),if_neg (by omega),if_neg (by omega)]; unfold finV; rw [if_pos (by omega)]
  have hr:=Go.Proofs.SxPu.radd_j2 (k:=197 + 1) (x:=b) (y:=a) ub ua (by decide) (by have:=Go.Proofs.SxPu.cls_fin ub (by omega); exact this) (by omega) (by omega)
  generalize sumV b a = R at av2 hr
  have key2 : ∀ z,z = R → K (.u (.c (U64 z))):=fun z h=>key z (av2.trans h.symm)
  clear key hk av av2
  rw [hygref6_Add.j2] at hr
  obtain ⟨v1,h1,hr⟩:=Option.bind_eq_some_iff.1 hr
  obtain ⟨v2,h2,hr⟩:=Option.bind_eq_some_iff.1 hr
  simp only [hygref6_Add.j3,Go.Proofs.SxPu.rneg_f ub,Go.Proofs.SxPu.rneg_f ua,Option.bind_some,rw64,bits_or,bits_and] at hr
  conv=>whnf
  refine ⟨ua,?_⟩;conv=>whnf
  refine ⟨ub,?_⟩;conv=>whnf
  refine Ask.i (fun s0=>?_) (fun s0=>?_)
  ·replace s0 : ((sz a : Nat) : Int) < ((sz b : Nat) : Int):=of_decide_eq_true s0
   conv=>whnf
   refine ⟨by rw [h1]; rfl,?_⟩;conv=>whnf
   intro p1 e1
   obtain rfl:=optG_eq h1 e1
   conv=>whnf
   refine ⟨by rw [h2]; rfl,?_⟩;conv=>whnf
   intro p2 e2
   obtain rfl:=optG_eq h2 e2
   conv=>whnf
   refine ⟨by decide,?_⟩;conv=>whnf
   refine ⟨by decide,?_⟩;conv=>whnf
   generalize hm : IntKind.u64.wrap (p1.1 * 2 ^ min (Int.toNat 10) IntKind.u64.bits) = mm
   generalize hn : IntKind.u64.wrap (p2.1 * 2 ^ min (Int.toNat 10) IntKind.u64.bits) = nn
   generalize he : IntKind.i64.wrap (p1.2 - 10) = ee
   generalize hf : IntKind.i64.wrap (p2.2 - 10) = ff
   generalize hd : IntKind.i64.wrap (ee - ff) = dd
   rw [show IntKind.u64.wrap (p1.1 * 1024) = mm from hm,show IntKind.u64.wrap (p2.1 * 1024) = nn from hn,show w64 (p1.2 - 10) = ee from he,show w64 (p2.2 - 10) = ff from hf,show w64 (ee - ff) = dd from hd] at hr
   clear hm hn he hf hd h1 h2 e1 e2
   refine Ask.i (fun t0=>?_) (fun t0=>?_)
   ·replace t0 : dd > 0:=of_decide_eq_true t0
    replace hr:=itp hr t0
    conv=>whnf
    refine Ask.i (fun t1=>?_) (fun t1=>?_)
    ·replace t1 : dd > 63:=of_decide_eq_true t1
     replace hr:=itp hr t1
     conv=>whnf
     refine Ask.i (fun t2=>?_) (fun t2=>?_)
     ·replace t2 : nn > 0:=of_decide_eq_true t2
      replace hr:=itp hr t2
      conv=>whnf
      refine ⟨ub,?_⟩;conv=>whnf
      refine ⟨ua,?_⟩;conv=>whnf
      refine Ask.i (fun s1=>?_) (fun s1=>?_)
      ·have s1 : decide (9223372036854775808 ≤ b) = decide (9223372036854775808 ≤ a):=eq_of_beq s1
       replace hr:=itp hr (beq_iff_eq.2 s1)
       conv=>whnf
       refine ⟨ub,?_⟩;conv=>whnf
       obtain ⟨v5,h5,hr⟩:=Option.bind_eq_some_iff.1 hr
       refine ⟨Option.isSome_iff_exists.2 ⟨_,h5⟩,?_⟩;conv=>whnf
       intro p5 e5
       obtain rfl:=optG_eq h5 e5
       conv=>whnf
       exact key2 _ (Option.some.inj hr)
      have s1 : ¬ decide (9223372036854775808 ≤ b) = decide (9223372036854775808 ≤ a):=ne_of_beq_false s1
      replace hr:=itn hr (fun h=>s1 (eq_of_beq h))
      conv=>whnf
      refine Ask.i (fun s2=>?_) (fun s2=>?_)
      ·replace s2:=eq_of_beq s2
       replace hr:=itp hr s2
       conv=>whnf
       exact key2 _ (Option.some.inj hr)
      replace s2:=ne_of_beq_false s2
      replace hr:=itn hr s2
      conv=>whnf
      refine ⟨ub,?_⟩;conv=>whnf
      obtain ⟨v5,h5,hr⟩:=Option.bind_eq_some_iff.1 hr
      refine ⟨Option.isSome_iff_exists.2 ⟨_,h5⟩,?_⟩;conv=>whnf
      intro p5 e5
      obtain rfl:=optG_eq h5 e5
      conv=>whnf
      exact key2 _ (Option.some.inj hr)
     replace t2 : ¬ nn > 0:=of_decide_eq_false t2
     replace hr:=itn hr t2
     conv=>whnf
     refine ⟨ub,?_⟩;conv=>whnf
     refine ⟨ua,?_⟩;conv=>whnf
     refine Ask.i (fun s1=>?_) (fun s1=>?_)
     ·have s1 : decide (9223372036854775808 ≤ b) = decide (9223372036854775808 ≤ a):=eq_of_beq s1
      replace hr:=itp hr (beq_iff_eq.2 s1)
      conv=>whnf
      refine ⟨ub,?_⟩;conv=>whnf
      obtain ⟨v5,h5,hr⟩:=Option.bind_eq_some_iff.1 hr
      refine ⟨Option.isSome_iff_exists.2 ⟨_,h5⟩,?_⟩;conv=>whnf
      intro p5 e5
      obtain rfl:=optG_eq h5 e5
      conv=>whnf
      exact key2 _ (Option.some.inj hr)
     have s1 : ¬ decide (9223372036854775808 ≤ b) = decide (9223372036854775808 ≤ a):=ne_of_beq_false s1
     replace hr:=itn hr (fun h=>s1 (eq_of_beq h))
     conv=>whnf
     refine Ask.i (fun s2=>?_) (fun s2=>?_)
     ·replace s2:=eq_of_beq s2
      replace hr:=itp hr s2
      conv=>whnf
      exact key2 _ (Option.some.inj hr)
     replace s2:=ne_of_beq_false s2
     replace hr:=itn hr s2
     conv=>whnf
     refine ⟨ub,?_⟩;conv=>whnf
     obtain ⟨v5,h5,hr⟩:=Option.bind_eq_some_iff.1 hr
     refine ⟨Option.isSome_iff_exists.2 ⟨_,h5⟩,?_⟩;conv=>whnf
     intro p5 e5
     obtain rfl:=optG_eq h5 e5
     conv=>whnf
     exact key2 _ (Option.some.inj hr)
    replace t1 : ¬ dd > 63:=of_decide_eq_false t1
    replace hr:=itp (itn hr t1) (x64_r _).1
    conv=>whnf
    refine ⟨(x64_r _).1,?_⟩
    generalize hq : IntKind.u64.wrap (1 * 2 ^ min (IntKind.u64.wrap dd).toNat IntKind.u64.bits) = qq
    change runOps (B _) Tryz.f59.ntmps _ _ _ _ _
    unfold runOps
    change (stepO _ _ _ _).wp _
    change runOps (B _) Tryz.f59.ntmps _ _ _ _ _
    unfold runOps
    change (stepO _ _ _ _).wp _
    change runOps (B _) Tryz.f59.ntmps _ _ _ _ _
    unfold runOps
    change (stepO _ _ _ _).wp _
    change runOps (B _) Tryz.f59.ntmps _ _ _ _ _
    unfold runOps
    change wpC _ _ _ _ _ _ _ _
    unfold wpC
    change Ask (decide (IntKind.u64.wrap _ > 0)) _
    unfold Ask
    refine Ask.i (fun t2=>?_) (fun t2=>?_)
    ·replace t2:=of_decide_eq_true t2
     rw [← hq] at t2
     replace hr:=itp hr t2
     clear hq t2
     conv=>whnf
     refine ⟨(x64_r _).1,?_⟩
     generalize hs : nn.fdiv (2 ^ min (IntKind.u64.wrap dd).toNat IntKind.u64.bits) = ss
     rw [show Sx.Pf.shr IntKind.u64 nn (IntKind.u64.wrap dd) = ss from (fdn _ _).symm.trans hs] at hr
     clear hs
     conv=>whnf
     refine ⟨ub,?_⟩;conv=>whnf
     refine ⟨ua,?_⟩;conv=>whnf
     refine Ask.i (fun s1=>?_) (fun s1=>?_)
     ·have s1 : decide (9223372036854775808 ≤ b) = decide (9223372036854775808 ≤ a):=eq_of_beq s1
      replace hr:=itp hr (beq_iff_eq.2 s1)
      conv=>whnf
      refine ⟨ub,?_⟩;conv=>whnf
      obtain ⟨v5,h5,hr⟩:=Option.bind_eq_some_iff.1 hr
      refine ⟨Option.isSome_iff_exists.2 ⟨_,h5⟩,?_⟩;conv=>whnf
      intro p5 e5
      obtain rfl:=optG_eq h5 e5
      conv=>whnf
      exact key2 _ (Option.some.inj hr)
     have s1 : ¬ decide (9223372036854775808 ≤ b) = decide (9223372036854775808 ≤ a):=ne_of_beq_false s1
     replace hr:=itn hr (fun h=>s1 (eq_of_beq h))
     conv=>whnf
     refine Ask.i (fun s2=>?_) (fun s2=>?_)
     ·replace s2:=eq_of_beq s2
      replace hr:=itp hr s2
      conv=>whnf
      exact key2 _ (Option.some.inj hr)
     replace s2:=ne_of_beq_false s2
     replace hr:=itn hr s2
     conv=>whnf
     refine ⟨ub,?_⟩;conv=>whnf
     obtain ⟨v5,h5,hr⟩:=Option.bind_eq_some_iff.1 hr
     refine ⟨Option.isSome_iff_exists.2 ⟨_,h5⟩,?_⟩;conv=>whnf
     intro p5 e5
     obtain rfl:=optG_eq h5 e5
     conv=>whnf
     exact key2 _ (Option.some.inj hr)
    replace t2:=of_decide_eq_false t2
    rw [← hq] at t2
    replace hr:=itn hr t2
    clear hq t2
    conv=>whnf
    refine ⟨(x64_r _).1,?_⟩
    generalize hs : nn.fdiv (2 ^ min (IntKind.u64.wrap dd).toNat IntKind.u64.bits) = ss
    rw [show Sx.Pf.shr IntKind.u64 nn (IntKind.u64.wrap dd) = ss from (fdn _ _).symm.trans hs] at hr
    clear hs
    conv=>whnf
    refine ⟨ub,?_⟩;conv=>whnf
    refine ⟨ua,?_⟩;conv=>whnf
    refine Ask.i (fun s1=>?_) (fun s1=>?_)
    ·have s1 : decide (9223372036854775808 ≤ b) = decide (9223372036854775808 ≤ a):=eq_of_beq s1
     replace hr:=itp hr (beq_iff_eq.2 s1)
     conv=>whnf
     refine ⟨ub,?_⟩;conv=>whnf
     obtain ⟨v5,h5,hr⟩:=Option.bind_eq_some_iff.1 hr
     refine ⟨Option.isSome_iff_exists.2 ⟨_,h5⟩,?_⟩;conv=>whnf
     intro p5 e5
     obtain rfl:=optG_eq h5 e5
     conv=>whnf
     exact key2 _ (Option.some.inj hr)
    have s1 : ¬ decide (9223372036854775808 ≤ b) = decide (9223372036854775808 ≤ a):=ne_of_beq_false s1
    replace hr:=itn hr (fun h=>s1 (eq_of_beq h))
    conv=>whnf
    refine Ask.i (fun s2=>?_) (fun s2=>?_)
    ·replace s2:=eq_of_beq s2
     replace hr:=itp hr s2
     conv=>whnf
     exact key2 _ (Option.some.inj hr)
    replace s2:=ne_of_beq_false s2
    replace hr:=itn hr s2
    conv=>whnf
    refine ⟨ub,?_⟩;conv=>whnf
    obtain ⟨v5,h5,hr⟩:=Option.bind_eq_some_iff.1 hr
    refine ⟨Option.isSome_iff_exists.2 ⟨_,h5⟩,?_⟩;conv=>whnf
    intro p5 e5
    obtain rfl:=optG_eq h5 e5
    conv=>whnf
    exact key2 _ (Option.some.inj hr)
   replace t0 : ¬ dd > 0:=of_decide_eq_false t0
   replace hr:=itn hr t0
   conv=>whnf
   refine ⟨ub,?_⟩;conv=>whnf
   refine ⟨ua,?_⟩;conv=>whnf
   refine Ask.i (fun s1=>?_) (fun s1=>?_)
   ·have s1 : decide (9223372036854775808 ≤ b) = decide (9223372036854775808 ≤ a):=eq_of_beq s1
    replace hr:=itp hr (beq_iff_eq.2 s1)
    conv=>whnf
    refine ⟨ub,?_⟩;conv=>whnf
    obtain ⟨v5,h5,hr⟩:=Option.bind_eq_some_iff.1 hr
    refine ⟨Option.isSome_iff_exists.2 ⟨_,h5⟩,?_⟩;conv=>whnf
    intro p5 e5
    obtain rfl:=optG_eq h5 e5
    conv=>whnf
    exact key2 _ (Option.some.inj hr)
   have s1 : ¬ decide (9223372036854775808 ≤ b) = decide (9223372036854775808 ≤ a):=ne_of_beq_false s1
   replace hr:=itn hr (fun h=>s1 (eq_of_beq h))
   conv=>whnf
   refine Ask.i (fun s2=>?_) (fun s2=>?_)
   ·replace s2:=eq_of_beq s2
    replace hr:=itp hr s2
    conv=>whnf
    exact key2 _ (Option.some.inj hr)
   replace s2:=ne_of_beq_false s2
   replace hr:=itn hr s2
   conv=>whnf
   refine ⟨ub,?_⟩;conv=>whnf
   obtain ⟨v5,h5,hr⟩:=Option.bind_eq_some_iff.1 hr
   refine ⟨Option.isSome_iff_exists.2 ⟨_,h5⟩,?_⟩;conv=>whnf
   intro p5 e5
   obtain rfl:=optG_eq h5 e5
   conv=>whnf
   exact key2 _ (Option.some.inj hr)
  replace s0 : ¬ ((sz a : Nat) : Int) < ((sz b : Nat) : Int):=of_decide_eq_false s0
  exfalso; omega
 exact hk.elim
theorem radd_ex2 : Ok G 59 (addTP P2):=by
 refine okP addS_all Tryz.func59 rfl (by decide) fun K us hk=>?_
 unfold addTP at hk
 split at hk
 ·rename_i a b
  refine ⟨by show 2 ≤ _; decide,?_⟩
  obtain ⟨⟨ua,ub,hP⟩,hk⟩:=hk
  unfold P2 at hP
  have key : ∀ z,addV a b = z → K (.u (.c (U64 z))):=fun z h=>fin hk (congrArg (fun z : Int=>SV.u (.c (U64 z))) h)
  have av : addV a b = if cls a = 4 then qt a else if cls b = 4 then qt b else if cls a = 3 then (if cls b = 3 then (if a = b then a else 9221120237041090560) else a) else if cls b = 3 then b else finV a b:=rfl
  have ra:=Go.Proofs.SxPu.cls_range a
  have rb:=Go.Proofs.SxPu.cls_range b
  conv=>whnf
  refine ⟨ua,?_⟩;conv=>whnf
  refine Ask.i (fun q8=>?_) (fun q8=>?_)
  ·have q8 : cls a = 4:=eq_of_beq q8
   exfalso; omega
  have q8 : ¬ cls a = 4:=ne_of_beq_false q8
  conv=>whnf
  refine ⟨ub,?_⟩;conv=>whnf
  refine Ask.i (fun q9=>?_) (fun q9=>?_)
  ·have q9 : cls b = 4:=eq_of_beq q9
   exfalso; omega
  have q9 : ¬ cls b = 4:=ne_of_beq_false q9
  conv=>whnf
  refine ⟨ua,?_⟩;conv=>whnf
  refine Ask.i (fun q1=>?_) (fun q1=>?_)
  ·have q1 : cls a = 3:=eq_of_beq q1
   exfalso; omega
  have q1 : ¬ cls a = 3:=ne_of_beq_false q1
  conv=>whnf
  refine ⟨ua,?_⟩;conv=>whnf
  refine Ask.i (fun q4=>?_) (fun q4=>?_)
  ·have q4 : cls a = 3:=eq_of_beq q4
   exfalso; omega
  have q4 : ¬ cls a = 3:=ne_of_beq_false q4
  conv=>whnf
  refine ⟨ub,?_⟩;conv=>whnf
  refine Ask.i (fun q5=>?_) (fun q5=>?_)
  ·have q5 : cls b = 3:=eq_of_beq q5
   exfalso; omega
  have q5 : ¬ cls b = 3:=ne_of_beq_false q5
  conv=>whnf
  refine ⟨ua,?_⟩;conv=>whnf
  refine Ask.i (fun q6=>?_) (fun q6=>?_)
  ·have q6 : ((sz a : Nat) : Int) = 0:=eq_of_beq q6
   conv=>whnf
   refine ⟨ub,?_⟩;conv=>whnf
   refine Ask.i (fun q7=>?_) (fun q7=>?_)
   ·have q7 : ((sz b : Nat) : Int) = 0:=eq_of_beq q7
    have q6 : sz a = 0:=Int.ofNat.inj q6
    have q7 : sz b = 0:=Int.ofNat.inj q7
    exfalso; omega
   have q7 : ¬ ((sz b : Nat) : Int) = 0:=ne_of_beq_false q7
   have q6 : sz a = 0:=Int.ofNat.inj q6
   have q7 : ¬ sz b = 0:=fun h=>q7 (by rw [h]; rfl)
   have av2 : addV a b = sumV a b:=by rw [av,if_neg (by omega),if_neg (by omega),if_neg (by omega),if_neg (by omega)]; unfold finV; rw [if_neg (by omega)]
   have hr:=Go.Proofs.SxPu.radd_j2 (k:=197 + 1) (x:=a) (y:=b) ua ub (by decide) (by have:=Go.Proofs.SxPu.cls_fin ua (by omega); exact this) (by omega) (by omega)
   generalize sumV a b = R at av2 hr
   have key2 : ∀ z,z = R → K (.u (.c (U64 z))):=fun z h=>key z (av2.trans h.symm)
   clear key hk av av2
   rw [hygref6_Add.j2] at hr
   obtain ⟨v1,h1,hr⟩:=Option.bind_eq_some_iff.1 hr
   obtain ⟨v2,h2,hr⟩:=Option.bind_eq_some_iff.1 hr
   simp only [hygref6_Add.j3,Go.Proofs.SxPu.rneg_f ua,Go.Proofs.SxPu.rneg_f ub,Option.bind_some,rw64,bits_or,bits_and] at hr
   conv=>whnf
   refine ⟨ua,?_⟩;conv=>whnf
   refine ⟨ub,?_⟩;conv=>whnf
   refine Ask.i (fun s0=>?_) (fun s0=>?_)
   ·replace s0 : ((sz a : Nat) : Int) < ((sz b : Nat) : Int):=of_decide_eq_true s0
    exfalso; omega
   replace s0 : ¬ ((sz a : Nat) : Int) < ((sz b : Nat) : Int):=of_decide_eq_false s0
   conv=>whnf
   refine ⟨by rw [h1]; rfl,?_⟩;conv=>whnf
   intro p1 e1
   obtain rfl:=optG_eq h1 e1
   conv=>whnf
   refine ⟨by rw [h2]; rfl,?_⟩;conv=>whnf
   intro p2 e2
   obtain rfl:=optG_eq h2 e2
   conv=>whnf
   refine ⟨by decide,?_⟩;conv=>whnf
   refine ⟨by decide,?_⟩;conv=>whnf
   generalize hm : IntKind.u64.wrap (p1.1 * 2 ^ min (Int.toNat 10) IntKind.u64.bits) = mm
   generalize hn : IntKind.u64.wrap (p2.1 * 2 ^ min (Int.toNat 10) IntKind.u64.bits) = nn
   generalize he : IntKind.i64.wrap (p1.2 - 10) = ee
   generalize hf : IntKind.i64.wrap (p2.2 - 10) = ff
   generalize hd : IntKind.i64.wrap (ee - ff) = dd
   rw [show IntKind.u64.wrap (p1.1 * 1024) = mm from hm,show IntKind.u64.wrap (p2.1 * 1024) = nn from hn,show w64 (p1.2 - 10) = ee from he,show w64 (p2.2 - 10) = ff from hf,show w64 (ee - ff) = dd from hd] at hr
   clear hm hn he hf hd h1 h2 e1 e2
   refine Ask.i (fun t0=>?_) (fun t0=>?_)
   ·replace t0 : dd > 0:=of_decide_eq_true t0
    replace hr:=itp hr t0
    conv=>whnf
    refine Ask.i (fun t1=>?_) (fun t1=>?_)
    ·replace t1 : dd > 63:=of_decide_eq_true t1
     replace hr:=itp hr t1
     conv=>whnf
     refine Ask.i (fun t2=>?_) (fun t2=>?_)
     ·replace t2 : nn > 0:=of_decide_eq_true t2
      replace hr:=itp hr t2
      conv=>whnf
      refine ⟨ua,?_⟩;conv=>whnf
      refine ⟨ub,?_⟩;conv=>whnf
      refine Ask.i (fun s1=>?_) (fun s1=>?_)
      ·have s1 : decide (9223372036854775808 ≤ a) = decide (9223372036854775808 ≤ b):=eq_of_beq s1
       replace hr:=itp hr (beq_iff_eq.2 s1)
       conv=>whnf
       refine ⟨ua,?_⟩;conv=>whnf
       obtain ⟨v5,h5,hr⟩:=Option.bind_eq_some_iff.1 hr
       refine ⟨Option.isSome_iff_exists.2 ⟨_,h5⟩,?_⟩;conv=>whnf
       intro p5 e5
       obtain rfl:=optG_eq h5 e5
       conv=>whnf
       exact key2 _ (Option.some.inj hr)
      have s1 : ¬ decide (9223372036854775808 ≤ a) = decide (9223372036854775808 ≤ b):=ne_of_beq_false s1
      replace hr:=itn hr (fun h=>s1 (eq_of_beq h))
      conv=>whnf
      refine Ask.i (fun s2=>?_) (fun s2=>?_)
      ·replace s2:=eq_of_beq s2
       replace hr:=itp hr s2
       conv=>whnf
       exact key2 _ (Option.some.inj hr)
      replace s2:=ne_of_beq_false s2
      replace hr:=itn hr s2
      conv=>whnf
      refine ⟨ua,?_⟩;conv=>whnf
      obtain ⟨v5,h5,hr⟩:=Option.bind_eq_some_iff.1 hr
      refine ⟨Option.isSome_iff_exists.2 ⟨_,h5⟩,?_⟩;conv=>whnf
      intro p5 e5
      obtain rfl:=optG_eq h5 e5
      conv=>whnf
      exact key2 _ (Option.some.inj hr)
     replace t2 : ¬ nn > 0:=of_decide_eq_false t2
     replace hr:=itn hr t2
     conv=>whnf
     refine ⟨ua,?_⟩;conv=>whnf
     refine ⟨ub,?_⟩;conv=>whnf
     refine Ask.i (fun s1=>?_) (fun s1=>?_)
     ·have s1 : decide (9223372036854775808 ≤ a) = decide (9223372036854775808 ≤ b):=eq_of_beq s1
      replace hr:=itp hr (beq_iff_eq.2 s1)
      conv=>whnf
      refine ⟨ua,?_⟩;conv=>whnf
      obtain ⟨v5,h5,hr⟩:=Option.bind_eq_some_iff.1 hr
      refine ⟨Option.isSome_iff_exists.2 ⟨_,h5⟩,?_⟩;conv=>whnf
      intro p5 e5
      obtain rfl:=optG_eq h5 e5
      conv=>whnf
      exact key2 _ (Option.some.inj hr)
     have s1 : ¬ decide (9223372036854775808 ≤ a) = decide (9223372036854775808 ≤ b):=ne_of_beq_false s1
     replace hr:=itn hr (fun h=>s1 (eq_of_beq h))
     conv=>whnf
     refine Ask.i (fun s2=>?_) (fun s2=>?_)
     ·replace s2:=eq_of_beq s2
      replace hr:=itp hr s2
      conv=>whnf
      exact key2 _ (Option.some.inj hr)
     replace s2:=ne_of_beq_false s2
     replace hr:=itn hr s2
     conv=>whnf
     refine ⟨ua,?_⟩;conv=>whnf
     obtain ⟨v5,h5,hr⟩:=Option.bind_eq_some_iff.1 hr
     refine ⟨Option.isSome_iff_exists.2 ⟨_,h5⟩,?_⟩;conv=>whnf
     intro p5 e5
     obtain rfl:=optG_eq h5 e5
     conv=>whnf
     exact key2 _ (Option.some.inj hr)
    replace t1 : ¬ dd > 63:=of_decide_eq_false t1
    replace hr:=itp (itn hr t1) (x64_r _).1
    conv=>whnf
    refine ⟨(x64_r _).1,?_⟩
    generalize hq : IntKind.u64.wrap (1 * 2 ^ min (IntKind.u64.wrap dd).toNat IntKind.u64.bits) = qq
    change runOps (B _) Tryz.f59.ntmps _ _ _ _ _
    unfold runOps
    change (stepO _ _ _ _).wp _
    change runOps (B _) Tryz.f59.ntmps _ _ _ _ _
    unfold runOps
    change (stepO _ _ _ _).wp _
    change runOps (B _) Tryz.f59.ntmps _ _ _ _ _
    unfold runOps
    change (stepO _ _ _ _).wp _
    change runOps (B _) Tryz.f59.ntmps _ _ _ _ _
    unfold runOps
    change wpC _ _ _ _ _ _ _ _
    unfold wpC
    change Ask (decide (IntKind.u64.wrap _ > 0)) _
    unfold Ask
    refine Ask.i (fun t2=>?_) (fun t2=>?_)
    ·replace t2:=of_decide_eq_true t2
     rw [← hq] at t2
     replace hr:=itp hr t2
     clear hq t2
     conv=>whnf
     refine ⟨(x64_r _).1,?_⟩
     generalize hs : nn.fdiv (2 ^ min (IntKind.u64.wrap dd).toNat IntKind.u64.bits) = ss
     rw [show Sx.Pf.shr IntKind.u64 nn (IntKind.u64.wrap dd) = ss from (fdn _ _).symm.trans hs] at hr
     clear hs
     conv=>whnf
     refine ⟨ua,?_⟩;conv=>whnf
     refine ⟨ub,?_⟩;conv=>whnf
     refine Ask.i (fun s1=>?_) (fun s1=>?_)
     ·have s1 : decide (9223372036854775808 ≤ a) = decide (9223372036854775808 ≤ b):=eq_of_beq s1
      replace hr:=itp hr (beq_iff_eq.2 s1)
      conv=>whnf
      refine ⟨ua,?_⟩;conv=>whnf
      obtain ⟨v5,h5,hr⟩:=Option.bind_eq_some_iff.1 hr
      refine ⟨Option.isSome_iff_exists.2 ⟨_,h5⟩,?_⟩;conv=>whnf
      intro p5 e5
      obtain rfl:=optG_eq h5 e5
      conv=>whnf
      exact key2 _ (Option.some.inj hr)
     have s1 : ¬ decide (9223372036854775808 ≤ a) = decide (9223372036854775808 ≤ b):=ne_of_beq_false s1
     replace hr:=itn hr (fun h=>s1 (eq_of_beq h))
     conv=>whnf
     refine Ask.i (fun s2=>?_) (fun s2=>?_)
     ·replace s2:=eq_of_beq s2
      replace hr:=itp hr s2
      conv=>whnf
      exact key2 _ (Option.some.inj hr)
     replace s2:=ne_of_beq_false s2
     replace hr:=itn hr s2
     conv=>whnf
     refine ⟨ua,?_⟩;conv=>whnf
     obtain ⟨v5,h5,hr⟩:=Option.bind_eq_some_iff.1 hr
     refine ⟨Option.isSome_iff_exists.2 ⟨_,h5⟩,?_⟩;conv=>whnf
     intro p5 e5
     obtain rfl:=optG_eq h5 e5
     conv=>whnf
     exact key2 _ (Option.some.inj hr)
    replace t2:=of_decide_eq_false t2
    rw [← hq] at t2
    replace hr:=itn hr t2
    clear hq t2
    conv=>whnf
    refine ⟨(x64_r _).1,?_⟩
    generalize hs : nn.fdiv (2 ^ min (IntKind.u64.wrap dd).toNat IntKind.u64.bits) = ss
    rw [show Sx.Pf.shr IntKind.u64 nn (IntKind.u64.wrap dd) = ss from (fdn _ _).symm.trans hs] at hr
    clear hs
    conv=>whnf
    refine ⟨ua,?_⟩;conv=>whnf
    refine ⟨ub,?_⟩;conv=>whnf
    refine Ask.i (fun s1=>?_) (fun s1=>?_)
    ·have s1 : decide (9223372036854775808 ≤ a) = decide (9223372036854775808 ≤ b):=eq_of_beq s1
     replace hr:=itp hr (beq_iff_eq.2 s1)
     conv=>whnf
     refine ⟨ua,?_⟩;conv=>whnf
     obtain ⟨v5,h5,hr⟩:=Option.bind_eq_some_iff.1 hr
     refine ⟨Option.isSome_iff_exists.2 ⟨_,h5⟩,?_⟩;conv=>whnf
     intro p5 e5
     obtain rfl:=optG_eq h5 e5
     conv=>whnf
     exact key2 _ (Option.some.inj hr)
    have s1 : ¬ decide (9223372036854775808 ≤ a) = decide (9223372036854775808 ≤ b):=ne_of_beq_false s1
    replace hr:=itn hr (fun h=>s1 (eq_of_beq h))
    conv=>whnf
    refine Ask.i (fun s2=>?_) (fun s2=>?_)
    ·replace s2:=eq_of_beq s2
     replace hr:=itp hr s2
     conv=>whnf
     exact key2 _ (Option.some.inj hr)
    replace s2:=ne_of_beq_false s2
    replace hr:=itn hr s2
    conv=>whnf
    refine ⟨ua,?_⟩;conv=>whnf
    obtain ⟨v5,h5,hr⟩:=Option.bind_eq_some_iff.1 hr
    refine ⟨Option.isSome_iff_exists.2 ⟨_,h5⟩,?_⟩;conv=>whnf
    intro p5 e5
    obtain rfl:=optG_eq h5 e5
    conv=>whnf
    exact key2 _ (Option.some.inj hr)
   replace t0 : ¬ dd > 0:=of_decide_eq_false t0
   replace hr:=itn hr t0
   conv=>whnf
   refine ⟨ua,?_⟩;conv=>whnf
   refine ⟨ub,?_⟩;conv=>whnf
   refine Ask.i (fun s1=>?_) (fun s1=>?_)
   ·have s1 : decide (9223372036854775808 ≤ a) = decide (9223372036854775808 ≤ b):=eq_of_beq s1
    replace hr:=itp hr (beq_iff_eq.2 s1)
    conv=>whnf
    refine ⟨ua,?_⟩;conv=>whnf
    obtain ⟨v5,h5,hr⟩:=Option.bind_eq_some_iff.1 hr
    refine ⟨Option.isSome_iff_exists.2 ⟨_,h5⟩,?_⟩;conv=>whnf
    intro p5 e5
    obtain rfl:=optG_eq h5 e5
    conv=>whnf
    exact key2 _ (Option.some.inj hr)
   have s1 : ¬ decide (9223372036854775808 ≤ a) = decide (9223372036854775808 ≤ b):=ne_of_beq_false s1
   replace hr:=itn hr (fun h=>s1 (eq_of_beq h))
   conv=>whnf
   refine Ask.i (fun s2=>?_) (fun s2=>?_)
   ·replace s2:=eq_of_beq s2
    replace hr:=itp hr s2
    conv=>whnf
    exact key2 _ (Option.some.inj hr)
   replace s2:=ne_of_beq_false s2
   replace hr:=itn hr s2
   conv=>whnf
   refine ⟨ua,?_⟩;conv=>whnf
   obtain ⟨v5,h5,hr⟩:=Option.bind_eq_some_iff.1 hr
   refine ⟨Option.isSome_iff_exists.2 ⟨_,h5⟩,?_⟩;conv=>whnf
   intro p5 e5
   obtain rfl:=optG_eq h5 e5
   conv=>whnf
   exact key2 _ (Option.some.inj hr)
  have q6 : ¬ ((sz a : Nat) : Int) = 0:=ne_of_beq_false q6
  have q6 : ¬ sz a = 0:=fun h=>q6 (by rw [h]; rfl)
  have av2 : addV a b = sumV a b:=by rw [av,if_neg (by omega),if_neg (by omega),if_neg (by omega),if_neg (by omega)]; unfold finV; rw [if_neg (by omega)]
  have hr:=Go.Proofs.SxPu.radd_j2 (k:=197 + 1) (x:=a) (y:=b) ua ub (by decide) (by have:=Go.Proofs.SxPu.cls_fin ua (by omega); exact this) (by omega) (by omega)
  generalize sumV a b = R at av2 hr
  have key2 : ∀ z,z = R → K (.u (.c (U64 z))):=fun z h=>key z (av2.trans h.symm)
  clear key hk av av2
  rw [hygref6_Add.j2] at hr
  obtain ⟨v1,h1,hr⟩:=Option.bind_eq_some_iff.1 hr
  obtain ⟨v2,h2,hr⟩:=Option.bind_eq_some_iff.1 hr
  simp only [hygref6_Add.j3,Go.Proofs.SxPu.rneg_f ua,Go.Proofs.SxPu.rneg_f ub,Option.bind_some,rw64,bits_or,bits_and] at hr
  conv=>whnf
  refine ⟨ua,?_⟩;conv=>whnf
  refine ⟨ub,?_⟩;conv=>whnf
  refine Ask.i (fun s0=>?_) (fun s0=>?_)
  ·replace s0 : ((sz a : Nat) : Int) < ((sz b : Nat) : Int):=of_decide_eq_true s0
   exfalso; omega
  replace s0 : ¬ ((sz a : Nat) : Int) < ((sz b : Nat) : Int):=of_decide_eq_false s0
  conv=>whnf
  refine ⟨by rw [h1]; rfl,?_⟩;conv=>whnf
  intro p1 e1
  obtain rfl:=optG_eq h1 e1
  conv=>whnf
  refine ⟨by rw [h2]; rfl,?_⟩;conv=>whnf
  intro p2 e2
  obtain rfl:=optG_eq h2 e2
  conv=>whnf
  refine ⟨by decide,?_⟩;conv=>whnf
  refine ⟨by decide,?_⟩;conv=>whnf
  generalize hm : IntKind.u64.wrap (p1.1 * 2 ^ min (Int.toNat 10) IntKind.u64.bits) = mm
  generalize hn : IntKind.u64.wrap (p2.1 * 2 ^ min (Int.toNat 10) IntKind.u64.bits) = nn
  generalize he : IntKind.i64.wrap (p1.2 - 10) = ee
  generalize hf : IntKind.i64.wrap (p2.2 - 10) = ff
  generalize hd : IntKind.i64.wrap (ee - ff) = dd
  rw [show IntKind.u64.wrap (p1.1 * 1024) = mm from hm,show IntKind.u64.wrap (p2.1 * 1024) = nn from hn,show w64 (p1.2 - 10) = ee from he,show w64 (p2.2 - 10) = ff from hf,show w64 (ee - ff) = dd from hd] at hr
  clear hm hn he hf hd h1 h2 e1 e2
  refine Ask.i (fun t0=>?_) (fun t0=>?_)
  ·replace t0 : dd > 0:=of_decide_eq_true t0
   replace hr:=itp hr t0
   conv=>whnf
   refine Ask.i (fun t1=>?_) (fun t1=>?_)
   ·replace t1 : dd > 63:=of_decide_eq_true t1
    replace hr:=itp hr t1
    conv=>whnf
    refine Ask.i (fun t2=>?_) (fun t2=>?_)
    ·replace t2 : nn > 0:=of_decide_eq_true t2
     replace hr:=itp hr t2
     conv=>whnf
     refine ⟨ua,?_⟩;conv=>whnf
     refine ⟨ub,?_⟩;conv=>whnf
     refine Ask.i (fun s1=>?_) (fun s1=>?_)
     ·have s1 : decide (9223372036854775808 ≤ a) = decide (9223372036854775808 ≤ b):=eq_of_beq s1
      replace hr:=itp hr (beq_iff_eq.2 s1)
      conv=>whnf
      refine ⟨ua,?_⟩;conv=>whnf
      obtain ⟨v5,h5,hr⟩:=Option.bind_eq_some_iff.1 hr
      refine ⟨Option.isSome_iff_exists.2 ⟨_,h5⟩,?_⟩;conv=>whnf
      intro p5 e5
      obtain rfl:=optG_eq h5 e5
      conv=>whnf
      exact key2 _ (Option.some.inj hr)
     have s1 : ¬ decide (9223372036854775808 ≤ a) = decide (9223372036854775808 ≤ b):=ne_of_beq_false s1
     replace hr:=itn hr (fun h=>s1 (eq_of_beq h))
     conv=>whnf
     refine Ask.i (fun s2=>?_) (fun s2=>?_)
     ·replace s2:=eq_of_beq s2
      replace hr:=itp hr s2
      conv=>whnf
      exact key2 _ (Option.some.inj hr)
     replace s2:=ne_of_beq_false s2
     replace hr:=itn hr s2
     conv=>whnf
     refine ⟨ua,?_⟩;conv=>whnf
     obtain ⟨v5,h5,hr⟩:=Option.bind_eq_some_iff.1 hr
     refine ⟨Option.isSome_iff_exists.2 ⟨_,h5⟩,?_⟩;conv=>whnf
     intro p5 e5
     obtain rfl:=optG_eq h5 e5
     conv=>whnf
     exact key2 _ (Option.some.inj hr)
    replace t2 : ¬ nn > 0:=of_decide_eq_false t2
    replace hr:=itn hr t2
    conv=>whnf
    refine ⟨ua,?_⟩;conv=>whnf
    refine ⟨ub,?_⟩;conv=>whnf
    refine Ask.i (fun s1=>?_) (fun s1=>?_)
    ·have s1 : decide (9223372036854775808 ≤ a) = decide (9223372036854775808 ≤ b):=eq_of_beq s1
     replace hr:=itp hr (beq_iff_eq.2 s1)
     conv=>whnf
     refine ⟨ua,?_⟩;conv=>whnf
     obtain ⟨v5,h5,hr⟩:=Option.bind_eq_some_iff.1 hr
     refine ⟨Option.isSome_iff_exists.2 ⟨_,h5⟩,?_⟩;conv=>whnf
     intro p5 e5
     obtain rfl:=optG_eq h5 e5
     conv=>whnf
     exact key2 _ (Option.some.inj hr)
    have s1 : ¬ decide (9223372036854775808 ≤ a) = decide (9223372036854775808 ≤ b):=ne_of_beq_false s1
    replace hr:=itn hr (fun h=>s1 (eq_of_beq h))
    conv=>whnf
    refine Ask.i (fun s2=>?_) (fun s2=>?_)
    ·replace s2:=eq_of_beq s2
     replace hr:=itp hr s2
     conv=>whnf
     exact key2 _ (Option.some.inj hr)
    replace s2:=ne_of_beq_false s2
    replace hr:=itn hr s2
    conv=>whnf
    refine ⟨ua,?_⟩;conv=>whnf
    obtain ⟨v5,h5,hr⟩:=Option.bind_eq_some_iff.1 hr
    refine ⟨Option.isSome_iff_exists.2 ⟨_,h5⟩,?_⟩;conv=>whnf
    intro p5 e5
    obtain rfl:=optG_eq h5 e5
    conv=>whnf
    exact key2 _ (Option.some.inj hr)
   replace t1 : ¬ dd > 63:=of_decide_eq_false t1
   replace hr:=itp (itn hr t1) (x64_r _).1
   conv=>whnf
   refine ⟨(x64_r _).1,?_⟩
   generalize hq : IntKind.u64.wrap (1 * 2 ^ min (IntKind.u64.wrap dd).toNat IntKind.u64.bits) = qq
   change runOps (B _) Tryz.f59.ntmps _ _ _ _ _
   unfold runOps
   change (stepO _ _ _ _).wp _
   change runOps (B _) Tryz.f59.ntmps _ _ _ _ _
   unfold runOps
   change (stepO _ _ _ _).wp _
   change runOps (B _) Tryz.f59.ntmps _ _ _ _ _
   unfold runOps
   change (stepO _ _ _ _).wp _
   change runOps (B _) Tryz.f59.ntmps _ _ _ _ _
   unfold runOps
   change wpC _ _ _ _ _ _ _ _
   unfold wpC
   change Ask (decide (IntKind.u64.wrap _ > 0)) _
   unfold Ask
   refine Ask.i (fun t2=>?_) (fun t2=>?_)
   ·replace t2:=of_decide_eq_true t2
    rw [← hq] at t2
    replace hr:=itp hr t2
    clear hq t2
    conv=>whnf
    refine ⟨(x64_r _).1,?_⟩
    generalize hs : nn.fdiv (2 ^ min (IntKind.u64.wrap dd).toNat IntKind.u64.bits) = ss
    rw [show Sx.Pf.shr IntKind.u64 nn (IntKind.u64.wrap dd) = ss from (fdn _ _).symm.trans hs] at hr
    clear hs
    conv=>whnf
    refine ⟨ua,?_⟩;conv=>whnf
    refine ⟨ub,?_⟩;conv=>whnf
    refine Ask.i (fun s1=>?_) (fun s1=>?_)
    ·have s1 : decide (9223372036854775808 ≤ a) = decide (9223372036854775808 ≤ b):=eq_of_beq s1
     replace hr:=itp hr (beq_iff_eq.2 s1)
     conv=>whnf
     refine ⟨ua,?_⟩;conv=>whnf
     obtain ⟨v5,h5,hr⟩:=Option.bind_eq_some_iff.1 hr
     refine ⟨Option.isSome_iff_exists.2 ⟨_,h5⟩,?_⟩;conv=>whnf
     intro p5 e5
     obtain rfl:=optG_eq h5 e5
     conv=>whnf
     exact key2 _ (Option.some.inj hr)
    have s1 : ¬ decide (9223372036854775808 ≤ a) = decide (9223372036854775808 ≤ b):=ne_of_beq_false s1
    replace hr:=itn hr (fun h=>s1 (eq_of_beq h))
    conv=>whnf
    refine Ask.i (fun s2=>?_) (fun s2=>?_)
    ·replace s2:=eq_of_beq s2
     replace hr:=itp hr s2
     conv=>whnf
     exact key2 _ (Option.some.inj hr)
    replace s2:=ne_of_beq_false s2
    replace hr:=itn hr s2
    conv=>whnf
    refine ⟨ua,?_⟩;conv=>whnf
    obtain ⟨v5,h5,hr⟩:=Option.bind_eq_some_iff.1 hr
    refine ⟨Option.isSome_iff_exists.2 ⟨_,h5⟩,?_⟩;conv=>whnf
    intro p5 e5
    obtain rfl:=optG_eq h5 e5
    conv=>whnf
    exact key2 _ (Option.some.inj hr)
   replace t2:=of_decide_eq_false t2
   rw [← hq] at t2
   replace hr:=itn hr t2
   clear hq t2
   conv=>whnf
   refine ⟨(x64_r _).1,?_⟩
   generalize hs : nn.fdiv (2 ^ min (IntKind.u64.wrap dd).toNat IntKind.u64.bits) = ss
   rw [show Sx.Pf.shr IntKind.u64 nn (IntKind.u64.wrap dd) = ss from (fdn _ _).symm.trans hs] at hr
   clear hs
   conv=>whnf
   refine ⟨ua,?_⟩;conv=>whnf
   refine ⟨ub,?_⟩;conv=>whnf
   refine Ask.i (fun s1=>?_) (fun s1=>?_)
   ·have s1 : decide (9223372036854775808 ≤ a) = decide (9223372036854775808 ≤ b):=eq_of_beq s1
    replace hr:=itp hr (beq_iff_eq.2 s1)
    conv=>whnf
    refine ⟨ua,?_⟩;conv=>whnf
    obtain ⟨v5,h5,hr⟩:=Option.bind_eq_some_iff.1 hr
    refine ⟨Option.isSome_iff_exists.2 ⟨_,h5⟩,?_⟩;conv=>whnf
    intro p5 e5
    obtain rfl:=optG_eq h5 e5
    conv=>whnf
    exact key2 _ (Option.some.inj hr)
   have s1 : ¬ decide (9223372036854775808 ≤ a) = decide (9223372036854775808 ≤ b):=ne_of_beq_false s1
   replace hr:=itn hr (fun h=>s1 (eq_of_beq h))
   conv=>whnf
   refine Ask.i (fun s2=>?_) (fun s2=>?_)
   ·replace s2:=eq_of_beq s2
    replace hr:=itp hr s2
    conv=>whnf
    exact key2 _ (Option.some.inj hr)
   replace s2:=ne_of_beq_false s2
   replace hr:=itn hr s2
   conv=>whnf
   refine ⟨ua,?_⟩;conv=>whnf
   obtain ⟨v5,h5,hr⟩:=Option.bind_eq_some_iff.1 hr
   refine ⟨Option.isSome_iff_exists.2 ⟨_,h5⟩,?_⟩;conv=>whnf
   intro p5 e5
   obtain rfl:=optG_eq h5 e5
   conv=>whnf
   exact key2 _ (Option.some.inj hr)
  replace t0 : ¬ dd > 0:=of_decide_eq_false t0
  replace hr:=itn hr t0
  conv=>whnf
  refine ⟨ua,?_⟩;conv=>whnf
  refine ⟨ub,?_⟩;conv=>whnf
  refine Ask.i (fun s1=>?_) (fun s1=>?_)
  ·have s1 : decide (9223372036854775808 ≤ a) = decide (9223372036854775808 ≤ b):=eq_of_beq s1
   replace hr:=itp hr (beq_iff_eq.2 s1)
   conv=>whnf
   refine ⟨ua,?_⟩;conv=>whnf
   obtain ⟨v5,h5,hr⟩:=Option.bind_eq_some_iff.1 hr
   refine ⟨Option.isSome_iff_exists.2 ⟨_,h5⟩,?_⟩;conv=>whnf
   intro p5 e5
   obtain rfl:=optG_eq h5 e5
   conv=>whnf
   exact key2 _ (Option.some.inj hr)
  have s1 : ¬ decide (9223372036854775808 ≤ a) = decide (9223372036854775808 ≤ b):=ne_of_beq_false s1
  replace hr:=itn hr (fun h=>s1 (eq_of_beq h))
  conv=>whnf
  refine Ask.i (fun s2=>?_) (fun s2=>?_)
  ·replace s2:=eq_of_beq s2
   replace hr:=itp hr s2
   conv=>whnf
   exact key2 _ (Option.some.inj hr)
  replace s2:=ne_of_beq_false s2
  replace hr:=itn hr s2
  conv=>whnf
  refine ⟨ua,?_⟩;conv=>whnf
  obtain ⟨v5,h5,hr⟩:=Option.bind_eq_some_iff.1 hr
  refine ⟨Option.isSome_iff_exists.2 ⟨_,h5⟩,?_⟩;conv=>whnf
  intro p5 e5
  obtain rfl:=optG_eq h5 e5
  conv=>whnf
  exact key2 _ (Option.some.inj hr)
 exact hk.elim
end Sx
