/- Part of the proof: a machine of states for walks, and contracts of functions over it. Conditions: those that each theorem names. -/
import Derived.Test.YtcjdbimojffggaaGreatDoorC29
import Derived.Test.YtcjdbimojffggaaGreatDoorC25
set_option linter.unusedVariables false
set_option linter.unusedSimpArgs false
namespace Sx
open Go Go.Proofs
set_option maxRecDepth 30000
variable {G : Glob}
def wideU : List U → Out SV
 | [.a [.v (.int .i32 f),.d 38 (.ints l),.v (.string s)],.a [.v (.int .i32 f'),.d 38 (.ints l'),.v (.string s')],.c (.v (.int .i64 x)),.c (.v (.int .i64 y))] =>
  .need ((InB f l ∧ InS x) ∧ InB f' l' ∧ InS y) (one (I64 (wideV (trim f l) (trim f' l') x.toNat y.toNat)))
 | _=>.fail
theorem wideU_ex : Ok G 160 wideU:=wideR_ex.mono fun us K hk=>by
 unfold wideU at hk
 split at hk
 ·obtain ⟨h,hk⟩:=hk
  refine ⟨h,?_⟩
  exact fin (K:=K) hk (congrArg (fun z : Int=>SV.u (.c (I64 z))) (wide_eq h.1.1 h.2.1 _ _).symm)
 exact hk.elim
theorem shGo_stop {p1 p2 n1 n2 : Int × List Int} {most x y s : Int} {d k : Nat} (h : most < 1 ∨ most > 320 ∨ (if y > x then y else x) > 31 ∨ (0 < d ∧ s < -10)) : shGo p1 p2 n1 n2 most k x y s d = none:=by
 cases k with
 | zero=>rfl
 | succ k=>rw [shGo,if_pos h]
def offV (h : Bool) (f : Int) : Int:=bif h then f else 0
def cntV (h : Bool) (l : List Int) : List Int:=bif h then l else []
theorem inB_of {h : Bool} {f : Int} {l : List Int} (hf : -2147483648 ≤ f ∧ f < 2147483648) (hl : l.length ≤ 3750) : InB (offV h f) (cntV h l):=by
 cases h
 ·exact ⟨by show (-2147483648 : Int) ≤ 0; decide,by show (0 : Int) < 2147483648; decide,Nat.zero_le _⟩
 exact ⟨hf.1,hf.2,hl⟩
theorem sdP_of {e : ExpD} (h : Fits e) : sdP e = trim (offV e.hasP e.offP) (cntV e.hasP e.cP):=by
 obtain ⟨h1,h2,h3,h4,h5,h6,h7,h8⟩:=h
 unfold sdP offV cntV
 rw [w64_eq (n:=e.offP) (by omega)]
theorem sdN_of {e : ExpD} (h : Fits e) : sdN e = trim (offV e.hasN e.offN) (cntV e.hasN e.cN):=by
 obtain ⟨h1,h2,h3,h4,h5,h6,h7,h8⟩:=h
 unfold sdN offV cntV
 rw [w64_eq (n:=e.offN) (by omega)]
def xX (a s : Int) (d : Nat) : Int:=w64 (w64 (w64 a - s) + (d : Int))
def leastT : List U → Out SV
 | [.a la,.a lb,.c (.v (.int .i64 most))]=>match asExp la,asExp lb with
  | some a,some b=>.need (Fits a ∧ Fits b) (.all (Option (Int × Int × Int)) (fun o=>shV a b most = o) ⟨_,rfl⟩ fun o=>match o with
   | some r=>.ret (.t [.c (I64 (lesser a.scale b.scale - r.2.2)),.c (Bo true)])
   | none=>.ret (.t [.c (I64 0),.c (Bo false)]))
  | _,_=>.fail
 | _=>.fail
set_option maxHeartbeats 1000000 in
theorem least_ex : Ok G 123 leastT:=by
 have hS : AllSound (B [(125,.pure (normG (B []) [4,42] sideRT)),(160,.pure (normG (B []) [42,42,3,3] wideU))]) G:=.cons _ sideR_ex (.cons _ wideU_ex noneS)
 refine okP hS Tryz.func123 rfl (by decide) fun K us hk=>?_
 unfold leastT at hk
 split at hk
 ·rename_i la lb most
  split at hk
  ·rename_i a b ha hb
   rw [asExp_eq ha,asExp_eq hb]
   refine ⟨by show 3 ≤ _; decide,?_⟩
   obtain ⟨⟨hA,hB⟩,hk⟩:=hk
   have hk:=hk _ rfl
   have eP1:=sdP_of hA
   have eP2:=sdP_of hB
   have eN1:=sdN_of hA
   have eN2:=sdN_of hB
   obtain ⟨a1,a2,a3,a4,a5,a6,a7,a8⟩:=hA
   obtain ⟨b1,b2,b3,b4,b5,b6,b7,b8⟩:=hB
   have iP1 : InB (offV a.hasP a.offP) (cntV a.hasP a.cP):=inB_of ⟨a3,a4⟩ a1
   have iP2 : InB (offV b.hasP b.offP) (cntV b.hasP b.cP):=inB_of ⟨b3,b4⟩ b1
   have iN1 : InB (offV a.hasN a.offN) (cntV a.hasN a.cN):=inB_of ⟨a5,a6⟩ a2
   have iN2 : InB (offV b.hasN b.offN) (cntV b.hasN b.cN):=inB_of ⟨b5,b6⟩ b2
   have ws : lesser (w64 a.scale) (w64 b.scale) = lesser a.scale b.scale:=by rw [w64_eq (n:=a.scale) (by omega),w64_eq (n:=b.scale) (by omega)]
   have le:=lesser_le a.scale b.scale
   unfold shV at hk
   rw [eP1,eP2,eN1,eN2] at hk
   generalize hv : shGo _ _ _ _ most 40 _ _ _ 0 = v at hk
   conv=>whnf
   conv=>whnf
   refine ⟨[],_,_,rfl,Nat,(fun d=>([(2,.u (.c (I64 most))),(3,.u (.c (.p 3 0))),(4,.u (.c (.p 4 0))),(8,.u (.c (I64 (lesser (w64 a.scale) (w64 b.scale))))),(9,.u (.c (I64 (d : Nat))))],
     [(3,.cells 44 a.cells),(4,.cells 44 b.cells)])),
    (fun d=>d ≤ 40 ∧ shGo (trim (offV a.hasP a.offP) (cntV a.hasP a.cP)) (trim (offV b.hasP b.offP) (cntV b.hasP b.cP)) (trim (offV a.hasN a.offN) (cntV a.hasN a.cN)) (trim (offV b.hasN b.offN) (cntV b.hasN b.cN)) most (40 - d) (a.scale - lesser a.scale b.scale + (d : Int)) (b.scale - lesser a.scale b.scale + (d : Int)) (lesser a.scale b.scale - (d : Int)) d = v),(fun d=>40 - d),fun x _=>rfl,
    ⟨0,⟨by decide,?_⟩,⟨rfl,rfl,rfl,rfl,rfl,trivial⟩,⟨rfl,rfl,trivial⟩⟩,?_⟩
   ·rw [← hv]; simp
   rintro d ⟨p1,p2⟩
   have xa : xX a.scale (lesser (w64 a.scale) (w64 b.scale)) d = a.scale - lesser a.scale b.scale + (d : Int):=by
    unfold xX; rw [ws,w64_eq (n:=a.scale) (by omega),w64_eq (n:=a.scale - lesser a.scale b.scale) (by omega),w64_eq (by omega)]
   have xb : xX b.scale (lesser (w64 a.scale) (w64 b.scale)) d = b.scale - lesser a.scale b.scale + (d : Int):=by
    unfold xX; rw [ws,w64_eq (n:=b.scale) (by omega),w64_eq (n:=b.scale - lesser a.scale b.scale) (by omega),w64_eq (by omega)]
   have xs : w64 (lesser (w64 a.scale) (w64 b.scale) - (d : Int)) = lesser a.scale b.scale - (d : Int):=by rw [ws,w64_eq (by omega)]
   rw [← xa,← xb,← xs] at p2
   have stop : (most < 1 ∨ most > 320 ∨ (if xX b.scale (lesser (w64 a.scale) (w64 b.scale)) d > xX a.scale (lesser (w64 a.scale) (w64 b.scale)) d then xX b.scale (lesser (w64 a.scale) (w64 b.scale)) d else xX a.scale (lesser (w64 a.scale) (w64 b.scale)) d) > 31 ∨ (0 < d ∧ w64 (lesser (w64 a.scale) (w64 b.scale) - (d : Int)) < -10)) → K (.t [.c (I64 0),.c (Bo false)]):=fun h=>by
    rw [shGo_stop h] at p2
    subst p2
    exact hk
   conv=>whnf
   refine ⟨mixed,[],[],[],by kernel_rfl,?_⟩;conv=>whnf
   refine Ask.i (fun c1=>?_) (fun c1=>?_)
   ·have k1 : most < 1:=of_decide_eq_true c1
    conv=>whnf
    exact stop (.inl k1)
   have k1 : ¬ most < 1:=of_decide_eq_false c1
   conv=>whnf
   refine Ask.i (fun c2=>?_) (fun c2=>?_)
   ·have k2 : most > 320:=of_decide_eq_true c2
    conv=>whnf
    exact stop (.inr (.inl k2))
   have k2 : ¬ most > 320:=of_decide_eq_false c2
   conv=>whnf
   refine Ask.i (fun c3=>?_) (fun c3=>?_)
   ·have k3 : xX a.scale (lesser (w64 a.scale) (w64 b.scale)) d > 31:=of_decide_eq_true c3
    conv=>whnf
    exact stop (.inr (.inr (.inl (by split <;> omega))))
   have k3 : ¬ xX a.scale (lesser (w64 a.scale) (w64 b.scale)) d > 31:=of_decide_eq_false c3
   conv=>whnf
   refine Ask.i (fun c4=>?_) (fun c4=>?_)
   ·have k4 : xX b.scale (lesser (w64 a.scale) (w64 b.scale)) d > 31:=of_decide_eq_true c4
    conv=>whnf
    exact stop (.inr (.inr (.inl (by split <;> omega))))
   have k4 : ¬ xX b.scale (lesser (w64 a.scale) (w64 b.scale)) d > 31:=of_decide_eq_false c4
   have hd : d ≤ 31:=by rw [xa] at k3; omega
   have sx : InS (xX a.scale (lesser (w64 a.scale) (w64 b.scale)) d):=⟨by rw [xa]; omega,by omega⟩
   have sy : InS (xX b.scale (lesser (w64 a.scale) (w64 b.scale)) d):=⟨by rw [xb]; omega,by omega⟩
   conv=>whnf
   refine Ask.i (fun c5=>?_) (fun c5=>?_)
   ·have k5 : (d : Int) > 0:=of_decide_eq_true c5
    conv=>whnf
    refine Ask.i (fun c6=>?_) (fun c6=>?_)
    ·have k6 : w64 (lesser (w64 a.scale) (w64 b.scale) - (d : Int)) < -10:=of_decide_eq_true c6
     conv=>whnf
     exact stop (.inr (.inr (.inr ⟨by omega,k6⟩)))
    have k6 : ¬ w64 (lesser (w64 a.scale) (w64 b.scale) - (d : Int)) < -10:=of_decide_eq_false c6
    have nst : ¬ (most < 1 ∨ most > 320 ∨ (if xX b.scale (lesser (w64 a.scale) (w64 b.scale)) d > xX a.scale (lesser (w64 a.scale) (w64 b.scale)) d then xX b.scale (lesser (w64 a.scale) (w64 b.scale)) d else xX a.scale (lesser (w64 a.scale) (w64 b.scale)) d) > 31 ∨ (0 < d ∧ w64 (lesser (w64 a.scale) (w64 b.scale) - (d : Int)) < -10)):=by
     rintro (h | h | h | h)
     ·exact k1 h
     ·exact k2 h
     ·split at h; exact k4 h; exact k3 h
     exact k6 h.2
    obtain ⟨k,hk40⟩ : ∃ k,40 - d = k + 1:=⟨39 - d,by omega⟩
    rw [hk40,shGo,if_neg nst] at p2
    conv=>whnf
    refine ⟨mixed,[],[],[],by kernel_rfl,?_⟩;conv=>whnf
    refine ⟨⟨⟨iP1,sx⟩,iP2,sy⟩,?_⟩;conv=>whnf
    refine Ask.i (fun c7=>?_) (fun c7=>?_)
    ·have k7 : wideV (trim (offV a.hasP a.offP) (cntV a.hasP a.cP)) (trim (offV b.hasP b.offP) (cntV b.hasP b.cP)) (xX a.scale (lesser (w64 a.scale) (w64 b.scale)) d).toNat (xX b.scale (lesser (w64 a.scale) (w64 b.scale)) d).toNat ≤ most:=of_decide_eq_true c7
     conv=>whnf
     refine ⟨⟨⟨iN1,sx⟩,iN2,sy⟩,?_⟩;conv=>whnf
     refine Ask.i (fun c8=>?_) (fun c8=>?_)
     ·have k8 : wideV (trim (offV a.hasN a.offN) (cntV a.hasN a.cN)) (trim (offV b.hasN b.offN) (cntV b.hasN b.cN)) (xX a.scale (lesser (w64 a.scale) (w64 b.scale)) d).toNat (xX b.scale (lesser (w64 a.scale) (w64 b.scale)) d).toNat ≤ most:=of_decide_eq_true c8
      rw [if_pos ⟨k7,k8⟩] at p2
      subst p2
      conv=>whnf
      exact fin hk (congrArg (fun z : Int=>SV.t [.c (I64 z),.c (Bo true)]) (by show lesser a.scale b.scale - w64 (lesser (w64 a.scale) (w64 b.scale) - (d : Int)) = (d : Int); rw [xs]; omega))
     have k8 : ¬ wideV (trim (offV a.hasN a.offN) (cntV a.hasN a.cN)) (trim (offV b.hasN b.offN) (cntV b.hasN b.cN)) (xX a.scale (lesser (w64 a.scale) (w64 b.scale)) d).toNat (xX b.scale (lesser (w64 a.scale) (w64 b.scale)) d).toNat ≤ most:=of_decide_eq_false c8
     rw [if_neg (fun h=>k8 h.2)] at p2
     conv=>whnf
     rw [xa,xb,xs,show a.scale - lesser a.scale b.scale + (d : Int) + 1 = a.scale - lesser a.scale b.scale + ((d + 1 : Nat) : Int) by omega,show b.scale - lesser a.scale b.scale + (d : Int) + 1 = b.scale - lesser a.scale b.scale + ((d + 1 : Nat) : Int) by omega,show lesser a.scale b.scale - (d : Int) - 1 = lesser a.scale b.scale - ((d + 1 : Nat) : Int) by omega,show k = 40 - (d + 1) by omega] at p2
     exact ⟨d + 1,⟨by omega,p2⟩,by show 40 - (d + 1) < 40 - d; omega,⟨rfl,rfl,rfl,rfl,congrArg (fun z : Int=>some (SV.u (.c (I64 z)))) (w64_eq (n:=(d : Int) + 1) (by omega)),trivial⟩,⟨rfl,rfl,trivial⟩⟩
    have k7 : ¬ wideV (trim (offV a.hasP a.offP) (cntV a.hasP a.cP)) (trim (offV b.hasP b.offP) (cntV b.hasP b.cP)) (xX a.scale (lesser (w64 a.scale) (w64 b.scale)) d).toNat (xX b.scale (lesser (w64 a.scale) (w64 b.scale)) d).toNat ≤ most:=of_decide_eq_false c7
    rw [if_neg (fun h=>k7 h.1)] at p2
    conv=>whnf
    rw [xa,xb,xs,show a.scale - lesser a.scale b.scale + (d : Int) + 1 = a.scale - lesser a.scale b.scale + ((d + 1 : Nat) : Int) by omega,show b.scale - lesser a.scale b.scale + (d : Int) + 1 = b.scale - lesser a.scale b.scale + ((d + 1 : Nat) : Int) by omega,show lesser a.scale b.scale - (d : Int) - 1 = lesser a.scale b.scale - ((d + 1 : Nat) : Int) by omega,show k = 40 - (d + 1) by omega] at p2
    exact ⟨d + 1,⟨by omega,p2⟩,by show 40 - (d + 1) < 40 - d; omega,⟨rfl,rfl,rfl,rfl,congrArg (fun z : Int=>some (SV.u (.c (I64 z)))) (w64_eq (n:=(d : Int) + 1) (by omega)),trivial⟩,⟨rfl,rfl,trivial⟩⟩
   have k5 : ¬ (d : Int) > 0:=of_decide_eq_false c5
   have nst : ¬ (most < 1 ∨ most > 320 ∨ (if xX b.scale (lesser (w64 a.scale) (w64 b.scale)) d > xX a.scale (lesser (w64 a.scale) (w64 b.scale)) d then xX b.scale (lesser (w64 a.scale) (w64 b.scale)) d else xX a.scale (lesser (w64 a.scale) (w64 b.scale)) d) > 31 ∨ (0 < d ∧ w64 (lesser (w64 a.scale) (w64 b.scale) - (d : Int)) < -10)):=by
    rintro (h | h | h | h)
    ·exact k1 h
    ·exact k2 h
    ·split at h; exact k4 h; exact k3 h
    omega
   obtain ⟨k,hk40⟩ : ∃ k,40 - d = k + 1:=⟨39 - d,by omega⟩
   rw [hk40,shGo,if_neg nst] at p2
   conv=>whnf
   refine ⟨mixed,[],[],[],by kernel_rfl,?_⟩;conv=>whnf
   refine ⟨⟨⟨iP1,sx⟩,iP2,sy⟩,?_⟩;conv=>whnf
   refine Ask.i (fun c7=>?_) (fun c7=>?_)
   ·have k7 : wideV (trim (offV a.hasP a.offP) (cntV a.hasP a.cP)) (trim (offV b.hasP b.offP) (cntV b.hasP b.cP)) (xX a.scale (lesser (w64 a.scale) (w64 b.scale)) d).toNat (xX b.scale (lesser (w64 a.scale) (w64 b.scale)) d).toNat ≤ most:=of_decide_eq_true c7
    conv=>whnf
    refine ⟨⟨⟨iN1,sx⟩,iN2,sy⟩,?_⟩;conv=>whnf
    refine Ask.i (fun c8=>?_) (fun c8=>?_)
    ·have k8 : wideV (trim (offV a.hasN a.offN) (cntV a.hasN a.cN)) (trim (offV b.hasN b.offN) (cntV b.hasN b.cN)) (xX a.scale (lesser (w64 a.scale) (w64 b.scale)) d).toNat (xX b.scale (lesser (w64 a.scale) (w64 b.scale)) d).toNat ≤ most:=of_decide_eq_true c8
     rw [if_pos ⟨k7,k8⟩] at p2
     subst p2
     conv=>whnf
     exact fin hk (congrArg (fun z : Int=>SV.t [.c (I64 z),.c (Bo true)]) (by show lesser a.scale b.scale - w64 (lesser (w64 a.scale) (w64 b.scale) - (d : Int)) = (d : Int); rw [xs]; omega))
    have k8 : ¬ wideV (trim (offV a.hasN a.offN) (cntV a.hasN a.cN)) (trim (offV b.hasN b.offN) (cntV b.hasN b.cN)) (xX a.scale (lesser (w64 a.scale) (w64 b.scale)) d).toNat (xX b.scale (lesser (w64 a.scale) (w64 b.scale)) d).toNat ≤ most:=of_decide_eq_false c8
    rw [if_neg (fun h=>k8 h.2)] at p2
    conv=>whnf
    rw [xa,xb,xs,show a.scale - lesser a.scale b.scale + (d : Int) + 1 = a.scale - lesser a.scale b.scale + ((d + 1 : Nat) : Int) by omega,show b.scale - lesser a.scale b.scale + (d : Int) + 1 = b.scale - lesser a.scale b.scale + ((d + 1 : Nat) : Int) by omega,show lesser a.scale b.scale - (d : Int) - 1 = lesser a.scale b.scale - ((d + 1 : Nat) : Int) by omega,show k = 40 - (d + 1) by omega] at p2
    exact ⟨d + 1,⟨by omega,p2⟩,by show 40 - (d + 1) < 40 - d; omega,⟨rfl,rfl,rfl,rfl,congrArg (fun z : Int=>some (SV.u (.c (I64 z)))) (w64_eq (n:=(d : Int) + 1) (by omega)),trivial⟩,⟨rfl,rfl,trivial⟩⟩
   have k7 : ¬ wideV (trim (offV a.hasP a.offP) (cntV a.hasP a.cP)) (trim (offV b.hasP b.offP) (cntV b.hasP b.cP)) (xX a.scale (lesser (w64 a.scale) (w64 b.scale)) d).toNat (xX b.scale (lesser (w64 a.scale) (w64 b.scale)) d).toNat ≤ most:=of_decide_eq_false c7
   rw [if_neg (fun h=>k7 h.1)] at p2
   conv=>whnf
   rw [xa,xb,xs,show a.scale - lesser a.scale b.scale + (d : Int) + 1 = a.scale - lesser a.scale b.scale + ((d + 1 : Nat) : Int) by omega,show b.scale - lesser a.scale b.scale + (d : Int) + 1 = b.scale - lesser a.scale b.scale + ((d + 1 : Nat) : Int) by omega,show lesser a.scale b.scale - (d : Int) - 1 = lesser a.scale b.scale - ((d + 1 : Nat) : Int) by omega,show k = 40 - (d + 1) by omega] at p2
   exact ⟨d + 1,⟨by omega,p2⟩,by show 40 - (d + 1) < 40 - d; omega,⟨rfl,rfl,rfl,rfl,congrArg (fun z : Int=>some (SV.u (.c (I64 z)))) (w64_eq (n:=(d : Int) + 1) (by omega)),trivial⟩,⟨rfl,rfl,trivial⟩⟩
  exact hk.elim
 exact hk.elim
end Sx
namespace Sx
open Go Go.Proofs Go.RowKit
set_option maxRecDepth 30000
structure ExpD.UE (e : ExpD) : Prop where
 sm : UU e.sum
 mn : UU e.min
 mx : UU e.max
theorem addGo_flag2 (o : Nat) : ∀ (l : List Int) (i : Nat) (c : List Int) (bad : Bool),addGo o i l c bad = ((addGo o i l c false).1,bad || (addGo o i l c false).2)
 | [],i,c,bad=>by rw [addGo,addGo]; simp
 | x :: l,i,c,bad=>by
  rw [addGo,addGo_flag2 o l _ _ (bad || _),addGo,addGo_flag2 o l _ _ (false || _)]
  simp only [Bool.false_or,Bool.or_assoc]
theorem addL_flag (s t : Int × List Int) (bad : Bool) : addL s t bad = ((addL s t false).1,(addL s t false).2.1,bad || (addL s t false).2.2):=by
 unfold addL
 split
 ·simp
 ·simp
 simp only
 rw [addGo_flag2 _ _ _ _ bad]
 simp only
 rw [addGo_flag2 _ t.2 _ _ (bad || _),addGo_flag2 _ t.2 _ _ (addGo (s.1 - lo2 s.1 t.1).toNat 0 s.2 _ false).2]
 simp only [Bool.or_assoc]
theorem oneSide_flag (s t : Int × List Int) (x y : Nat) (bad : Bool) : oneSide s t x y bad = ((oneSide s t x y false).1,(oneSide s t x y false).2.1,bad || (oneSide s t x y false).2.2):=by
 unfold oneSide
 rw [downL_flag s.1 s.2 x bad]
 simp only
 rw [downL_flag t.1 t.2 y (bad || _),downL_flag t.1 t.2 y (downL s.1 s.2 x false).2.2]
 simp only
 rw [addL_flag _ _ (bad || _ || _),addL_flag _ _ ((downL s.1 s.2 x false).2.2 || _)]
 simp only [Bool.or_assoc]
def oP (a b : ExpD) (x y : Nat) : Int × List Int × Bool:=oneSide (sdP a) (sdP b) x y false
def oN (a b : ExpD) (x y : Nat) : Int × List Int × Bool:=oneSide (sdN a) (sdN b) x y false
theorem addP_val (a b : ExpD) (x y : Nat) : addP a b x y = ((oP a b x y).1,(oP a b x y).2.1,cntBad a b || (oP a b x y).2.2):=oneSide_flag _ _ _ _ _
theorem addNn_val (a b : ExpD) (x y : Nat) : addNn a b x y = ((oN a b x y).1,(oN a b x y).2.1,(addP a b x y).2.2 || (oN a b x y).2.2):=oneSide_flag _ _ _ _ _
theorem addBad_val (a b : ExpD) (x y : Nat) : addBad a b x y = (((cntBad a b || (oP a b x y).2.2) || (oN a b x y).2.2) || (bigS (oP a b x y).1 (oP a b x y).2.1 || bigS (oN a b x y).1 (oN a b x y).2.1)):=by
 rw [addBad_def,addNn_val,addP_val]
theorem ours_cases (f : Int) (l : List Int) (g : Int) (m : List Int) (x y : Nat) :
  (oursV f l g m x y = none ∧ ((oneSide (trim f l) (trim g m) x y false).2.2 || bigS (oneSide (trim f l) (trim g m) x y false).1 (oneSide (trim f l) (trim g m) x y false).2.1) = true) ∨
  (oursV f l g m x y = some (trim (oneSide (trim f l) (trim g m) x y false).1 (oneSide (trim f l) (trim g m) x y false).2.1) ∧ ((oneSide (trim f l) (trim g m) x y false).2.2 || bigS (oneSide (trim f l) (trim g m) x y false).1 (oneSide (trim f l) (trim g m) x y false).2.1) = false):=by
 unfold oursV
 cases h : ((oneSide (trim f l) (trim g m) x y false).2.2 || bigS (oneSide (trim f l) (trim g m) x y false).1 (oneSide (trim f l) (trim g m) x y false).2.1)
 ·exact .inr ⟨rfl,rfl⟩
 exact .inl ⟨rfl,rfl⟩
def rP (a b : ExpD) (x y : Nat) : Option (Int × List Int):=oursV (offV a.hasP a.offP) (cntV a.hasP a.cP) (offV b.hasP b.offP) (cntV b.hasP b.cP) x y
def rN (a b : ExpD) (x y : Nat) : Option (Int × List Int):=oursV (offV a.hasN a.offN) (cntV a.hasN a.cN) (offV b.hasN b.offN) (cntV b.hasN b.cN) x y
theorem rP_cases {a b : ExpD} (hA : Fits a) (hB : Fits b) (x y : Nat) : (rP a b x y = none ∧ ((oP a b x y).2.2 || bigS (oP a b x y).1 (oP a b x y).2.1) = true) ∨ (rP a b x y = some (trim (addP a b x y).1 (addP a b x y).2.1) ∧ ((oP a b x y).2.2 || bigS (oP a b x y).1 (oP a b x y).2.1) = false):=by
 rw [addP_val]
 unfold oP
 rw [sdP_of hA,sdP_of hB]
 exact ours_cases _ _ _ _ _ _
theorem rN_cases {a b : ExpD} (hA : Fits a) (hB : Fits b) (x y : Nat) : (rN a b x y = none ∧ ((oN a b x y).2.2 || bigS (oN a b x y).1 (oN a b x y).2.1) = true) ∨ (rN a b x y = some (trim (addNn a b x y).1 (addNn a b x y).2.1) ∧ ((oN a b x y).2.2 || bigS (oN a b x y).1 (oN a b x y).2.1) = false):=by
 rw [addNn_val]
 unfold oN
 rw [sdN_of hA,sdN_of hB]
 exact ours_cases _ _ _ _ _ _
theorem not_ge' (a b : Int) : (!(decide (a ≥ b))) = decide (a < b):=by
 by_cases h : a ≥ b
 ·rw [decide_eq_true h,decide_eq_false (by omega)]; rfl
 rw [decide_eq_false h,decide_eq_true (by omega)]; rfl
theorem bad1 {a b : ExpD} {x y : Nat} (h : (!(decide (x64 (a.count + b.count) ≥ a.count))) = true) : addBad a b x y = true:=by
 rw [not_ge'] at h
 rw [addBad_val]; unfold cntBad; rw [h]; simp
theorem bad2 {a b : ExpD} {x y : Nat} (h : (!(decide (x64 (a.zero + b.zero) ≥ a.zero))) = true) : addBad a b x y = true:=by
 rw [not_ge'] at h
 rw [addBad_val]; unfold cntBad; rw [h]; simp
theorem bad3 {a b : ExpD} {x y : Nat} (hA : Fits a) (hB : Fits b) (h : rP a b x y = none) : addBad a b x y = true:=by
 rw [addBad_val]
 rcases rP_cases hA hB x y with ⟨_,h⟩ | ⟨h',_⟩
 ·rcases Bool.or_eq_true_iff.1 h with h | h <;> rw [h] <;> simp
 rw [h'] at h; cases h
theorem bad4 {a b : ExpD} {x y : Nat} (hA : Fits a) (hB : Fits b) (h : rN a b x y = none) : addBad a b x y = true:=by
 rw [addBad_val]
 rcases rN_cases hA hB x y with ⟨_,h⟩ | ⟨h',_⟩
 ·rcases Bool.or_eq_true_iff.1 h with h | h <;> rw [h] <;> simp
 rw [h'] at h; cases h
theorem good5 {a b : ExpD} {x y : Nat} {p n : Int × List Int} (hA : Fits a) (hB : Fits b) (h1 : (!(decide (x64 (a.count + b.count) ≥ a.count))) = false) (h2 : (!(decide (x64 (a.zero + b.zero) ≥ a.zero))) = false)
  (hp : rP a b x y = some p) (hn : rN a b x y = some n) : addBad a b x y = false ∧ p = trim (addP a b x y).1 (addP a b x y).2.1 ∧ n = trim (addNn a b x y).1 (addNn a b x y).2.1:=by
 rw [not_ge'] at h1 h2
 rcases rP_cases hA hB x y with ⟨h',_⟩ | ⟨h3,h4⟩
 ·rw [h'] at hp; cases hp
 rcases rN_cases hA hB x y with ⟨h',_⟩ | ⟨h5,h6⟩
 ·rw [h'] at hn; cases hn
 rw [hp] at h3
 rw [hn] at h5
 refine ⟨?_,Option.some.inj h3,Option.some.inj h5⟩
 simp only [Bool.or_eq_false_iff] at h4 h6
 rw [addBad_val,h4.1,h4.2,h6.1,h6.2]
 unfold cntBad
 rw [h1,h2]; rfl
end Sx
namespace Sx
open Go Go.Proofs
open Go.Proofs.SxPu (addV subV)
set_option maxRecDepth 30000
variable {G : Glob}
structure EOk (e : ExpD) : Prop where
 f : Fits e
 rP : R64 e.cP
 rN : R64 e.cN
 u : e.UE
def zE (a b : ExpD) : Int:=bif a.sumH && b.sumH then addV a.sum b.sum else 0
def mkE (a b : ExpD) (s z : Int) (P N : Int × List Int) (hp hn : Bool) : ExpD :=
 ({ b with start:=a.start,scale:=s,count:=x64 (a.count + b.count),zero:=x64 (a.zero + b.zero),sumH:=a.sumH && b.sumH,sum:=z,minH:=a.minH && b.minH,min:=bif a.minH && b.minH then minV a.min b.min else 0,maxH:=a.maxH && b.maxH,max:=bif a.maxH && b.maxH then maxV a.max b.max else 0,hasP:=hp,hasN:=hn }).lay P N
def rexpT : List U → Out SV
 | [.a la,.a lb,.c (.v (.int .i64 most))]=>match asExp la,asExp lb with
  | some a,some b=>.need (EOk a ∧ EOk b) (wp1 (a.thr != b.thr) fun c=>bif c then .ret (.t [.a (noE 0).cells,.c (I64 13)]) else
   .all (Option (Int × Int × Int)) (fun o=>shV a b most = o) ⟨_,rfl⟩ fun o=>match o with
   | none=>.ret (.t [.a (noE 0).cells,.c (I64 9)])
   | some r=>wp1 (addBad a b r.1.toNat r.2.1.toNat) fun c=>bif c then .ret (.t [.a (noE 0).cells,.c (I64 9)]) else .ret (.t [.a (addE a b r.1.toNat r.2.1.toNat r.2.2 (zE a b)).cells,.c (I64 0)]))
  | _,_=>.fail
 | _=>.fail
theorem cntV_r {h : Bool} {l : List Int} (hl : R64 l) : R64 (cntV h l):=bif_r hl
def sR (a b : ExpD) (r : Int × Int × Int) : Int:=w64 (lesser (w64 a.scale) (w64 b.scale) - (lesser a.scale b.scale - r.2.2))
def xR (a b c : ExpD) (r : Int × Int × Int) : Int:=w64 (w64 c.scale - sR a b r)
theorem sh_facts {a b : ExpD} {most : Int} {r : Int × Int × Int} (hA : Fits a) (hB : Fits b) (h : shV a b most = some r) :
  sR a b r = r.2.2 ∧ xR a b a r = r.1 ∧ xR a b b r = r.2.1 ∧ InS r.1 ∧ InS r.2.1 ∧ -2147483648 ≤ r.2.2 ∧ r.2.2 < 2147483648:=by
 obtain ⟨_,_,_,_,_,_,a7,a8⟩:=hA
 obtain ⟨_,_,_,_,_,_,b7,b8⟩:=hB
 have le:=lesser_le a.scale b.scale
 have ws : lesser (w64 a.scale) (w64 b.scale) = lesser a.scale b.scale:=by rw [w64_eq (n:=a.scale) (by omega),w64_eq (n:=b.scale) (by omega)]
 unfold shV at h
 obtain ⟨j,h1,rfl,h3,h4,h5,h6,h7,_⟩:=shGo_spec h
 have hs : sR a b (a.scale - lesser a.scale b.scale + (j : Int),b.scale - lesser a.scale b.scale + (j : Int),lesser a.scale b.scale - (j : Int)) = lesser a.scale b.scale - (j : Int):=by
  unfold sR; rw [ws]; simp only; rw [w64_eq (by omega)]; omega
 refine ⟨hs,?_,?_,⟨?_,h5⟩,⟨?_,h6⟩,?_,?_⟩
 ·unfold xR; rw [hs,w64_eq (n:=a.scale) (by omega),w64_eq (by omega)]; simp only; omega
 ·unfold xR; rw [hs,w64_eq (n:=b.scale) (by omega),w64_eq (by omega)]; simp only; omega
 ·simp only; omega
 ·simp only; omega
 ·simp only
  by_cases hj : j = 0
  ·subst hj; omega
  have:=h7 (by omega); omega
 simp only; omega
set_option maxHeartbeats 4000000 in
theorem rexp_ex : Ok G 83 rexpT:=by
 have hS : AllSound (B [(123,.pure (normG (B []) [44,44,3] leastT)),(126,.pure (normG (B []) [31,31] rsumT)),(125,.pure (normG (B []) [4,42] sideRT)),(124,.pure (normG (B []) [42,42,3,3] sidesT)),(127,.pure (normG (B []) [220,220] optsT))]) G:=.cons _ least_ex (.cons _ rsum_ex (.cons _ sideR_ex (.cons _ sides_ex (.cons _ opts_ex noneS))))
 refine okP hS Tryz.func83 rfl (by decide) fun K us hk=>?_
 unfold rexpT at hk
 split at hk
 ·rename_i la lb most
  split at hk
  ·rename_i a b ha hb
   rw [asExp_eq ha,asExp_eq hb]
   refine ⟨by show 3 ≤ _; decide,?_⟩
   obtain ⟨⟨⟨hA,rPa,rNa,uA⟩,hB,rPb,rNb,uB⟩,hk⟩:=hk
   have hk:=hk _ rfl
   have iP1 : InB (offV a.hasP a.offP) (cntV a.hasP a.cP):=inB_of ⟨hA.2.2.1,hA.2.2.2.1⟩ hA.1
   have iP2 : InB (offV b.hasP b.offP) (cntV b.hasP b.cP):=inB_of ⟨hB.2.2.1,hB.2.2.2.1⟩ hB.1
   have iN1 : InB (offV a.hasN a.offN) (cntV a.hasN a.cN):=inB_of ⟨hA.2.2.2.2.1,hA.2.2.2.2.2.1⟩ hA.2.1
   have iN2 : InB (offV b.hasN b.offN) (cntV b.hasN b.cN):=inB_of ⟨hB.2.2.2.2.1,hB.2.2.2.2.2.1⟩ hB.2.1
   conv=>whnf
   refine Ask.i (fun c1=>?_) (fun c1=>?_)
   ·have c1 : (a.thr != b.thr) = true:=c1
    rw [c1] at hk
    conv=>whnf
    exact hk
   have c1 : (a.thr != b.thr) = false:=c1
   rw [c1] at hk
   conv=>whnf
   refine ⟨⟨hA,hB⟩,?_⟩;conv=>whnf
   intro o ho
   have ho : shV a b most = o:=ho
   have hk:=hk o ho
   cases o with
   | none =>
    conv=>whnf
    exact hk
   | some r =>
   have hk : (wp1 (addBad a b r.1.toNat r.2.1.toNat) fun c=>bif c then .ret (.t [.a (noE 0).cells,.c (I64 9)]) else .ret (.t [.a (addE a b r.1.toNat r.2.1.toNat r.2.2 (zE a b)).cells,.c (I64 0)])).wp K:=hk
   obtain ⟨es,ex,ey,sx,sy,_⟩:=sh_facts hA hB ho
   conv=>whnf
   refine ⟨mixed,[],[(1,[]),(6,[])],[],by kernel_rfl,?_⟩;conv=>whnf
   refine ⟨mixed,[(17,[18])],[(1,[]),(3,[]),(4,[]),(6,[]),(8,[]),(9,[]),(12,[])],[],by kernel_rfl,?_⟩;conv=>whnf
   have sx' : InS (xR a b a r):=by rw [ex]; exact sx
   have sy' : InS (xR a b b r):=by rw [ey]; exact sy
   refine ⟨⟨⟨iP1,sx',cntV_r rPa⟩,iP2,sy',cntV_r rPb⟩,?_⟩;conv=>whnf
   intro oP hP
   have hP : oursV (offV a.hasP a.offP) (cntV a.hasP a.cP) (offV b.hasP b.offP) (cntV b.hasP b.cP) (xR a b a r).toNat (xR a b b r).toNat = oP:=hP
   rw [ex,ey] at hP
   have hP : rP a b r.1.toNat r.2.1.toNat = oP:=hP
   have stop : addBad a b r.1.toNat r.2.1.toNat = true → K (.t [.a (noE 0).cells,.c (I64 9)]):=fun h=>hk true h
   cases oP with
   | none =>
    conv=>whnf
    refine ⟨mixed,[(17,[20])],[(1,[]),(3,[]),(4,[]),(6,[]),(8,[]),(9,[]),(12,[])],[],by kernel_rfl,?_⟩;conv=>whnf
    refine ⟨⟨⟨iN1,sx',cntV_r rNa⟩,iN2,sy',cntV_r rNb⟩,?_⟩;conv=>whnf
    intro oN hN
    have hN : oursV (offV a.hasN a.offN) (cntV a.hasN a.cN) (offV b.hasN b.offN) (cntV b.hasN b.cN) (xR a b a r).toNat (xR a b b r).toNat = oN:=hN
    rw [ex,ey] at hN
    have hN : rN a b r.1.toNat r.2.1.toNat = oN:=hN
    cases oN with
    | none =>
     conv=>whnf
     refine Ask.i (fun c2=>?_) (fun c2=>?_)
     ·have c2 : (!(decide (x64 (a.count + b.count) ≥ a.count))) = true:=c2
      conv=>whnf
      exact stop (bad1 c2)
     have c2 : (!(decide (x64 (a.count + b.count) ≥ a.count))) = false:=c2;conv=>whnf
     refine Ask.i (fun c3=>?_) (fun c3=>?_)
     ·have c3 : (!(decide (x64 (a.zero + b.zero) ≥ a.zero))) = true:=c3
      conv=>whnf
      exact stop (bad2 c3)
     have c3 : (!(decide (x64 (a.zero + b.zero) ≥ a.zero))) = false:=c3;conv=>whnf
     exact stop (bad3 hA hB hP)
    | some pn =>
     conv=>whnf
     refine Ask.i (fun c2=>?_) (fun c2=>?_)
     ·have c2 : (!(decide (x64 (a.count + b.count) ≥ a.count))) = true:=c2
      conv=>whnf
      exact stop (bad1 c2)
     have c2 : (!(decide (x64 (a.count + b.count) ≥ a.count))) = false:=c2;conv=>whnf
     refine Ask.i (fun c3=>?_) (fun c3=>?_)
     ·have c3 : (!(decide (x64 (a.zero + b.zero) ≥ a.zero))) = true:=c3
      conv=>whnf
      exact stop (bad2 c3)
     have c3 : (!(decide (x64 (a.zero + b.zero) ≥ a.zero))) = false:=c3;conv=>whnf
     exact stop (bad3 hA hB hP)
   | some pp =>
    conv=>whnf
    refine ⟨mixed,[(17,[20])],[(1,[]),(3,[]),(4,[]),(6,[]),(8,[]),(9,[]),(12,[])],[],by kernel_rfl,?_⟩;conv=>whnf
    refine ⟨⟨⟨iN1,sx',cntV_r rNa⟩,iN2,sy',cntV_r rNb⟩,?_⟩;conv=>whnf
    intro oN hN
    have hN : oursV (offV a.hasN a.offN) (cntV a.hasN a.cN) (offV b.hasN b.offN) (cntV b.hasN b.cN) (xR a b a r).toNat (xR a b b r).toNat = oN:=hN
    rw [ex,ey] at hN
    have hN : rN a b r.1.toNat r.2.1.toNat = oN:=hN
    cases oN with
    | none =>
     conv=>whnf
     refine Ask.i (fun c2=>?_) (fun c2=>?_)
     ·have c2 : (!(decide (x64 (a.count + b.count) ≥ a.count))) = true:=c2
      conv=>whnf
      exact stop (bad1 c2)
     have c2 : (!(decide (x64 (a.count + b.count) ≥ a.count))) = false:=c2;conv=>whnf
     refine Ask.i (fun c3=>?_) (fun c3=>?_)
     ·have c3 : (!(decide (x64 (a.zero + b.zero) ≥ a.zero))) = true:=c3
      conv=>whnf
      exact stop (bad2 c3)
     have c3 : (!(decide (x64 (a.zero + b.zero) ≥ a.zero))) = false:=c3;conv=>whnf
     exact stop (bad4 hA hB hN)
    | some pn =>
     conv=>whnf
     refine Ask.i (fun c2=>?_) (fun c2=>?_)
     ·have c2 : (!(decide (x64 (a.count + b.count) ≥ a.count))) = true:=c2
      conv=>whnf
      exact stop (bad1 c2)
     have c2 : (!(decide (x64 (a.count + b.count) ≥ a.count))) = false:=c2;conv=>whnf
     refine Ask.i (fun c3=>?_) (fun c3=>?_)
     ·have c3 : (!(decide (x64 (a.zero + b.zero) ≥ a.zero))) = true:=c3
      conv=>whnf
      exact stop (bad2 c3)
     have c3 : (!(decide (x64 (a.zero + b.zero) ≥ a.zero))) = false:=c3;conv=>whnf
     obtain ⟨g1,rfl,rfl⟩:=good5 hA hB c2 c3 hP hN
     have hk : K (.t [.a (addE a b r.1.toNat r.2.1.toNat r.2.2 (zE a b)).cells,.c (I64 0)]):=hk false g1
     refine ⟨mixed,[(5,[13]),(7,[13]),(9,[13]),(11,[13])],[(2,[13]),(3,[13])],[],by kernel_rfl,?_⟩;conv=>whnf
     refine ⟨mixed,[(13,[13]),(15,[13])],[(1,[]),(4,[]),(7,[]),(10,[13])],[],by kernel_rfl,?_⟩;conv=>whnf
     refine Ask.i (fun q1=>?_) (fun q1=>?_)
     ·have q1 : a.hasP = true:=q1
      conv=>whnf
      refine Ask.i (fun q2=>?_) (fun q2=>?_)
      ·have q2 : a.hasN = true:=q2
       conv=>whnf
       refine ⟨⟨⟨uA.sm,uB.sm⟩,⟨uA.mn,uB.mn⟩,uA.mx,uB.mx⟩,?_⟩;conv=>whnf
       refine ⟨mixed,[(7,[13]),(9,[13]),(11,[13])],[(0,[]),(1,[]),(2,[13]),(3,[13]),(4,[13]),(5,[13])],[],by kernel_rfl,?_⟩;conv=>whnf
       first | (refine ⟨by decide,?_⟩; conv=>whnf) | skip
       first | (refine ⟨by decide,?_⟩; conv=>whnf) | skip
       first | (refine ⟨by decide,?_⟩; conv=>whnf) | skip
       have e : addE a b r.1.toNat r.2.1.toNat r.2.2 (zE a b) = mkE a b (w32 (sR a b r)) (zE a b) (trim (addP a b r.1.toNat r.2.1.toNat).1 (addP a b r.1.toNat r.2.1.toNat).2.1) (trim (addNn a b r.1.toNat r.2.1.toNat).1 (addNn a b r.1.toNat r.2.1.toNat).2.1) (true) (true):=by
        rw [es]; show mkE a b _ _ _ _ (a.hasP || b.hasP) (a.hasN || b.hasN) = _; rw [q1,q2]; rfl
       rw [e] at hk
       exact hk
      have q2 : a.hasN = false:=q2;conv=>whnf
      refine ⟨⟨⟨uA.sm,uB.sm⟩,⟨uA.mn,uB.mn⟩,uA.mx,uB.mx⟩,?_⟩;conv=>whnf
      refine ⟨mixed,[(7,[13]),(9,[13]),(11,[13])],[(0,[]),(1,[]),(2,[13]),(3,[13]),(4,[13]),(5,[13])],[],by kernel_rfl,?_⟩;conv=>whnf
      first | (refine ⟨by decide,?_⟩; conv=>whnf) | skip
      first | (refine ⟨by decide,?_⟩; conv=>whnf) | skip
      first | (refine ⟨by decide,?_⟩; conv=>whnf) | skip
      have e : addE a b r.1.toNat r.2.1.toNat r.2.2 (zE a b) = mkE a b (w32 (sR a b r)) (zE a b) (trim (addP a b r.1.toNat r.2.1.toNat).1 (addP a b r.1.toNat r.2.1.toNat).2.1) (trim (addNn a b r.1.toNat r.2.1.toNat).1 (addNn a b r.1.toNat r.2.1.toNat).2.1) (true) (b.hasN):=by
       rw [es]; show mkE a b _ _ _ _ (a.hasP || b.hasP) (a.hasN || b.hasN) = _; rw [q1,q2]; rfl
      rw [e] at hk
      exact hk
     have q1 : a.hasP = false:=q1;conv=>whnf
     refine Ask.i (fun q2=>?_) (fun q2=>?_)
     ·have q2 : a.hasN = true:=q2
      conv=>whnf
      refine ⟨⟨⟨uA.sm,uB.sm⟩,⟨uA.mn,uB.mn⟩,uA.mx,uB.mx⟩,?_⟩;conv=>whnf
      refine ⟨mixed,[(7,[13]),(9,[13]),(11,[13])],[(0,[]),(1,[]),(2,[13]),(3,[13]),(4,[13]),(5,[13])],[],by kernel_rfl,?_⟩;conv=>whnf
      first | (refine ⟨by decide,?_⟩; conv=>whnf) | skip
      first | (refine ⟨by decide,?_⟩; conv=>whnf) | skip
      first | (refine ⟨by decide,?_⟩; conv=>whnf) | skip
      have e : addE a b r.1.toNat r.2.1.toNat r.2.2 (zE a b) = mkE a b (w32 (sR a b r)) (zE a b) (trim (addP a b r.1.toNat r.2.1.toNat).1 (addP a b r.1.toNat r.2.1.toNat).2.1) (trim (addNn a b r.1.toNat r.2.1.toNat).1 (addNn a b r.1.toNat r.2.1.toNat).2.1) (b.hasP) (true):=by
       rw [es]; show mkE a b _ _ _ _ (a.hasP || b.hasP) (a.hasN || b.hasN) = _; rw [q1,q2]; rfl
      rw [e] at hk
      exact hk
     have q2 : a.hasN = false:=q2;conv=>whnf
     refine ⟨⟨⟨uA.sm,uB.sm⟩,⟨uA.mn,uB.mn⟩,uA.mx,uB.mx⟩,?_⟩;conv=>whnf
     refine ⟨mixed,[(7,[13]),(9,[13]),(11,[13])],[(0,[]),(1,[]),(2,[13]),(3,[13]),(4,[13]),(5,[13])],[],by kernel_rfl,?_⟩;conv=>whnf
     first | (refine ⟨by decide,?_⟩; conv=>whnf) | skip
     first | (refine ⟨by decide,?_⟩; conv=>whnf) | skip
     first | (refine ⟨by decide,?_⟩; conv=>whnf) | skip
     have e : addE a b r.1.toNat r.2.1.toNat r.2.2 (zE a b) = mkE a b (w32 (sR a b r)) (zE a b) (trim (addP a b r.1.toNat r.2.1.toNat).1 (addP a b r.1.toNat r.2.1.toNat).2.1) (trim (addNn a b r.1.toNat r.2.1.toNat).1 (addNn a b r.1.toNat r.2.1.toNat).2.1) (b.hasP) (b.hasN):=by
      rw [es]; show mkE a b _ _ _ _ (a.hasP || b.hasP) (a.hasN || b.hasN) = _; rw [q1,q2]; rfl
     rw [e] at hk
     exact hk
  exact hk.elim
 exact hk.elim
end Sx
namespace Sx
open Go Go.Proofs
set_option maxRecDepth 30000
variable {G : Glob}
theorem one_nil {f : Int} {l : List Int} (h : InB f l) (n m : Nat) : oneSide (trim f l) (trim 0 []) n m false = downL f l n false:=by
 have e : downL (trim f l).1 (trim f l).2 n false = downL f l n false:=down_trim h n
 show addL ((downL (trim f l).1 (trim f l).2 n false).1,(downL (trim f l).1 (trim f l).2 n false).2.1) (0,[]) (downL (trim f l).1 (trim f l).2 n false).2.2 = _
 rw [e]
 have h0 : (downL f l n false).2.1 = [] → (downL f l n false).1 = 0:=by
  unfold downL
  generalize trim f l = t
  obtain ⟨g,c⟩:=t
  cases c with
  | nil=>exact fun _=>rfl
  | cons a r =>
   intro h
   have hl:=congrArg List.length h
   simp only [downGo_len,List.length_replicate,List.length_nil] at hl
   have:=place_lt (f:=g) (a:=a) (r:=r) (n:=n) (j:=0) (by simp)
   omega
 generalize downL f l n false = d at *
 obtain ⟨o,c,bd⟩:=d
 cases c with
 | nil=>rw [show o = 0 from h0 rfl]; rfl
 | cons a r=>rfl
def fP (e : ExpD) (n : Nat) : Option (Int × List Int):=oursV (offV e.hasP e.offP) (cntV e.hasP e.cP) 0 [] n n
def fN (e : ExpD) (n : Nat) : Option (Int × List Int):=oursV (offV e.hasN e.offN) (cntV e.hasN e.cN) 0 [] n n
theorem fP_cases {e : ExpD} (h : Fits e) (n : Nat) : (fP e n = none ∧ ((rawP e n false).2.2 || bigS (rawP e n false).1 (rawP e n false).2.1) = true) ∨ (fP e n = some (trim (rawP e n false).1 (rawP e n false).2.1) ∧ ((rawP e n false).2.2 || bigS (rawP e n false).1 (rawP e n false).2.1) = false):=by
 have hb : InB (offV e.hasP e.offP) (cntV e.hasP e.cP):=inB_of ⟨h.2.2.1,h.2.2.2.1⟩ h.1
 have hr : rawP e n false = downL (offV e.hasP e.offP) (cntV e.hasP e.cP) n false:=by
  unfold rawP; rw [w64_eq (n:=e.offP) (by have:=h.2.2.1; have:=h.2.2.2.1; omega)]; rfl
 have:=ours_cases (offV e.hasP e.offP) (cntV e.hasP e.cP) 0 [] n n
 rw [one_nil hb] at this
 rw [hr]
 exact this
theorem fN_cases {e : ExpD} (h : Fits e) (n : Nat) : (fN e n = none ∧ ((rawN e n false).2.2 || bigS (rawN e n false).1 (rawN e n false).2.1) = true) ∨ (fN e n = some (trim (rawN e n false).1 (rawN e n false).2.1) ∧ ((rawN e n false).2.2 || bigS (rawN e n false).1 (rawN e n false).2.1) = false):=by
 have hb : InB (offV e.hasN e.offN) (cntV e.hasN e.cN):=inB_of ⟨h.2.2.2.2.1,h.2.2.2.2.2.1⟩ h.2.1
 have hr : rawN e n false = downL (offV e.hasN e.offN) (cntV e.hasN e.cN) n false:=by
  unfold rawN; rw [w64_eq (n:=e.offN) (by have:=h.2.2.2.2.1; have:=h.2.2.2.2.2.1; omega)]; rfl
 have:=ours_cases (offV e.hasN e.offN) (cntV e.hasN e.cN) 0 [] n n
 rw [one_nil hb] at this
 rw [hr]
 exact this
theorem rawN_flag (e : ExpD) (n : Nat) (bad : Bool) : rawN e n bad = ((rawN e n false).1,(rawN e n false).2.1,bad || (rawN e n false).2.2):=downL_flag _ _ _ _
theorem fitBad_val (e : ExpD) (n : Nat) : fitBad e n = (((rawP e n false).2.2 || (rawN e n false).2.2) || (bigS (rawP e n false).1 (rawP e n false).2.1 || bigS (rawN e n false).1 (rawN e n false).2.1)):=by
 unfold fitBad; rw [rawN_flag e n (rawP e n false).2.2]
theorem fitE_val (e : ExpD) (n : Nat) (s : Int) : fitE e n s = ({ e with scale:=w32 s }).lay (trim (rawP e n false).1 (rawP e n false).2.1) (trim (rawN e n false).1 (rawN e n false).2.1):=by
 unfold fitE; rw [rawN_flag e n (rawP e n false).2.2]
theorem fbad1 {e : ExpD} {n : Nat} (h : Fits e) (hp : fP e n = none) : fitBad e n = true:=by
 rw [fitBad_val]
 rcases fP_cases h n with ⟨_,h⟩ | ⟨h',_⟩
 ·rcases Bool.or_eq_true_iff.1 h with h | h <;> rw [h] <;> simp
 rw [h'] at hp; cases hp
theorem fbad2 {e : ExpD} {n : Nat} (h : Fits e) (hp : fN e n = none) : fitBad e n = true:=by
 rw [fitBad_val]
 rcases fN_cases h n with ⟨_,h⟩ | ⟨h',_⟩
 ·rcases Bool.or_eq_true_iff.1 h with h | h <;> rw [h] <;> simp
 rw [h'] at hp; cases hp
theorem fgood {e : ExpD} {n : Nat} {p q : Int × List Int} (h : Fits e) (hp : fP e n = some p) (hq : fN e n = some q) : fitBad e n = false ∧ p = trim (rawP e n false).1 (rawP e n false).2.1 ∧ q = trim (rawN e n false).1 (rawN e n false).2.1:=by
 rcases fP_cases h n with ⟨h',_⟩ | ⟨h3,h4⟩
 ·rw [h'] at hp; cases hp
 rcases fN_cases h n with ⟨h',_⟩ | ⟨h5,h6⟩
 ·rw [h'] at hq; cases hq
 rw [hp] at h3
 rw [hq] at h5
 refine ⟨?_,Option.some.inj h3,Option.some.inj h5⟩
 simp only [Bool.or_eq_false_iff] at h4 h6
 rw [fitBad_val,h4.1,h4.2,h6.1,h6.2]; rfl
def rfitT : List U → Out SV
 | [.a l,.c (.v (.int .i64 most))]=>match asExp l with
  | some e=>.need (EOk e) (.all (Option (Int × Int × Int)) (fun o=>shV e (noE e.scale) most = o) ⟨_,rfl⟩ fun o=>match o with
   | none=>.ret (.t [.a (noE 0).cells,.c (I64 9)])
   | some r=>wp1 (fitBad e r.1.toNat) fun c=>bif c then .ret (.t [.a (noE 0).cells,.c (I64 9)]) else .ret (.t [.a (fitE e r.1.toNat r.2.2).cells,.c (I64 0)]))
  | none=>.fail
 | _=>.fail
def dR (e : ExpD) (r : Int × Int × Int) : Int:=lesser e.scale e.scale - r.2.2
theorem fit_facts {e : ExpD} {most : Int} {r : Int × Int × Int} (hA : Fits e) (h : shV e (noE e.scale) most = some r) : dR e r = r.1 ∧ InS r.1 ∧ w64 (w64 e.scale - dR e r) = r.2.2:=by
 obtain ⟨_,_,_,_,_,_,a7,a8⟩:=hA
 unfold shV at h
 rw [show (noE e.scale).scale = e.scale from rfl,lesser_self] at h
 obtain ⟨j,h1,rfl,h3,h4,h5,h6,h7,_⟩:=shGo_spec h
 have hd : dR e (e.scale - e.scale + (j : Int),e.scale - e.scale + (j : Int),e.scale - (j : Int)) = e.scale - e.scale + (j : Int):=by
  unfold dR; rw [lesser_self]; simp only; omega
 refine ⟨hd,⟨?_,h5⟩,?_⟩
 ·simp only; omega
 rw [hd,w64_eq (n:=e.scale) (by omega)]; simp only; rw [w64_eq (by omega)]; omega
set_option maxHeartbeats 2000000 in
theorem rfit_ex : Ok G 81 rfitT:=by
 have hS : AllSound (B [(123,.pure (normG (B []) [44,44,3] leastT)),(125,.pure (normG (B []) [4,42] sideRT)),(124,.pure (normG (B []) [42,42,3,3] sidesT))]) G:=.cons _ least_ex (.cons _ sideR_ex (.cons _ sides_ex noneS))
 refine okP hS Tryz.func81 rfl (by decide) fun K us hk=>?_
 unfold rfitT at hk
 split at hk
 ·rename_i l most
  split at hk
  ·rename_i e he
   rw [asExp_eq he]
   refine ⟨by show 2 ≤ _; decide,?_⟩
   obtain ⟨⟨hF,rPe,rNe,uE⟩,hk⟩:=hk
   have iP : InB (offV e.hasP e.offP) (cntV e.hasP e.cP):=inB_of ⟨hF.2.2.1,hF.2.2.2.1⟩ hF.1
   have iN : InB (offV e.hasN e.offN) (cntV e.hasN e.cN):=inB_of ⟨hF.2.2.2.2.1,hF.2.2.2.2.2.1⟩ hF.2.1
   have i0 : InB 0 []:=⟨by decide,by decide,by decide⟩
   have r0 : R64 []:=fun x hx=>by cases hx
   conv=>whnf
   refine ⟨⟨hF,by show Fits (noE e.scale); exact ⟨by simp [noE],by simp [noE],by simp [noE],by simp [noE],by simp [noE],by simp [noE],hF.2.2.2.2.2.2⟩⟩,?_⟩;conv=>whnf
   intro o ho
   have ho : shV e (noE e.scale) most = o:=ho
   have hk:=hk o ho
   cases o with
   | none =>
    conv=>whnf
    exact hk
   | some r =>
   have hk : (wp1 (fitBad e r.1.toNat) fun c=>bif c then .ret (.t [.a (noE 0).cells,.c (I64 9)]) else .ret (.t [.a (fitE e r.1.toNat r.2.2).cells,.c (I64 0)])).wp K:=hk
   obtain ⟨ed,sd,es⟩:=fit_facts hF ho
   have sd' : InS (dR e r):=by rw [ed]; exact sd
   have stop : fitBad e r.1.toNat = true → K (.t [.a (noE 0).cells,.c (I64 9)]):=fun h=>hk true h
   conv=>whnf
   refine ⟨⟨⟨iP,sd',cntV_r rPe⟩,i0,sd',r0⟩,?_⟩;conv=>whnf
   intro oP hP
   have hP : oursV (offV e.hasP e.offP) (cntV e.hasP e.cP) 0 [] (dR e r).toNat (dR e r).toNat = oP:=hP
   rw [ed] at hP
   have hP : fP e r.1.toNat = oP:=hP
   cases oP with
   | none =>
    conv=>whnf
    refine ⟨⟨⟨iN,sd',cntV_r rNe⟩,i0,sd',r0⟩,?_⟩;conv=>whnf
    intro oN hN
    cases oN with
    | none =>
     conv=>whnf
     exact stop (fbad1 hF hP)
    | some q =>
     conv=>whnf
     exact stop (fbad1 hF hP)
   | some p =>
    conv=>whnf
    refine ⟨⟨⟨iN,sd',cntV_r rNe⟩,i0,sd',r0⟩,?_⟩;conv=>whnf
    intro oN hN
    have hN : oursV (offV e.hasN e.offN) (cntV e.hasN e.cN) 0 [] (dR e r).toNat (dR e r).toNat = oN:=hN
    rw [ed] at hN
    have hN : fN e r.1.toNat = oN:=hN
    cases oN with
    | none =>
     conv=>whnf
     exact stop (fbad2 hF hN)
    | some q =>
     obtain ⟨g1,rfl,rfl⟩:=fgood hF hP hN
     have hk : K (.t [.a (fitE e r.1.toNat r.2.2).cells,.c (I64 0)]):=hk false g1
     conv=>whnf
     refine ⟨mixed,[(9,[13]),(11,[13]),(13,[13])],[(1,[]),(6,[13]),(7,[13])],[],by kernel_rfl,?_⟩;conv=>whnf
     rw [fitE_val,← es] at hk
     exact hk
  exact hk.elim
 exact hk.elim
end Sx
