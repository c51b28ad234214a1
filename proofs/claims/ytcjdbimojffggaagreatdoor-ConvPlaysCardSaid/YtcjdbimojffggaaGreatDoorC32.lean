/- Part of the proof: a machine of states for walks, and contracts of functions over it. Conditions: those that each theorem names. -/
import Derived.Test.YtcjdbimojffggaaGreatDoorC31
import Derived.Test.YtcjdbimojffggaaGreatDoorC24
import Derived.Test.YtcjdbimojffggaaGreatDoorC25
import Derived.Test.YtcjdbimojffggaaGreatDoorC30
import Derived.Test.YtcjdbimojffggaaGreatDoorC27
import Derived.Test.YtcjdbimojffggaaGreatDoorC17
set_option linter.unusedVariables false
set_option linter.unusedSimpArgs false
namespace Sx
open Go Go.Proofs
open Go.Proofs.SxPu (addV subV)
set_option maxRecDepth 30000
variable {G : Glob}
theorem takeL_flag (s t : Int × List Int) (bad : Bool) : takeL s t bad = ((takeL s t false).1,bad || (takeL s t false).2):=takeGo_flag _ _ _ _ _
def tP (a b : ExpD) : List Int × Bool:=takeL (rsP a) (rsP b) false
def tN (a b : ExpD) : List Int × Bool:=takeL (rsN a) (rsN b) false
theorem lexP_val (a b : ExpD) : lexP a b = ((tP a b).1,lexCnt a b || (tP a b).2):=takeL_flag _ _ _
theorem lexN_val (a b : ExpD) : lexN a b = ((tN a b).1,(lexP a b).2 || (tN a b).2):=takeL_flag _ _ _
theorem lexBad_val (a b : ExpD) : lexBad a b = (((lexCnt a b || (tP a b).2) || (tN a b).2) || (bigS (rsP a).1 (tP a b).1 || bigS (rsN a).1 (tN a b).1)):=by
 unfold lexBad; rw [lexN_val,lexP_val]
theorem rsP_of {e : ExpD} (h : Fits e) : rsP e = (offV e.hasP e.offP,cntV e.hasP e.cP):=by
 unfold rsP; rw [w64_eq (n:=e.offP) (by have:=h.2.2.1; have:=h.2.2.2.1; omega)]; rfl
theorem rsN_of {e : ExpD} (h : Fits e) : rsN e = (offV e.hasN e.offN,cntV e.hasN e.cN):=by
 unfold rsN; rw [w64_eq (n:=e.offN) (by have:=h.2.2.2.2.1; have:=h.2.2.2.2.2.1; omega)]; rfl
theorem ourL_cases (s t : Int × List Int) : (ourL s.1 s.2 t.1 t.2 = none ∧ ((takeL s t false).2 || bigS s.1 (takeL s t false).1) = true) ∨ (ourL s.1 s.2 t.1 t.2 = some (trim s.1 (takeL s t false).1) ∧ ((takeL s t false).2 || bigS s.1 (takeL s t false).1) = false):=by
 unfold ourL
 show ((bif (takeL s t false).2 || bigS s.1 (takeL s t false).1 then none else some (trim s.1 (takeL s t false).1)) = none ∧ _) ∨ ((bif (takeL s t false).2 || bigS s.1 (takeL s t false).1 then none else some (trim s.1 (takeL s t false).1)) = _ ∧ _)
 cases h : ((takeL s t false).2 || bigS s.1 (takeL s t false).1)
 ·exact .inr ⟨rfl,rfl⟩
 exact .inl ⟨rfl,rfl⟩
def qP (a b : ExpD) : Option (Int × List Int):=ourL (offV a.hasP a.offP) (cntV a.hasP a.cP) (offV b.hasP b.offP) (cntV b.hasP b.cP)
def qN (a b : ExpD) : Option (Int × List Int):=ourL (offV a.hasN a.offN) (cntV a.hasN a.cN) (offV b.hasN b.offN) (cntV b.hasN b.cN)
theorem qP_cases {a b : ExpD} (hA : Fits a) (hB : Fits b) : (qP a b = none ∧ ((tP a b).2 || bigS (rsP a).1 (tP a b).1) = true) ∨ (qP a b = some (trim (rsP a).1 (tP a b).1) ∧ ((tP a b).2 || bigS (rsP a).1 (tP a b).1) = false):=by
 have:=ourL_cases (rsP a) (rsP b)
 unfold qP
 rw [rsP_of hA,rsP_of hB] at this
 unfold tP
 rw [rsP_of hA,rsP_of hB]
 exact this
theorem qN_cases {a b : ExpD} (hA : Fits a) (hB : Fits b) : (qN a b = none ∧ ((tN a b).2 || bigS (rsN a).1 (tN a b).1) = true) ∨ (qN a b = some (trim (rsN a).1 (tN a b).1) ∧ ((tN a b).2 || bigS (rsN a).1 (tN a b).1) = false):=by
 have:=ourL_cases (rsN a) (rsN b)
 unfold qN
 rw [rsN_of hA,rsN_of hB] at this
 unfold tN
 rw [rsN_of hA,rsN_of hB]
 exact this
theorem lbad1 {a b : ExpD} (h : b.count > a.count) : lexBad a b = true:=by
 rw [lexBad_val]; unfold lexCnt; rw [decide_eq_true (show a.count < b.count from h)]; simp
theorem lbad2 {a b : ExpD} (h : b.zero > a.zero) : lexBad a b = true:=by
 rw [lexBad_val]; unfold lexCnt; rw [decide_eq_true (show a.zero < b.zero from h)]; simp
theorem lbad3 {a b : ExpD} (hA : Fits a) (hB : Fits b) (h : qP a b = none) : lexBad a b = true:=by
 rw [lexBad_val]
 rcases qP_cases hA hB with ⟨_,h⟩ | ⟨h',_⟩
 ·rcases Bool.or_eq_true_iff.1 h with h | h <;> rw [h] <;> simp
 rw [h'] at h; cases h
theorem lbad4 {a b : ExpD} (hA : Fits a) (hB : Fits b) (h : qN a b = none) : lexBad a b = true:=by
 rw [lexBad_val]
 rcases qN_cases hA hB with ⟨_,h⟩ | ⟨h',_⟩
 ·rcases Bool.or_eq_true_iff.1 h with h | h <;> rw [h] <;> simp
 rw [h'] at h; cases h
theorem lgood {a b : ExpD} {p n : Int × List Int} (hA : Fits a) (hB : Fits b) (h1 : ¬ b.count > a.count) (h2 : ¬ b.zero > a.zero) (hp : qP a b = some p) (hn : qN a b = some n) :
  lexBad a b = false ∧ p = trim (rsP a).1 (lexP a b).1 ∧ n = trim (rsN a).1 (lexN a b).1:=by
 rcases qP_cases hA hB with ⟨h',_⟩ | ⟨h3,h4⟩
 ·rw [h'] at hp; cases hp
 rcases qN_cases hA hB with ⟨h',_⟩ | ⟨h5,h6⟩
 ·rw [h'] at hn; cases hn
 rw [hp] at h3
 rw [hn] at h5
 rw [lexN_val,lexP_val]
 refine ⟨?_,Option.some.inj h3,Option.some.inj h5⟩
 simp only [Bool.or_eq_false_iff] at h4 h6
 rw [lexBad_val,h4.1,h4.2,h6.1,h6.2]
 unfold lexCnt
 rw [decide_eq_false (show ¬ a.count < b.count from h1),decide_eq_false (show ¬ a.zero < b.zero from h2)]; rfl
def rlexpT : List U → Out SV
 | [.a la,.a lb]=>match asExp la,asExp lb with
  | some a,some b=>.need (EOk a ∧ EOk b) (wp1 (a.scale != b.scale || a.thr != b.thr) fun c=>bif c then .ret (.t [.a (noE 0).cells,.c (I64 13)]) else
   wp1 (lexBad a b) fun c=>bif c then .ret (.t [.a (noE 0).cells,.c (I64 9)]) else .ret (.t [.a (lexE a b (zL a b)).cells,.c (I64 0)]))
  | _,_=>.fail
 | _=>.fail
set_option maxHeartbeats 2000000 in
theorem rlexp_ex : Ok G 89 rlexpT:=by
 have hS : AllSound (B [(125,.pure (normG (B []) [4,42] sideRT)),(136,.pure (normG (B []) [42,42] lessSideT)),(135,.pure (normG (B []) [37,37] lessSumT))]) G:=.cons _ sideR_ex (.cons _ lessSide_ex (.cons _ lessSum_ex noneS))
 refine okP hS Tryz.func89 rfl (by decide) fun K us hk=>?_
 unfold rlexpT at hk
 split at hk
 ·split at hk
  ·rename_i la lb _ _ a b ha hb
   rw [asExp_eq ha,asExp_eq hb]
   refine ⟨by show 2 ≤ _; decide,?_⟩
   obtain ⟨⟨⟨hA,rPa,rNa,uA⟩,hB,rPb,rNb,uB⟩,hk⟩:=hk
   have hk:=hk _ rfl
   have iP1 : InB (offV a.hasP a.offP) (cntV a.hasP a.cP):=inB_of ⟨hA.2.2.1,hA.2.2.2.1⟩ hA.1
   have iP2 : InB (offV b.hasP b.offP) (cntV b.hasP b.cP):=inB_of ⟨hB.2.2.1,hB.2.2.2.1⟩ hB.1
   have iN1 : InB (offV a.hasN a.offN) (cntV a.hasN a.cN):=inB_of ⟨hA.2.2.2.2.1,hA.2.2.2.2.2.1⟩ hA.2.1
   have iN2 : InB (offV b.hasN b.offN) (cntV b.hasN b.cN):=inB_of ⟨hB.2.2.2.2.1,hB.2.2.2.2.2.1⟩ hB.2.1
   have bad : (a.scale != b.scale || a.thr != b.thr) = true → K (.t [.a (noE 0).cells,.c (I64 13)]):=fun h=>by rw [h] at hk; exact hk
   conv=>whnf
   refine Ask.i (fun c1=>?_) (fun c1=>?_)
   ·have c1 : (a.scale != b.scale) = true:=c1
    conv=>whnf
    exact bad (by rw [c1]; rfl)
   have c1 : (a.scale != b.scale) = false:=c1;conv=>whnf
   refine Ask.i (fun c2=>?_) (fun c2=>?_)
   ·have c2 : (a.thr != b.thr) = true:=c2
    conv=>whnf
    exact bad (by rw [c1,c2]; rfl)
   have c2 : (a.thr != b.thr) = false:=c2
   rw [c1,c2] at hk
   have hk : (wp1 (lexBad a b) fun c=>bif c then .ret (.t [.a (noE 0).cells,.c (I64 9)]) else .ret (.t [.a (lexE a b (zL a b)).cells,.c (I64 0)])).wp K:=hk
   have stop : lexBad a b = true → K (.t [.a (noE 0).cells,.c (I64 9)]):=fun h=>hk true h
   conv=>whnf
   refine ⟨mixed,[(15,[6])],[(1,[]),(3,[]),(4,[]),(6,[]),(8,[]),(9,[]),(10,[])],[],by kernel_rfl,?_⟩;conv=>whnf
   refine ⟨⟨⟨iP1,cntV_r rPa⟩,iP2,cntV_r rPb⟩,?_⟩;conv=>whnf
   intro oP hP
   have hP : qP a b = oP:=hP
   cases oP with
   | none =>
    conv=>whnf
    refine ⟨mixed,[(15,[8])],[(1,[]),(3,[]),(4,[]),(6,[]),(8,[]),(9,[]),(10,[])],[],by kernel_rfl,?_⟩;conv=>whnf
    refine ⟨⟨⟨iN1,cntV_r rNa⟩,iN2,cntV_r rNb⟩,?_⟩;conv=>whnf
    intro oN hN
    cases oN with
    | none =>
     conv=>whnf
     exact stop (lbad3 hA hB hP)
    | some pn =>
     conv=>whnf
     exact stop (lbad3 hA hB hP)
   | some pp =>
    conv=>whnf
    refine ⟨mixed,[(15,[8])],[(1,[]),(3,[]),(4,[]),(6,[]),(8,[]),(9,[]),(10,[])],[],by kernel_rfl,?_⟩;conv=>whnf
    refine ⟨⟨⟨iN1,cntV_r rNa⟩,iN2,cntV_r rNb⟩,?_⟩;conv=>whnf
    intro oN hN
    have hN : qN a b = oN:=hN
    cases oN with
    | none =>
     conv=>whnf
     exact stop (lbad4 hA hB hN)
    | some pn =>
     conv=>whnf
     refine Ask.i (fun c3=>?_) (fun c3=>?_)
     ·have c3 : b.count > a.count:=of_decide_eq_true c3
      conv=>whnf
      exact stop (lbad1 c3)
     have c3 : ¬ b.count > a.count:=of_decide_eq_false c3
     conv=>whnf
     refine Ask.i (fun c4=>?_) (fun c4=>?_)
     ·have c4 : b.zero > a.zero:=of_decide_eq_true c4
      conv=>whnf
      exact stop (lbad2 c4)
     have c4 : ¬ b.zero > a.zero:=of_decide_eq_false c4
     obtain ⟨g1,rfl,rfl⟩:=lgood hA hB c3 c4 hP hN
     have hk : K (.t [.a (lexE a b (zL a b)).cells,.c (I64 0)]):=hk false g1
     conv=>whnf
     refine ⟨mixed,[(15,[10]),(17,[10]),(19,[10]),(21,[10]),(23,[10])],[(1,[]),(3,[10]),(5,[10]),(8,[10]),(10,[10]),(12,[10]),(13,[10])],[],by kernel_rfl,?_⟩;conv=>whnf
     refine ⟨⟨uA.sm,uB.sm⟩,?_⟩;conv=>whnf
     exact hk
  exact hk.elim
 exact hk.elim
end Sx
namespace Sx
open Go Go.Proofs
open Go.Proofs.SxPu (addV subV)
set_option maxRecDepth 30000
variable {G : Glob}
def mexpT (k : Nat) : List U → Out SV
 | [.a la,.a lb,.c (.v (.int .i64 most))]=>match asExp la,asExp lb with
  | some a,some b=>.need (UU a.sum ∧ UU b.sum ∧ Fits a ∧ Fits b ∧ Typ TB (.sl 30) b.attrs ∧ Dp k b.attrs ∧ Typ TB (.sl 32) b.ex ∧ Dp k b.ex) (wp1 (a.thr != b.thr) fun c=>bif c then .ret (.t [.a (noE 0).cells,.c (errV 13)]) else
   .all (Option (Int × Int × Int)) (fun o=>shV a b most = o) ⟨_,rfl⟩ fun o=>match o with
   | none=>.ret (.t [.a (noE 0).cells,.c (errV 9)])
   | some r=>.need (0 ≤ r.1 ∧ r.1 ≤ 31 ∧ 0 ≤ r.2.1 ∧ r.2.1 ≤ 31) (wp1 (addBad a b r.1.toNat r.2.1.toNat) fun c=>bif c then .ret (.t [.a (noE 0).cells,.c (errV 9)]) else .ret (.t [.a (addE a b r.1.toNat r.2.1.toNat r.2.2 (zE a b)).cells,.c nilV])))
  | _,_=>.fail
 | _=>.fail
set_option maxHeartbeats 2000000 in
theorem mexp_ex {k : Nat} : Ok G 68 (mexpT k):=by
 have hS : AllSound (B [(101,.pure (normG (B []) [44,44,3] shiftsS)),(64,.pure (normG (B []) [44] (twS k))),(108,.full (normF (B []) [228,31,31] plusS)),(109,.pure (normG (B []) [37,37,118] bothT)),(113,.pure (normG (B []) [44,44] pairsS)),(103,.full (normF (B []) [228,185,3] downS)),(114,.full (normF (B []) [228,185,185] addS)),(102,.full (normF (B []) [228,183,185,185] laysS))]) G :=
  .cons _ shifts_ok (.cons _ twExp_ok (.consF _ plus_ok (.cons _ both_ex (.cons _ pairs_ok (.consF _ down_ok (.consF _ add_ok (.consF _ lays_ok noneS)))))))
 refine okP hS Tryz.func68 rfl (by decide) fun K us hk=>?_
 unfold mexpT at hk
 split at hk
 ·rename_i la lb most
  split at hk
  ·rename_i a b ha hb
   rw [asExp_eq ha,asExp_eq hb]
   refine ⟨by show 3 ≤ _; decide,?_⟩
   obtain ⟨⟨us,ut,hA,hB,h1,h2,h3,h4⟩,hk⟩:=hk
   have hk:=hk _ rfl
   conv=>whnf
   refine Ask.i (fun c1=>?_) (fun c1=>?_)
   ·have c1 : (a.thr != b.thr) = true:=c1
    rw [c1] at hk
    conv=>whnf
    exact hk
   have c1 : (a.thr != b.thr) = false:=c1
   rw [c1] at hk
   have hk:=hk _ rfl
   conv=>whnf
   refine ⟨⟨hA,hB⟩,?_⟩;conv=>whnf
   intro o ho
   have ho : shV a b most = o:=ho
   rw [ho] at hk
   cases o with
   | none =>
    conv=>whnf
    exact hk
   | some r =>
    obtain ⟨⟨hr1,hr2,hr3,hr4⟩,hk⟩:=hk
    conv=>whnf
    refine ⟨⟨h1,h2,h3,h4,hB.1,hB.2.1⟩,?_⟩;conv=>whnf
    refine ⟨mixed,[(4,[12]),(9,[12]),(11,[13]),(13,[13])],[],[],by kernel_rfl,?_⟩;conv=>whnf
    refine ⟨mixed,[(16,[13]),(18,[13]),(20,[13])],[],[],by kernel_rfl,?_⟩;conv=>whnf
    refine ⟨⟨us,ut⟩,?_⟩;conv=>whnf
    have hk:=hk _ rfl
    have pa:=sd_near (h:=a.hasP) (l:=a.cP) ⟨hA.2.2.1,hA.2.2.2.1⟩ hA.1
    have pb:=sd_near (h:=b.hasP) (l:=b.cP) ⟨hB.2.2.1,hB.2.2.2.1⟩ hB.1
    have na:=sd_near (h:=a.hasN) (l:=a.cN) ⟨hA.2.2.2.2.1,hA.2.2.2.2.2.1⟩ hA.2.1
    have nb:=sd_near (h:=b.hasN) (l:=b.cN) ⟨hB.2.2.2.2.1,hB.2.2.2.2.2.1⟩ hB.2.1
    change -8589934592 ≤ (sdP a).1 ∧ (sdP a).1 ≤ 8589934592 ∧ (sdP a).2.length ≤ 3750 at pa
    change -8589934592 ≤ (sdP b).1 ∧ (sdP b).1 ≤ 8589934592 ∧ (sdP b).2.length ≤ 3750 at pb
    change -8589934592 ≤ (sdN a).1 ∧ (sdN a).1 ≤ 8589934592 ∧ (sdN a).2.length ≤ 3750 at na
    change -8589934592 ≤ (sdN b).1 ∧ (sdN b).1 ≤ 8589934592 ∧ (sdN b).2.length ≤ 3750 at nb
    have far : ∀ {s : Int × List Int} {x : Int},-8589934592 ≤ s.1 ∧ s.1 ≤ 8589934592 ∧ s.2.length ≤ 3750 → 0 ≤ x → x ≤ 31 → s.2.length ≤ 68719476736 ∧ -1099511627776 ≤ s.1 ∧ s.1 ≤ 1099511627776 ∧ 0 ≤ x ∧ x ≤ 31:=by
     intro s x h h1 h2; omega
    have nr : ∀ {s : Int × List Int} (n : Nat) (bad : Bool),-8589934592 ≤ s.1 ∧ s.1 ≤ 8589934592 ∧ s.2.length ≤ 3750 → -8589938342 ≤ (downL s.1 s.2 n bad).1 ∧ (downL s.1 s.2 n bad).1 ≤ 8589938342 ∧ (downL s.1 s.2 n bad).2.1.length ≤ 3750:=by
     intro s n bad h; exact downL_near ⟨h.1,h.2.1⟩ h.2.2
    conv=>whnf
    refine ⟨mixed,[(13,[13]),(15,[13])],[],[],by kernel_rfl,?_⟩;conv=>whnf
    refine Ask.i (fun c2=>?_) (fun c2=>?_)
    ·have c2 : a.hasP = true:=c2
     conv=>whnf
     refine Ask.i (fun c3=>?_) (fun c3=>?_)
     ·have c3 : a.hasN = true:=c3
      conv=>whnf
      refine ⟨⟨hA,hB⟩,?_⟩;conv=>whnf
      refine ⟨mixed,[(3,[12]),(7,[12]),(8,[12]),(12,[12]),(16,[12]),(17,[12]),(18,[12,13])],[],[],by kernel_rfl,?_⟩;conv=>whnf
      refine ⟨far pa hr1 hr2,?_⟩;conv=>whnf
      refine ⟨far pb hr3 hr4,?_⟩;conv=>whnf
      refine ⟨addN_near (nr _ _ pa) (nr _ _ pb),?_⟩;conv=>whnf
      refine ⟨far na hr1 hr2,?_⟩;conv=>whnf
      refine ⟨far nb hr3 hr4,?_⟩;conv=>whnf
      refine ⟨addN_near (nr _ _ na) (nr _ _ nb),?_⟩;conv=>whnf
      refine ⟨⟨addN_len (nr _ _ pa) (nr _ _ pb),addN_len (nr _ _ na) (nr _ _ nb)⟩,?_⟩;conv=>whnf
      intro c hc
      have hc : addBad a b r.1.toNat r.2.1.toNat = c:=hc
      rw [hc] at hk
      cases c with
      | true =>
       conv=>whnf
       exact hk
      | false =>
       conv=>whnf
       refine fin hk (congrArg (fun h : Bool × Bool=>SV.t [.a ({ addE a b r.1.toNat r.2.1.toNat r.2.2 (zE a b) with hasP:=h.1,hasN:=h.2 }).cells,.c nilV]) (?_ : (a.hasP || b.hasP,a.hasN || b.hasN) = (true,true)))
       rw [c2,c3]; rfl
     have c3 : a.hasN = false:=c3;conv=>whnf
     refine ⟨⟨hA,hB⟩,?_⟩;conv=>whnf
     refine ⟨mixed,[(3,[12]),(7,[12]),(8,[12]),(12,[12]),(16,[12]),(17,[12]),(18,[12,13])],[],[],by kernel_rfl,?_⟩;conv=>whnf
     refine ⟨far pa hr1 hr2,?_⟩;conv=>whnf
     refine ⟨far pb hr3 hr4,?_⟩;conv=>whnf
     refine ⟨addN_near (nr _ _ pa) (nr _ _ pb),?_⟩;conv=>whnf
     refine ⟨far na hr1 hr2,?_⟩;conv=>whnf
     refine ⟨far nb hr3 hr4,?_⟩;conv=>whnf
     refine ⟨addN_near (nr _ _ na) (nr _ _ nb),?_⟩;conv=>whnf
     refine ⟨⟨addN_len (nr _ _ pa) (nr _ _ pb),addN_len (nr _ _ na) (nr _ _ nb)⟩,?_⟩;conv=>whnf
     intro c hc
     have hc : addBad a b r.1.toNat r.2.1.toNat = c:=hc
     rw [hc] at hk
     cases c with
     | true =>
      conv=>whnf
      exact hk
     | false =>
      conv=>whnf
      refine fin hk (congrArg (fun h : Bool × Bool=>SV.t [.a ({ addE a b r.1.toNat r.2.1.toNat r.2.2 (zE a b) with hasP:=h.1,hasN:=h.2 }).cells,.c nilV]) (?_ : (a.hasP || b.hasP,a.hasN || b.hasN) = (true,b.hasN)))
      rw [c2,c3]; rfl
    have c2 : a.hasP = false:=c2;conv=>whnf
    refine Ask.i (fun c3=>?_) (fun c3=>?_)
    ·have c3 : a.hasN = true:=c3
     conv=>whnf
     refine ⟨⟨hA,hB⟩,?_⟩;conv=>whnf
     refine ⟨mixed,[(3,[12]),(7,[12]),(8,[12]),(12,[12]),(16,[12]),(17,[12]),(18,[12,13])],[],[],by kernel_rfl,?_⟩;conv=>whnf
     refine ⟨far pa hr1 hr2,?_⟩;conv=>whnf
     refine ⟨far pb hr3 hr4,?_⟩;conv=>whnf
     refine ⟨addN_near (nr _ _ pa) (nr _ _ pb),?_⟩;conv=>whnf
     refine ⟨far na hr1 hr2,?_⟩;conv=>whnf
     refine ⟨far nb hr3 hr4,?_⟩;conv=>whnf
     refine ⟨addN_near (nr _ _ na) (nr _ _ nb),?_⟩;conv=>whnf
     refine ⟨⟨addN_len (nr _ _ pa) (nr _ _ pb),addN_len (nr _ _ na) (nr _ _ nb)⟩,?_⟩;conv=>whnf
     intro c hc
     have hc : addBad a b r.1.toNat r.2.1.toNat = c:=hc
     rw [hc] at hk
     cases c with
     | true =>
      conv=>whnf
      exact hk
     | false =>
      conv=>whnf
      refine fin hk (congrArg (fun h : Bool × Bool=>SV.t [.a ({ addE a b r.1.toNat r.2.1.toNat r.2.2 (zE a b) with hasP:=h.1,hasN:=h.2 }).cells,.c nilV]) (?_ : (a.hasP || b.hasP,a.hasN || b.hasN) = (b.hasP,true)))
      rw [c2,c3]; rfl
    have c3 : a.hasN = false:=c3;conv=>whnf
    refine ⟨⟨hA,hB⟩,?_⟩;conv=>whnf
    refine ⟨mixed,[(3,[12]),(7,[12]),(8,[12]),(12,[12]),(16,[12]),(17,[12]),(18,[12,13])],[],[],by kernel_rfl,?_⟩;conv=>whnf
    refine ⟨far pa hr1 hr2,?_⟩;conv=>whnf
    refine ⟨far pb hr3 hr4,?_⟩;conv=>whnf
    refine ⟨addN_near (nr _ _ pa) (nr _ _ pb),?_⟩;conv=>whnf
    refine ⟨far na hr1 hr2,?_⟩;conv=>whnf
    refine ⟨far nb hr3 hr4,?_⟩;conv=>whnf
    refine ⟨addN_near (nr _ _ na) (nr _ _ nb),?_⟩;conv=>whnf
    refine ⟨⟨addN_len (nr _ _ pa) (nr _ _ pb),addN_len (nr _ _ na) (nr _ _ nb)⟩,?_⟩;conv=>whnf
    intro c hc
    have hc : addBad a b r.1.toNat r.2.1.toNat = c:=hc
    rw [hc] at hk
    cases c with
    | true =>
     conv=>whnf
     exact hk
    | false =>
     conv=>whnf
     refine fin hk (congrArg (fun h : Bool × Bool=>SV.t [.a ({ addE a b r.1.toNat r.2.1.toNat r.2.2 (zE a b) with hasP:=h.1,hasN:=h.2 }).cells,.c nilV]) (?_ : (a.hasP || b.hasP,a.hasN || b.hasN) = (b.hasP,b.hasN)))
     rw [c2,c3]; rfl
  exact hk.elim
 exact hk.elim
end Sx
namespace Sx
open Go Go.Proofs
open Go.Proofs.SxPu (addV subV)
set_option maxRecDepth 30000
variable {G : Glob}
def expR (a b : ExpD) (most : Int) : Option ExpD × Int:=bif a.thr != b.thr then (none,13) else match shV a b most with
 | none=>(none,9)
 | some r=>bif addBad a b r.1.toNat r.2.1.toNat then (none,9) else (some (addE a b r.1.toNat r.2.1.toNat r.2.2 (zE a b)),0)
def fitR (e : ExpD) (most : Int) : Option ExpD × Int:=match shV e (noE e.scale) most with
 | none=>(none,9)
 | some r=>bif fitBad e r.1.toNat then (none,9) else (some (fitE e r.1.toNat r.2.2),0)
def lexR (a b : ExpD) : Option ExpD × Int:=bif a.scale != b.scale || a.thr != b.thr then (none,13) else bif lexBad a b then (none,9) else (some (lexE a b (zL a b)),0)
def outQ (p : Option ExpD × Int) : Out SV:=match p.1 with
 | none=>.ret (.t [.a (noE 0).cells,.c (errV p.2)])
 | some u=>.ret (.t [.a u.cells,.c nilV])
def outRQ (p : Option ExpD × Int) : Out SV:=match p.1 with
 | none=>.ret (.t [.a (noE 0).cells,.c (I64 p.2)])
 | some u=>.ret (.t [.a u.cells,.c (I64 0)])
structure DOk (k : Nat) (e : ExpD) : Prop where
 t1 : Typ TB (.sl 30) e.attrs
 d1 : Dp k e.attrs
 t2 : Typ TB (.sl 32) e.ex
 d2 : Dp k e.ex
def mexpU (k : Nat) : List U → Out SV
 | [.a la,.a lb,.c (.v (.int .i64 most))]=>match asExp la,asExp lb with
  | some a,some b=>.need (EOk a ∧ EOk b ∧ DOk k b) (.all (Option ExpD × Int) (fun p=>expR a b most = p) ⟨_,rfl⟩ outQ)
  | _,_=>.fail
 | _=>.fail
theorem mexpU_ex {k : Nat} : Ok G 68 (mexpU k):=(mexp_ex (k:=k)).mono fun us K hk=>by
 unfold mexpU at hk
 split at hk
 ·rename_i la lb most
  split at hk
  ·rename_i a b ha hb
   obtain ⟨⟨hA,hB,hD⟩,hk⟩:=hk
   have hk:=hk _ rfl
   unfold expR at hk
   unfold mexpT
   simp only [ha,hb]
   refine ⟨⟨hA.u.sm,hB.u.sm,hA.f,hB.f,hD.t1,hD.d1,hD.t2,hD.d2⟩,fun c hc=>?_⟩
   have hc : (a.thr != b.thr) = c:=hc
   rw [hc] at hk
   cases c with
   | true=>exact hk
   | false =>
    refine fun o ho=>?_
    have ho : shV a b most = o:=ho
    rw [ho] at hk
    cases o with
    | none=>exact hk
    | some r =>
     obtain ⟨_,_,_,sx,sy,_⟩:=sh_facts hA.f hB.f ho
     refine ⟨⟨sx.1,sx.2,sy.1,sy.2⟩,fun c hc=>?_⟩
     have hc : addBad a b r.1.toNat r.2.1.toNat = c:=hc
     simp only [cond_false,hc] at hk
     cases c with
     | true=>exact hk
     | false=>exact hk
  exact hk.elim
 exact hk.elim
def rexpU : List U → Out SV
 | [.a la,.a lb,.c (.v (.int .i64 most))]=>match asExp la,asExp lb with
  | some a,some b=>.need (EOk a ∧ EOk b) (.all (Option ExpD × Int) (fun p=>expR a b most = p) ⟨_,rfl⟩ outRQ)
  | _,_=>.fail
 | _=>.fail
theorem rexpU_ex : Ok G 83 rexpU:=rexp_ex.mono fun us K hk=>by
 unfold rexpU at hk
 split at hk
 ·rename_i la lb most
  split at hk
  ·rename_i a b ha hb
   obtain ⟨⟨hA,hB⟩,hk⟩:=hk
   have hk:=hk _ rfl
   unfold expR at hk
   unfold rexpT
   simp only [ha,hb]
   refine ⟨⟨hA,hB⟩,fun c hc=>?_⟩
   have hc : (a.thr != b.thr) = c:=hc
   rw [hc] at hk
   cases c with
   | true=>exact hk
   | false =>
    refine fun o ho=>?_
    have ho : shV a b most = o:=ho
    rw [ho] at hk
    cases o with
    | none=>exact hk
    | some r =>
     refine fun c hc=>?_
     have hc : addBad a b r.1.toNat r.2.1.toNat = c:=hc
     simp only [cond_false,hc] at hk
     cases c with
     | true=>exact hk
     | false=>exact hk
  exact hk.elim
 exact hk.elim
def mfitU (k : Nat) : List U → Out SV
 | [.a l,.c (.v (.int .i64 most))]=>match asExp l with
  | some e=>.need (EOk e ∧ DOk k e) (.all (Option ExpD × Int) (fun p=>fitR e most = p) ⟨_,rfl⟩ outQ)
  | none=>.fail
 | _=>.fail
theorem mfitU_ex {k : Nat} : Ok G 65 (mfitU k):=(fit_ok (k:=k)).mono fun us K hk=>by
 unfold mfitU at hk
 split at hk
 ·rename_i l most
  split at hk
  ·rename_i e he
   obtain ⟨⟨hA,hD⟩,hk⟩:=hk
   have hk:=hk _ rfl
   unfold fitR at hk
   unfold fitS
   simp only [he]
   refine ⟨⟨hA.f,hD.t1,hD.d1,hD.t2,hD.d2⟩,fun o ho=>?_⟩
   have ho : shV e (noE e.scale) most = o:=ho
   rw [ho] at hk
   cases o with
   | none=>exact hk
   | some r =>
    obtain ⟨_,sx,_⟩:=fit_facts hA.f ho
    refine ⟨⟨sx.1,sx.2⟩,fun c hc=>?_⟩
    have hc : fitBad e r.1.toNat = c:=hc
    simp only [hc] at hk
    cases c with
    | true=>exact hk
    | false=>exact hk
  exact hk.elim
 exact hk.elim
def rfitU : List U → Out SV
 | [.a l,.c (.v (.int .i64 most))]=>match asExp l with
  | some e=>.need (EOk e) (.all (Option ExpD × Int) (fun p=>fitR e most = p) ⟨_,rfl⟩ outRQ)
  | none=>.fail
 | _=>.fail
theorem rfitU_ex : Ok G 81 rfitU:=rfit_ex.mono fun us K hk=>by
 unfold rfitU at hk
 split at hk
 ·rename_i l most
  split at hk
  ·rename_i e he
   obtain ⟨hA,hk⟩:=hk
   have hk:=hk _ rfl
   unfold fitR at hk
   unfold rfitT
   simp only [he]
   refine ⟨hA,fun o ho=>?_⟩
   have ho : shV e (noE e.scale) most = o:=ho
   rw [ho] at hk
   cases o with
   | none=>exact hk
   | some r =>
    refine fun c hc=>?_
    have hc : fitBad e r.1.toNat = c:=hc
    simp only [hc] at hk
    cases c with
    | true=>exact hk
    | false=>exact hk
  exact hk.elim
 exact hk.elim
def mlexU (k : Nat) : List U → Out SV
 | [.a la,.a lb]=>match asExp la,asExp lb with
  | some a,some b=>.need (EOk a ∧ EOk b ∧ DOk k a) (.all (Option ExpD × Int) (fun p=>lexR a b = p) ⟨_,rfl⟩ outQ)
  | _,_=>.fail
 | _=>.fail
theorem mlexU_ex {k : Nat} : Ok G 86 (mlexU k):=(lexp_ex (k:=k)).mono fun us K hk=>by
 unfold mlexU at hk
 split at hk
 ·split at hk
  ·rename_i la lb _ _ a b ha hb
   obtain ⟨⟨hA,hB,hD⟩,hk⟩:=hk
   have hk:=hk _ rfl
   unfold lexR at hk
   unfold lexpT
   simp only [ha,hb]
   refine ⟨⟨hA.u.sm,hB.u.sm,hA.f,hB.f,hD.t1,hD.d1,hD.t2,hD.d2⟩,fun c hc=>?_⟩
   have hc : (a.scale != b.scale || a.thr != b.thr) = c:=hc
   rw [hc] at hk
   cases c with
   | true=>exact hk
   | false =>
    refine fun c hc=>?_
    have hc : lexBad a b = c:=hc
    simp only [cond_false,hc] at hk
    cases c with
    | true=>exact hk
    | false=>exact hk
  exact hk.elim
 exact hk.elim
def rlexU : List U → Out SV
 | [.a la,.a lb]=>match asExp la,asExp lb with
  | some a,some b=>.need (EOk a ∧ EOk b) (.all (Option ExpD × Int) (fun p=>lexR a b = p) ⟨_,rfl⟩ outRQ)
  | _,_=>.fail
 | _=>.fail
theorem rlexU_ex : Ok G 89 rlexU:=rlexp_ex.mono fun us K hk=>by
 unfold rlexU at hk
 split at hk
 ·split at hk
  ·rename_i la lb _ _ a b ha hb
   obtain ⟨⟨hA,hB⟩,hk⟩:=hk
   have hk:=hk _ rfl
   unfold lexR at hk
   unfold rlexpT
   simp only [ha,hb]
   refine ⟨⟨hA,hB⟩,fun c hc=>?_⟩
   have hc : (a.scale != b.scale || a.thr != b.thr) = c:=hc
   rw [hc] at hk
   cases c with
   | true=>exact hk
   | false =>
    refine fun c hc=>?_
    have hc : lexBad a b = c:=hc
    simp only [cond_false,hc] at hk
    cases c with
    | true=>exact hk
    | false=>exact hk
  exact hk.elim
 exact hk.elim
end Sx
namespace Sx
open Go Go.Proofs
set_option maxRecDepth 30000
variable {G : Glob}
structure PtD where
 kd : Int
 n : NumD
 h : HistD
 e : ExpD
def PtD.cells (p : PtD) : List C:=[I64 p.kd,
 .d 30 p.n.attrs,U64 p.n.start,U64 p.n.time,I64 p.n.kind,U64 p.n.n,.d 32 p.n.ex,U32 p.n.flags,St p.n.unk,
 .d 30 p.h.attrs,U64 p.h.start,U64 p.h.time,U64 p.h.count,Bo p.h.sumH,U64 p.h.sum,Bo p.h.minH,U64 p.h.min,Bo p.h.maxH,U64 p.h.max,.d 38 (.ints p.h.cs),.d 38 (.ints p.h.bs),.d 32 p.h.ex,U32 p.h.flags,St p.h.unk,
 .d 30 p.e.attrs,U64 p.e.start,U64 p.e.time,U64 p.e.count,Bo p.e.sumH,U64 p.e.sum,Bo p.e.minH,U64 p.e.min,Bo p.e.maxH,U64 p.e.max,I32 p.e.scale,U64 p.e.zero,Bo p.e.hasP,I32 p.e.offP,.d 38 (.ints p.e.cP),St p.e.unkP,Bo p.e.hasN,I32 p.e.offN,.d 38 (.ints p.e.cN),St p.e.unkN,.d 32 p.e.ex,U32 p.e.flags,U64 p.e.thr,St p.e.unk]
def PtD.row (p : PtD) (seen : Int) : List D:=[.int p.kd,
 p.n.attrs,.int p.n.start,.int p.n.time,.int p.n.kind,.int p.n.n,p.n.ex,.int p.n.flags,.str p.n.unk,
 p.h.attrs,.int p.h.start,.int p.h.time,.int p.h.count,.bool p.h.sumH,.int p.h.sum,.bool p.h.minH,.int p.h.min,.bool p.h.maxH,.int p.h.max,.ints p.h.cs,.ints p.h.bs,p.h.ex,.int p.h.flags,.str p.h.unk,
 p.e.attrs,.int p.e.start,.int p.e.time,.int p.e.count,.bool p.e.sumH,.int p.e.sum,.bool p.e.minH,.int p.e.min,.bool p.e.maxH,.int p.e.max,.int p.e.scale,.int p.e.zero,.bool p.e.hasP,.int p.e.offP,.ints p.e.cP,.str p.e.unkP,.bool p.e.hasN,.int p.e.offN,.ints p.e.cN,.str p.e.unkN,p.e.ex,.int p.e.flags,.int p.e.thr,.str p.e.unk,
 .int seen]
def asRow (r : List D) : PtD × Int:=(⟨(cellD r 0).toInt,⟨cellD r 1,(cellD r 2).toInt,(cellD r 3).toInt,(cellD r 4).toInt,(cellD r 5).toInt,cellD r 6,(cellD r 7).toInt,(cellD r 8).toStr⟩,
 ⟨cellD r 9,(cellD r 10).toInt,(cellD r 11).toInt,(cellD r 12).toInt,(cellD r 13).toBool,(cellD r 14).toInt,(cellD r 15).toBool,(cellD r 16).toInt,(cellD r 17).toBool,(cellD r 18).toInt,(cellD r 19).toInts,(cellD r 20).toInts,cellD r 21,(cellD r 22).toInt,(cellD r 23).toStr⟩,
 ⟨cellD r 24,(cellD r 25).toInt,(cellD r 26).toInt,(cellD r 27).toInt,(cellD r 28).toBool,(cellD r 29).toInt,(cellD r 30).toBool,(cellD r 31).toInt,(cellD r 32).toBool,(cellD r 33).toInt,(cellD r 34).toInt,(cellD r 35).toInt,(cellD r 36).toBool,(cellD r 37).toInt,(cellD r 38).toInts,(cellD r 39).toStr,(cellD r 40).toBool,(cellD r 41).toInt,(cellD r 42).toInts,(cellD r 43).toStr,cellD r 44,(cellD r 45).toInt,(cellD r 46).toInt,(cellD r 47).toStr⟩⟩,(cellD r 48).toInt)
theorem asRow_row (p : PtD) (i : Int) : asRow (p.row i) = (p,i):=rfl
def asPt : List C → Option PtD
 | .v (.int .i64 kd) :: c1 :: c2 :: c3 :: c4 :: c5 :: c6 :: c7 :: c8 :: r=>match asNum [c1,c2,c3,c4,c5,c6,c7,c8],r with
  | some n,d1 :: d2 :: d3 :: d4 :: d5 :: d6 :: d7 :: d8 :: d9 :: d10 :: d11 :: d12 :: d13 :: d14 :: d15 :: s=>match asHist [d1,d2,d3,d4,d5,d6,d7,d8,d9,d10,d11,d12,d13,d14,d15],asExp s with
   | some h,some e=>some ⟨kd,n,h,e⟩
   | _,_=>none
  | _,_=>none
 | _=>none
theorem asPt_eq {l : List C} {p : PtD} (h : asPt l = some p) : l = p.cells:=by
 unfold asPt at h
 split at h
 ·split at h
  ·rename_i h1
   split at h
   ·rename_i h2 h3
    obtain rfl:=Option.some.inj h
    have e1:=asNum_eq h1
    have e2:=asHist_eq h2
    have e3:=asExp_eq h3
    simp only [NumD.cells,HistD.cells,List.cons.injEq,and_true] at e1 e2
    obtain ⟨rfl,rfl,rfl,rfl,rfl,rfl,rfl,rfl⟩:=e1
    obtain ⟨rfl,rfl,rfl,rfl,rfl,rfl,rfl,rfl,rfl,rfl,rfl,rfl,rfl,rfl,rfl⟩:=e2
    subst e3
    rfl
   cases h
  cases h
 cases h
def startOf (p : PtD) : Int:=bif p.kd == 2 then p.n.start else bif p.kd == 3 then p.h.start else bif p.kd == 4 then p.e.start else 0
def timeOf (p : PtD) : Int:=bif p.kd == 2 then p.n.time else bif p.kd == 3 then p.h.time else bif p.kd == 4 then p.e.time else 0
def numOf (f : PtD → Int) : List U → Out SV
 | [.a l]=>match asPt l with
  | some p=>.all Int (fun x=>f p = x) ⟨_,rfl⟩ fun x=>one (U64 x)
  | none=>.fail
 | _=>.fail
theorem start_ok : Ok G 28 (numOf startOf):=by
 refine okP noneS Tryz.func28 rfl (by decide) fun K us hk=>?_
 unfold numOf at hk
 split at hk
 ·split at hk
  ·rename_i l _ p hl
   rw [asPt_eq hl]
   refine ⟨by show 1 ≤ _; decide,?_⟩
   have hk : ∀ x,startOf p = x → K (.u (.c (U64 x))):=hk;conv=>whnf
   refine Ask.i (fun c1=>?_) (fun c1=>?_)
   ·have c1 : (p.kd == 2) = true:=c1
    conv=>whnf
    exact hk _ (by rw [startOf,c1]; rfl)
   have c1 : (p.kd == 2) = false:=c1;conv=>whnf
   refine Ask.i (fun c2=>?_) (fun c2=>?_)
   ·have c2 : (p.kd == 3) = true:=c2
    conv=>whnf
    exact hk _ (by rw [startOf,c1,c2]; rfl)
   have c2 : (p.kd == 3) = false:=c2;conv=>whnf
   refine Ask.i (fun c3=>?_) (fun c3=>?_)
   ·have c3 : (p.kd == 4) = true:=c3
    conv=>whnf
    exact hk _ (by rw [startOf,c1,c2,c3]; rfl)
   have c3 : (p.kd == 4) = false:=c3;conv=>whnf
   exact hk _ (by rw [startOf,c1,c2,c3]; rfl)
  exact hk.elim
 exact hk.elim
theorem time_ok : Ok G 30 (numOf timeOf):=by
 refine okP noneS Tryz.func30 rfl (by decide) fun K us hk=>?_
 unfold numOf at hk
 split at hk
 ·split at hk
  ·rename_i l _ p hl
   rw [asPt_eq hl]
   refine ⟨by show 1 ≤ _; decide,?_⟩
   have hk : ∀ x,timeOf p = x → K (.u (.c (U64 x))):=hk;conv=>whnf
   refine Ask.i (fun c1=>?_) (fun c1=>?_)
   ·have c1 : (p.kd == 2) = true:=c1
    conv=>whnf
    exact hk _ (by rw [timeOf,c1]; rfl)
   have c1 : (p.kd == 2) = false:=c1;conv=>whnf
   refine Ask.i (fun c2=>?_) (fun c2=>?_)
   ·have c2 : (p.kd == 3) = true:=c2
    conv=>whnf
    exact hk _ (by rw [timeOf,c1,c2]; rfl)
   have c2 : (p.kd == 3) = false:=c2;conv=>whnf
   refine Ask.i (fun c3=>?_) (fun c3=>?_)
   ·have c3 : (p.kd == 4) = true:=c3
    conv=>whnf
    exact hk _ (by rw [timeOf,c1,c2,c3]; rfl)
   have c3 : (p.kd == 4) = false:=c3;conv=>whnf
   exact hk _ (by rw [timeOf,c1,c2,c3]; rfl)
  exact hk.elim
 exact hk.elim
def EGood (k : Nat) (e : ExpD) : Prop:=Typ TB (.sl 30) e.attrs ∧ Dp k e.attrs ∧ Typ TB (.sl 32) e.ex ∧ Dp k e.ex ∧ e.cP.length ≤ 3750 ∧ e.cN.length ≤ 3750
def PIn (k : Nat) (p : PtD) : Prop:=(p.kd = 2 → NGood k p.n) ∧ (p.kd = 3 → HGood k p.h) ∧ (p.kd = 4 → EGood k p.e)
def bare (p : PtD) : PtD:=bif p.kd == 2 then ⟨2,p.n,noH,noE 0⟩ else bif p.kd == 3 then ⟨3,noNum,p.h,noE 0⟩ else bif p.kd == 4 then ⟨4,noNum,noH,p.e⟩ else ⟨0,noNum,noH,noE 0⟩
def aloneS (k : Nat) : List U → Out SV
 | [.a l]=>match asPt l with
  | some p=>.need (PIn k p) (.all PtD (fun q=>bare p = q) ⟨_,rfl⟩ fun q=>agg q.cells)
  | none=>.fail
 | _=>.fail
theorem alone_ok {k : Nat} : Ok G 36 (aloneS k):=by
 have hS : AllSound (B [(62,.pure (normG (B []) [35] (twNS k))),(63,.pure (normG (B []) [40] (twHS k))),(64,.pure (normG (B []) [44] (twS k)))]) G:=.cons _ twNum_ok (.cons _ twHist_ok (.cons _ twExp_ok noneS))
 refine okP hS Tryz.func36 rfl (by decide) fun K us hk=>?_
 unfold aloneS at hk
 split at hk
 ·split at hk
  ·rename_i l _ p hl
   rw [asPt_eq hl]
   refine ⟨by show 1 ≤ _; decide,?_⟩
   obtain ⟨⟨p2,p3,p4⟩,hk⟩:=hk
   have hk : ∀ q,bare p = q → K (.u (.a q.cells)):=hk;conv=>whnf
   refine Ask.i (fun c1=>?_) (fun c1=>?_)
   ·have c1 : (p.kd == 2) = true:=c1
    conv=>whnf
    refine ⟨p2 (by simpa using c1),?_⟩;conv=>whnf
    exact hk ⟨2,p.n,noH,noE 0⟩ (by rw [bare,c1]; rfl)
   have c1 : (p.kd == 2) = false:=c1;conv=>whnf
   refine Ask.i (fun c2=>?_) (fun c2=>?_)
   ·have c2 : (p.kd == 3) = true:=c2
    conv=>whnf
    refine ⟨p3 (by simpa using c2),?_⟩;conv=>whnf
    exact hk ⟨3,noNum,p.h,noE 0⟩ (by rw [bare,c1,c2]; rfl)
   have c2 : (p.kd == 3) = false:=c2;conv=>whnf
   refine Ask.i (fun c3=>?_) (fun c3=>?_)
   ·have c3 : (p.kd == 4) = true:=c3
    conv=>whnf
    refine ⟨p4 (by simpa using c3),?_⟩;conv=>whnf
    exact hk ⟨4,noNum,noH,p.e⟩ (by rw [bare,c1,c2,c3]; rfl)
   have c3 : (p.kd == 4) = false:=c3;conv=>whnf
   exact hk ⟨0,noNum,noH,noE 0⟩ (by rw [bare,c1,c2,c3]; rfl)
  exact hk.elim
 exact hk.elim
end Sx
namespace Sx
open Go Go.Proofs
open Go.Proofs.SxPu (addV subV)
set_option maxRecDepth 30000
variable {G : Glob}
def tbB (st bu ti nw : Int) : Blk:=.cells 81 [I64 st,I64 bu,I64 ti,I64 nw,.m 50001 79]
def fullS : List U → List Blk → Out RF
 | [.c (.p 50000 0),.c (.v (.string s))],[.cells 81 [.v (.int .i64 st),.v (.int .i64 bu),.v (.int .i64 ti),.v (.int .i64 nw),.m 50001 79],.map 79 l] =>
  wp1 ((findM s l).isNone && decide ((l.length : Int) ≥ st)) fun c=>.ret (.u (.c (Bo c)),[some (.cells 81 [I64 st,I64 bu,I64 ti,I64 nw,.m 50001 79]),some (.map 79 l)],[])
 | _,_=>.fail
theorem full_ok : OkF G 38 fullS:=by
 refine okF false noneS Tryz.func38 rfl (by decide) fun K us lent hk=>?_
 unfold fullS at hk
 split at hk
 ·rename_i s st bu ti nw l
  refine ⟨by show 2 ≤ _; decide,?_⟩
  have hk:=hk _ rfl
  conv=>whnf
  intro o ho
  rw [ho] at hk
  cases o with
  | none =>
   conv=>whnf
   refine ⟨mixed,[],[],[],by kernel_rfl,?_⟩;conv=>whnf
   exact hk
  | some row =>
   conv=>whnf
   refine ⟨mixed,[],[],[],by kernel_rfl,?_⟩;conv=>whnf
   exact hk
 exact hk.elim
def badN (st bu ti : Int) : Bool:=decide (st < 1) || (decide (st > 1000) || (decide (bu < 1) || (decide (bu > 320) || (decide (ti < 1) || decide (ti > 1000000)))))
def newS : List U → List Blk → Out RF
 | [.c (.v (.int .i64 st)),.c (.v (.int .i64 bu)),.c (.v (.int .i64 ti))],[]=>wp1 (badN st bu ti) fun c=>bif c then .ret (.t [.c (.v (.pointer none)),.c (errV 9)],[],[])
  else .ret (.t [.c (.p 60000 0),.c nilV],[],[.cells 81 [I64 st,I64 bu,I64 ti,I64 0,.m 60001 79],.map 79 []])
 | _,_=>.fail
theorem new_ok : OkF G 7 newS:=by
 refine okF false noneS Tryz.func7 rfl (by decide) fun K us lent hk=>?_
 unfold newS at hk
 split at hk
 ·rename_i st bu ti
  refine ⟨by show 3 ≤ _; decide,?_⟩
  have hk:=hk _ rfl
  conv=>whnf
  refine Ask.i (fun c1=>?_) (fun c1=>?_)
  ·have c1 : decide (st < 1) = true:=c1
   rw [show badN st bu ti = true by simp [badN,c1]] at hk
   conv=>whnf
   exact hk
  have c1 : decide (st < 1) = false:=c1;conv=>whnf
  refine Ask.i (fun c2=>?_) (fun c2=>?_)
  ·have c2 : decide (st > 1000) = true:=c2
   rw [show badN st bu ti = true by simp [badN,c2]] at hk
   conv=>whnf
   exact hk
  have c2 : decide (st > 1000) = false:=c2;conv=>whnf
  refine Ask.i (fun c3=>?_) (fun c3=>?_)
  ·have c3 : decide (bu < 1) = true:=c3
   rw [show badN st bu ti = true by simp [badN,c3]] at hk
   conv=>whnf
   exact hk
  have c3 : decide (bu < 1) = false:=c3;conv=>whnf
  refine Ask.i (fun c4=>?_) (fun c4=>?_)
  ·have c4 : decide (bu > 320) = true:=c4
   rw [show badN st bu ti = true by simp [badN,c4]] at hk
   conv=>whnf
   exact hk
  have c4 : decide (bu > 320) = false:=c4;conv=>whnf
  refine Ask.i (fun c5=>?_) (fun c5=>?_)
  ·have c5 : decide (ti < 1) = true:=c5
   rw [show badN st bu ti = true by simp [badN,c5]] at hk
   conv=>whnf
   exact hk
  have c5 : decide (ti < 1) = false:=c5;conv=>whnf
  refine Ask.i (fun c6=>?_) (fun c6=>?_)
  ·have c6 : decide (ti > 1000000) = true:=c6
   rw [show badN st bu ti = true by simp [badN,c6]] at hk
   conv=>whnf
   exact hk
  have c6 : decide (ti > 1000000) = false:=c6
  rw [show badN st bu ti = false by rw [badN,c1,c2,c3,c4,c5,c6]; rfl] at hk
  conv=>whnf
  exact hk
 exact hk.elim
def lenTS : List U → List Blk → Out RF
 | [.c (.p 50000 0)],[.cells 81 [.v (.int .i64 st),.v (.int .i64 bu),.v (.int .i64 ti),.v (.int .i64 nw),.m 50001 79],.map 79 l]=>.ret (.u (.c (I64 (l.length : Nat))),[some (tbB st bu ti nw),some (.map 79 l)],[])
 | _,_=>.fail
theorem lenT_ok : OkF G 10 lenTS:=by
 refine okF false noneS Tryz.func10 rfl (by decide) fun K us lent hk=>?_
 unfold lenTS at hk
 split at hk
 ·rename_i st bu ti nw l
  refine ⟨by show 1 ≤ _; decide,?_⟩;conv=>whnf
  exact hk
 exact hk.elim
def TBk (st bu ti nw : Int) (l : List (ByteArray × List D)) : List (Option Blk):=[some (tbB st bu ti nw),some (.map 79 l)]
def laysT (k : Nat) : List U → List Blk → Out RF
 | [.c (.p 50000 0),.c (.v (.string s)),.a q],[.cells 81 [.v (.int .i64 st),.v (.int .i64 bu),.v (.int .i64 ti),.v (.int .i64 nw),.m 50001 79],.map 79 l]=>match asPt q with
  | some p=>.need (PIn k p ∧ bare p = p) (.ret (.t [],TBk st bu ti nw (putM s (p.row nw) l),[]))
  | none=>.fail
 | _,_=>.fail
theorem layT_ok {k : Nat} : OkF G 39 (laysT k):=by
 have hS : AllSound (B [(36,.pure (normG (B []) [46] (aloneS k)))]) G:=.cons _ alone_ok noneS
 refine okF false hS Tryz.func39 rfl (by decide) fun K us lent hk=>?_
 unfold laysT at hk
 split at hk
 ·split at hk
  ·rename_i s _ st bu ti nw l _ p hl
   rw [asPt_eq hl]
   refine ⟨by show 3 ≤ _; decide,?_⟩
   obtain ⟨⟨hg,hb⟩,hk⟩:=hk
   conv=>whnf
   refine ⟨mixed,[],[(3,[]),(5,[]),(6,[]),(10,[])],[200012],by kernel_rfl,?_⟩;conv=>whnf
   refine ⟨hg,?_⟩;conv=>whnf
   intro q hq
   obtain rfl : p = q:=hb.symm.trans hq
   conv=>whnf
   exact hk
  exact hk.elim
 exact hk.elim
end Sx
namespace Go.Proofs.SxPu
open Go.RowKit
open Go Go.RowKit Sx.Pf Go.Proofs.SxFl
theorem qt_U {x : Int} (h : U x) : U (qt x):=by
 have h1:=h.1; have h2:=h.2
 obtain ⟨o1,o2,_⟩:=or_size_zero h1 h2 (y:=2251799813685248) (by decide) (by decide)
 exact ⟨o1,o2⟩
theorem sumV_U {x y : Int} (hx : U x) : U (sumV x y):=by
 have s:=sg_or hx
 have f1:=fin_lt (vl x + vl y); have f2:=fin_lt (vl x - vl y)
 unfold U sumV
 split
 ·omega
 split <;> omega
theorem addV_U {a b : Int} (ha : U a) (hb : U b) : U (addV a b):=by
 have q1:=qt_U ha; have q2:=qt_U hb; have s1:=sumV_U (y:=b) ha; have s2:=sumV_U (y:=a) hb
 unfold addV finV
 repeat' split
 all_goals first | assumption | (unfold U; omega)
end Go.Proofs.SxPu
namespace Sx
open Go Go.Proofs
open Go.Proofs.SxPu (addV subV addV_U)
set_option maxRecDepth 30000
variable {G : Glob}
abbrev Adds:=NumD → NumD → Option NumD
def numP (Pre : NumD → NumD → Prop) (ad : Adds) (k : Nat) : List U → Out SV
 | [.a la,.a lb]=>match asNum la,asNum lb with
  | some a,some b=>.need (Pre a b ∧ NGood k b) (.all (Option NumD) (fun o=>ad a b = o) ⟨_,rfl⟩ fun o=>match o with
   | some m=>.ret (.t [.a m.cells,.c nilV])
   | none=>.all Int (fun _=>True) ⟨9,trivial⟩ fun e=>.ret (.t [.a noNum.cells,.c (errV e)]))
  | _,_=>.fail
 | _=>.fail
def addI (a b : NumD) : Option NumD:=bif sumBad a.n b.n then none else some { b with start:=a.start,n:=x64 (w64 (w64 a.n + w64 b.n)) }
def addG (a b : NumD) : Option NumD:=bif kindsB a.kind b.kind then (bif b.kind == 1 then some { b with start:=a.start,n:=addV a.n b.n } else addI a b) else none
def PreG (a b : NumD) : Prop:=UU a.n ∧ UU b.n
theorem numG_ok {k : Nat} : Ok G 66 (numP PreG addG k):=by
 have hS : AllSound (B [(105,.pure (normG (B []) [35,35] kindsS)),(62,.pure (normG (B []) [35] (twNS k))),(106,.pure (normG (B []) [31,31] addT))]) G:=.cons _ kinds_ok (.cons _ twNum_ok (.cons _ add_ex noneS))
 refine okP hS Tryz.func66 rfl (by decide) fun K us hk=>?_
 unfold numP at hk
 split at hk
 ·split at hk
  ·rename_i la lb _ _ a b ha hb
   rw [asNum_eq ha,asNum_eq hb]
   refine ⟨by show 2 ≤ _; decide,?_⟩
   obtain ⟨⟨hP,hB⟩,hk⟩:=hk
   have hk:=hk _ rfl
   unfold addG at hk
   conv=>whnf
   refine Ask.i (fun c1=>?_) (fun c1=>?_)
   ·have c1 : (!(kindsB a.kind b.kind)) = true:=c1
    rw [show kindsB a.kind b.kind = false by simpa using c1] at hk
    conv=>whnf
    exact hk 13 trivial
   have c1 : (!(kindsB a.kind b.kind)) = false:=c1
   rw [show kindsB a.kind b.kind = true by simpa using c1] at hk
   conv=>whnf
   refine ⟨hB,?_⟩;conv=>whnf
   refine Ask.i (fun c2=>?_) (fun c2=>?_)
   ·have c2 : (b.kind == 1) = true:=c2
    rw [c2] at hk
    conv=>whnf
    refine ⟨hP,?_⟩;conv=>whnf
    exact hk
   have c2 : (b.kind == 1) = false:=c2
   rw [c2] at hk
   conv=>whnf
   refine ⟨mixed,[],[],[],by kernel_rfl,?_⟩;conv=>whnf
   refine Ask.i (fun c3=>?_) (fun c3=>?_)
   ·have c3 : sumBad a.n b.n = true:=c3
    unfold addI at hk
    simp only [c3] at hk
    conv=>whnf
    exact hk 9 trivial
   have c3 : sumBad a.n b.n = false:=c3
   unfold addI at hk
   simp only [c3] at hk
   conv=>whnf
   exact hk
  exact hk.elim
 exact hk.elim
def plusB (a b : Int) : Bool:=(decide (a < 0) != decide (b < 0)) || (decide (w64 (a + b) < 0) == decide (a < 0))
theorem plusB_of (x y : Int) : plusB (w64 x) (w64 y) = !(sumBad x y):=by
 unfold plusB sumBad
 have hx : -9223372036854775808 ≤ w64 x ∧ w64 x < 9223372036854775808:=w64_r x
 have hy : -9223372036854775808 ≤ w64 y ∧ w64 y < 9223372036854775808:=w64_r y
 generalize w64 x = a at *
 generalize w64 y = b at *
 have e : w64 (a + b) = a + b ∨ (a + b ≥ 9223372036854775808 ∧ w64 (a + b) = a + b - 18446744073709551616) ∨ (a + b < -9223372036854775808 ∧ w64 (a + b) = a + b + 18446744073709551616):=by
  show IntKind.i64.wrap (a + b) = _ ∨ (_ ∧ IntKind.i64.wrap (a + b) = _) ∨ (_ ∧ IntKind.i64.wrap (a + b) = _)
  rw [IntKind.wrap_i64]; omega
 rw [Bool.eq_iff_iff]
 rcases e with e | ⟨h,e⟩ | ⟨h,e⟩ <;> rw [e]
 all_goals by_cases c1 : a < 0 <;> by_cases c2 : b < 0 <;> by_cases c3 : b > 0 <;> simp [c1,c2,c3] <;> omega
def rplusT : List U → Out SV
 | [.c (.v (.int .i64 a)),.c (.v (.int .i64 b))]=>wp1 (plusB a b) fun c=>.ret (.t [.c (I64 (w64 (a + b))),.c (Bo c)])
 | _=>.fail
theorem rplus_ex : Ok G 60 rplusT:=by
 refine okP noneS Tryz.func60 rfl (by decide) fun K us hk=>?_
 unfold rplusT at hk
 split at hk
 ·rename_i a b
  refine ⟨by show 2 ≤ _; decide,?_⟩
  have hk:=hk _ rfl
  conv=>whnf
  refine Ask.i (fun c1=>?_) (fun c1=>?_)
  ·have c1 : (decide (a < 0) != decide (b < 0)) = true:=c1
   rw [show plusB a b = true by rw [plusB,c1]; rfl] at hk
   conv=>whnf
   exact hk
  have c1 : (decide (a < 0) != decide (b < 0)) = false:=c1
  rw [show plusB a b = (decide (w64 (a + b) < 0) == decide (a < 0)) by rw [plusB,c1]; rfl] at hk
  conv=>whnf
  exact hk
 exact hk.elim
def rnumT : List U → Out SV
 | [.a la,.a lb]=>match asNum la,asNum lb with
  | some a,some b=>.need (PreG a b) (.all (Option NumD) (fun o=>addG a b = o) ⟨_,rfl⟩ fun o=>match o with
   | some m=>.ret (.t [.a m.cells,.c (I64 0)])
   | none=>.all Bool (fun _=>True) ⟨true,trivial⟩ fun c=>bif c then .ret (.t [.a noNum.cells,.c (I64 9)]) else .ret (.t [.a noNum.cells,.c (I64 13)]))
  | _,_=>.fail
 | _=>.fail
theorem rnum_ex : Ok G 33 rnumT:=by
 have hS : AllSound (B [(59,.pure (normG (B []) [31,31] addT)),(60,.pure (normG (B []) [2,2] rplusT))]) G:=.cons _ radd_ex (.cons _ rplus_ex noneS)
 refine okP hS Tryz.func33 rfl (by decide) fun K us hk=>?_
 unfold rnumT at hk
 split at hk
 ·split at hk
  ·rename_i la lb _ _ a b ha hb
   rw [asNum_eq ha,asNum_eq hb]
   refine ⟨by show 2 ≤ _; decide,?_⟩
   obtain ⟨hP,hk⟩:=hk
   have hk:=hk _ rfl
   unfold addG at hk
   conv=>whnf
   refine Ask.i (fun c1=>?_) (fun c1=>?_)
   ·have c1 : (!(a.kind == b.kind)) = true:=c1
    rw [show kindsB a.kind b.kind = false by have : a.kind ≠ b.kind:=(by simpa using c1); simp [kindsB,this]] at hk
    conv=>whnf
    exact hk false trivial
   have c1 : (!(a.kind == b.kind)) = false:=c1
   have e1 : a.kind = b.kind:=by simpa using c1
   conv=>whnf
   refine Ask.i (fun c2=>?_) (fun c2=>?_)
   ·have c2 : decide (a.kind < 1) = true:=c2
    have c2:=of_decide_eq_true c2
    rw [show kindsB a.kind b.kind = false by simp only [kindsB,Bool.and_eq_false_iff,Bool.or_eq_false_iff,decide_eq_false_iff_not]; right; omega] at hk
    conv=>whnf
    exact hk false trivial
   have c2 : decide (a.kind < 1) = false:=c2
   have c2:=of_decide_eq_false c2
   conv=>whnf
   refine Ask.i (fun c3=>?_) (fun c3=>?_)
   ·have c3 : decide (a.kind > 2) = true:=c3
    have c3:=of_decide_eq_true c3
    rw [show kindsB a.kind b.kind = false by simp only [kindsB,Bool.and_eq_false_iff,Bool.or_eq_false_iff,decide_eq_false_iff_not]; right; omega] at hk
    conv=>whnf
    exact hk false trivial
   have c3 : decide (a.kind > 2) = false:=c3
   have c3:=of_decide_eq_false c3
   rw [show kindsB a.kind b.kind = true by simp only [kindsB,Bool.and_eq_true,Bool.or_eq_true,decide_eq_true_eq]; omega] at hk
   conv=>whnf
   refine ⟨hP,?_⟩;conv=>whnf
   refine Ask.i (fun c4=>?_) (fun c4=>?_)
   ·have c4 : (a.kind == 2) = true:=c4
    have c4 : a.kind = 2:=by simpa using c4
    rw [show (b.kind == 1) = false by rw [← e1,c4]; rfl] at hk
    conv=>whnf
    intro c hc
    have hc : plusB (w64 a.n) (w64 b.n) = c:=hc
    rw [plusB_of] at hc
    unfold addI at hk
    cases c with
    | false =>
     rw [show sumBad a.n b.n = true by simpa using hc] at hk
     conv=>whnf
     exact hk true trivial
    | true =>
     rw [show sumBad a.n b.n = false by simpa using hc] at hk
     conv=>whnf
     exact hk
   have c4 : (a.kind == 2) = false:=c4
   have c4 : a.kind ≠ 2:=by simpa using c4
   rw [show (b.kind == 1) = true by rw [← e1]; simp; omega] at hk
   conv=>whnf
   exact hk
  exact hk.elim
 exact hk.elim
end Sx
