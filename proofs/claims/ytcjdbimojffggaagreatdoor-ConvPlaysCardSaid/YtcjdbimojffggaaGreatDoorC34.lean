/- Part of the proof: a machine of states for walks, and contracts of functions over it. Conditions: those that each theorem names. -/
import Derived.Test.YtcjdbimojffggaaGreatDoorC33
import Derived.Test.YtcjdbimojffggaaGreatDoorC10
import Derived.Maps.RangeRun
set_option linter.unusedVariables false
set_option linter.unusedSimpArgs false
namespace Sx
open Go Go.Proofs
set_option maxRecDepth 30000
variable {G : Glob}
theorem rstart_ok : Ok G 29 (numOf startOf):=by
 refine okP noneS Tryz.func29 rfl (by decide) fun K us hk=>?_
 unfold numOf at hk
 split at hk
 ·split at hk
  ·rename_i l _ p hl
   rw [asPt_eq hl]
   refine ⟨by show 1 ≤ _; decide,?_⟩
   have hk : ∀ x,startOf p = x → K (.u (.c (U64 x))):=hk;conv=>whnf
   refine Ask.i (fun c1=>?_) (fun c1=>?_)
   ·have c1 : (p.kd == 2) = true:=c1
    conv=>whnf
    exact hk _ (by rw [startOf,c1]; rfl)
   have c1 : (p.kd == 2) = false:=c1;conv=>whnf
   refine Ask.i (fun c2=>?_) (fun c2=>?_)
   ·have c2 : (p.kd == 3) = true:=c2
    conv=>whnf
    exact hk _ (by rw [startOf,c1,c2]; rfl)
   have c2 : (p.kd == 3) = false:=c2;conv=>whnf
   refine Ask.i (fun c3=>?_) (fun c3=>?_)
   ·have c3 : (p.kd == 4) = true:=c3
    conv=>whnf
    exact hk _ (by rw [startOf,c1,c2,c3]; rfl)
   have c3 : (p.kd == 4) = false:=c3;conv=>whnf
   exact hk _ (by rw [startOf,c1,c2,c3]; rfl)
  exact hk.elim
 exact hk.elim
theorem rtime_ok : Ok G 31 (numOf timeOf):=by
 refine okP noneS Tryz.func31 rfl (by decide) fun K us hk=>?_
 unfold numOf at hk
 split at hk
 ·split at hk
  ·rename_i l _ p hl
   rw [asPt_eq hl]
   refine ⟨by show 1 ≤ _; decide,?_⟩
   have hk : ∀ x,timeOf p = x → K (.u (.c (U64 x))):=hk;conv=>whnf
   refine Ask.i (fun c1=>?_) (fun c1=>?_)
   ·have c1 : (p.kd == 2) = true:=c1
    conv=>whnf
    exact hk _ (by rw [timeOf,c1]; rfl)
   have c1 : (p.kd == 2) = false:=c1;conv=>whnf
   refine Ask.i (fun c2=>?_) (fun c2=>?_)
   ·have c2 : (p.kd == 3) = true:=c2
    conv=>whnf
    exact hk _ (by rw [timeOf,c1,c2]; rfl)
   have c2 : (p.kd == 3) = false:=c2;conv=>whnf
   refine Ask.i (fun c3=>?_) (fun c3=>?_)
   ·have c3 : (p.kd == 4) = true:=c3
    conv=>whnf
    exact hk _ (by rw [timeOf,c1,c2,c3]; rfl)
   have c3 : (p.kd == 4) = false:=c3;conv=>whnf
   exact hk _ (by rw [timeOf,c1,c2,c3]; rfl)
  exact hk.elim
 exact hk.elim
def bareT : List U → Out SV
 | [.a l]=>match asPt l with
  | some p=>.all PtD (fun q=>bare p = q) ⟨_,rfl⟩ fun q=>agg q.cells
  | none=>.fail
 | _=>.fail
theorem bare_ok : Ok G 53 bareT:=by
 refine okP noneS Tryz.func53 rfl (by decide) fun K us hk=>?_
 unfold bareT at hk
 split at hk
 ·split at hk
  ·rename_i l _ p hl
   rw [asPt_eq hl]
   refine ⟨by show 1 ≤ _; decide,?_⟩
   have hk : ∀ q,bare p = q → K (.u (.a q.cells)):=hk;conv=>whnf
   refine Ask.i (fun c1=>?_) (fun c1=>?_)
   ·have c1 : (p.kd == 2) = true:=c1
    conv=>whnf
    exact hk ⟨2,p.n,noH,noE 0⟩ (by rw [bare,c1]; rfl)
   have c1 : (p.kd == 2) = false:=c1;conv=>whnf
   refine Ask.i (fun c2=>?_) (fun c2=>?_)
   ·have c2 : (p.kd == 3) = true:=c2
    conv=>whnf
    exact hk ⟨3,noNum,p.h,noE 0⟩ (by rw [bare,c1,c2]; rfl)
   have c2 : (p.kd == 3) = false:=c2;conv=>whnf
   refine Ask.i (fun c3=>?_) (fun c3=>?_)
   ·have c3 : (p.kd == 4) = true:=c3
    conv=>whnf
    exact hk ⟨4,noNum,noH,p.e⟩ (by rw [bare,c1,c2,c3]; rfl)
   have c3 : (p.kd == 4) = false:=c3;conv=>whnf
   exact hk ⟨0,noNum,noH,noE 0⟩ (by rw [bare,c1,c2,c3]; rfl)
  exact hk.elim
 exact hk.elim
def R6 : List (List D):=[[.str ⟨#[116,111,108,100]⟩],[.str ⟨#[115,116,97,114,116,101,100]⟩],[.str ⟨#[114,101,115,116,97,114,116,101,100]⟩],[.str ⟨#[101,108,100,101,114]⟩],[.str ⟨#[102,117,108,108]⟩],[.str ⟨#[117,110,102,105,116]⟩]]
def nameF (v : Int) : ByteArray:=bif decide (v < 0) || decide (v ≥ 6) then ⟨#[63]⟩ else (cellD (R6.getD v.toNat []) 0).toStr
def nameT : List U → Out SV
 | [.c (.v (.int .i64 v))]=>.all ByteArray (fun b=>nameF v = b) ⟨_,rfl⟩ fun b=>one (St b)
 | _=>.fail
theorem name_ok : Ok G 19 nameT:=by
 refine okP noneS Tryz.func19 rfl (by decide) fun K us hk=>?_
 unfold nameT at hk
 split at hk
 ·rename_i v
  refine ⟨by show 1 ≤ _; decide,?_⟩
  have hk : ∀ b,nameF v = b → K (.u (.c (St b))):=hk;conv=>whnf
  refine Ask.i (fun c1=>?_) (fun c1=>?_)
  ·have c1 : decide (v < 0) = true:=c1
   conv=>whnf
   exact hk _ (by rw [nameF,c1]; rfl)
  have c1 : decide (v < 0) = false:=c1;conv=>whnf
  refine Ask.i (fun c2=>?_) (fun c2=>?_)
  ·have c2 : decide (v ≥ 6) = true:=c2
   conv=>whnf
   exact hk _ (by rw [nameF,c1,c2]; rfl)
  have c2 : decide (v ≥ 6) = false:=c2;conv=>whnf
  refine ⟨⟨by have:=of_decide_eq_false c1; omega,by have:=of_decide_eq_false c2; show v < 6; omega⟩,?_⟩;conv=>whnf
  exact hk _ (by rw [nameF,c1,c2]; rfl)
 exact hk.elim
theorem verdict_ok : Ok G 20 nameT:=by
 refine okP noneS Tryz.func20 rfl (by decide) fun K us hk=>?_
 unfold nameT at hk
 split at hk
 ·rename_i v
  refine ⟨by show 1 ≤ _; decide,?_⟩
  have hk : ∀ b,nameF v = b → K (.u (.c (St b))):=hk;conv=>whnf
  refine Ask.i (fun c1=>?_) (fun c1=>?_)
  ·have c1 : decide (v < 0) = true:=c1
   conv=>whnf
   exact hk _ (by rw [nameF,c1]; rfl)
  have c1 : decide (v < 0) = false:=c1;conv=>whnf
  refine Ask.i (fun c2=>?_) (fun c2=>?_)
  ·have c2 : decide (v ≥ 6) = true:=c2
   conv=>whnf
   exact hk _ (by rw [nameF,c1,c2]; rfl)
  have c2 : decide (v ≥ 6) = false:=c2;conv=>whnf
  refine ⟨⟨by have:=of_decide_eq_false c1; omega,by have:=of_decide_eq_false c2; show v < 6; omega⟩,?_⟩;conv=>whnf
  exact hk _ (by rw [nameF,c1,c2]; rfl)
 exact hk.elim
end Sx
namespace Sx
open Go Go.Proofs
open Go.Proofs.SxPu (addV subV)
set_option maxRecDepth 30000
variable {G : Glob}
def rtB (st bu ti nw : Int) (n : Nat) : Blk:=.cells 103 [I64 st,I64 bu,I64 ti,I64 nw,.r n 101]
def RTk (st bu ti nw : Int) (rs : D) : List (Option Blk):=[some (rtB st bu ti nw 50001),some (.row 101 rs)]
def outO' (o : Option PtD) (st bu ti nw : Int) (rs : D) : Out RF:=match o with
 | some q=>.ret (.t [.a q.cells,.c (Bo true)],RTk st bu ti nw rs,[])
 | none=>.all PtD (fun _=>True) ⟨zeroP,trivial⟩ fun q=>.ret (.t [.a q.cells,.c (Bo false)],RTk st bu ti nw rs,[])
def fittedT (k : Nat) : List U → List Blk → Out RF
 | [.c (.p 50000 0),.a q],[.cells 103 [.v (.int .i64 st),.v (.int .i64 bu),.v (.int .i64 ti),.v (.int .i64 nw),.r 50001 101],.row 101 rs]=>match asPt q with
  | some p=>.need (POk k p) (.all (Option PtD) (fun o=>fitV bu p = o) ⟨_,rfl⟩ fun o=>outO' o st bu ti nw rs)
  | none=>.fail
 | _,_=>.fail
theorem fittedT_ok {k : Nat} : OkF G 49 (fittedT k):=by
 have hS : AllSound (B [(53,.pure (normG (B []) [55] bareT)),(81,.pure (normG (B []) [44,3] rfitU))]) G:=.cons _ bare_ok (.cons _ rfitU_ex noneS)
 refine okF false hS Tryz.func49 rfl (by decide) fun K us lent hk=>?_
 unfold fittedT at hk
 split at hk
 ·split at hk
  ·rename_i q0 st bu ti nw rs _ p hl
   rw [asPt_eq hl]
   refine ⟨by show 2 ≤ _; decide,?_⟩
   obtain ⟨hg,hk⟩:=hk
   have yes : ∀ q,fitV bu p = some q → K (.t [.a q.cells,.c (Bo true)],RTk st bu ti nw rs,[]):=fun q hq=>hk (some q) hq
   have no : fitV bu p = none → ∀ q : PtD,K (.t [.a q.cells,.c (Bo false)],RTk st bu ti nw rs,[]):=fun h q=>hk none h q trivial
   clear hk
   conv=>whnf
   intro q hq
   by_cases k2 : p.kd = 2
   ·obtain rfl : mkN p.n = q:=by rw [← hq,bare,k2]; rfl
    conv=>whnf
    refine ⟨mixed,[(4,[4])],[(0,[]),(2,[4])],[],by kernel_rfl,?_⟩;conv=>whnf
    exact yes (mkN p.n) (by rw [fitV,k2]; rfl)
   by_cases k3 : p.kd = 3
   ·obtain rfl : mkH p.h = q:=by rw [← hq,bare,k3]; rfl
    conv=>whnf
    refine ⟨mixed,[(4,[4])],[(0,[]),(2,[4])],[],by kernel_rfl,?_⟩;conv=>whnf
    exact yes (mkH p.h) (by rw [fitV,k3]; rfl)
   by_cases k4 : p.kd = 4
   ·obtain rfl : mkX p.e = q:=by rw [← hq,bare,k4]; rfl
    have gE:=hg.2.2 k4
    conv=>whnf
    refine ⟨mixed,[(11,[6])],[(1,[]),(5,[]),(6,[])],[],by kernel_rfl,?_⟩;conv=>whnf
    refine ⟨gE.ok,?_⟩;conv=>whnf
    intro o ho
    have ho : fitR p.e bu = o:=ho
    obtain ⟨o,c⟩:=o
    cases o with
    | none =>
     have hc : c = 9:=by
      unfold fitR at ho
      split at ho
      ·exact (Prod.mk.inj ho).2.symm
      rename_i r hr
      cases hb : fitBad p.e r.1.toNat with
      | true=>rw [hb] at ho; exact (Prod.mk.inj ho).2.symm
      | false=>rw [hb] at ho; cases ho
     subst hc
     conv=>whnf
     exact no (by rw [fitV,k4,ho]; rfl) (mkX (noE 0))
    | some r =>
     conv=>whnf
     exact yes (mkX r) (by rw [fitV,k4,ho]; rfl)
   have e2 : (p.kd == 2) = false:=by simpa using k2
   have e3 : (p.kd == 3) = false:=by simpa using k3
   have e4 : (p.kd == 4) = false:=by simpa using k4
   obtain rfl : zeroP = q:=by rw [← hq,bare,e2,e3,e4]; rfl
   conv=>whnf
   refine ⟨mixed,[(4,[4])],[(0,[]),(2,[4])],[],by kernel_rfl,?_⟩;conv=>whnf
   exact no (by rw [fitV,e2,e3,e4]; rfl) zeroP
  exact hk.elim
 exact hk.elim
theorem expR_code {a b : ExpD} {most c : Int} (h : expR a b most = (none,c)) : c = 13 ∨ c = 9:=by
 unfold expR at h
 cases h1 : (a.thr != b.thr) with
 | true=>rw [h1] at h; exact .inl (Prod.mk.inj h).2.symm
 | false =>
  rw [h1] at h
  cases h2 : shV a b most with
  | none=>rw [h2] at h; exact .inr (Prod.mk.inj h).2.symm
  | some r =>
   rw [h2] at h
   simp only [cond_false] at h
   cases h3 : addBad a b r.1.toNat r.2.1.toNat with
   | true=>rw [h3] at h; exact .inr (Prod.mk.inj h).2.symm
   | false=>rw [h3] at h; cases h
def mergedT (k : Nat) : List U → List Blk → Out RF
 | [.c (.p 50000 0),.a qa,.a qb],[.cells 103 [.v (.int .i64 st),.v (.int .i64 bu),.v (.int .i64 ti),.v (.int .i64 nw),.r 50001 101],.row 101 rs]=>match asPt qa,asPt qb with
  | some a,some b=>.need (GS k a ∧ Bare k b) (.all (Option PtD) (fun o=>mergeV bu a b = o) ⟨_,rfl⟩ fun o=>outO' o st bu ti nw rs)
  | _,_=>.fail
 | _,_=>.fail
set_option maxHeartbeats 1000000 in
theorem mergedT_ok {k : Nat} : OkF G 52 (mergedT k):=by
 have hS : AllSound (B [(33,.pure (normG (B []) [35,35] rnumT)),(82,.pure (normG (B []) [40,40] rhistT)),(83,.pure (normG (B []) [44,44,3] rexpU))]) G:=.cons _ rnum_ex (.cons _ rhist_ex (.cons _ rexpU_ex noneS))
 refine okF false hS Tryz.func52 rfl (by decide) fun K us lent hk=>?_
 unfold mergedT at hk
 split at hk
 ·split at hk
  ·rename_i qa qb st bu ti nw rs _ _ a b ha hb
   rw [asPt_eq ha,asPt_eq hb]
   refine ⟨by show 3 ≤ _; decide,?_⟩
   obtain ⟨⟨gA,gB⟩,hk⟩:=hk
   have yes : ∀ q,mergeV bu a b = some q → K (.t [.a q.cells,.c (Bo true)],RTk st bu ti nw rs,[]):=fun q hq=>hk (some q) hq
   have no : mergeV bu a b = none → ∀ q : PtD,K (.t [.a q.cells,.c (Bo false)],RTk st bu ti nw rs,[]):=fun h q=>hk none h q trivial
   clear hk ha hb
   have sA:=gA.st
   clear gA
   cases sA with
   | n nA =>
    rename_i na
    cases gB with
    | n nB =>
     rename_i nb
     conv=>whnf
     refine ⟨⟨nA.2,nB.2⟩,?_⟩;conv=>whnf
     intro o ho
     have ho : addG na nb = o:=ho
     cases o with
     | some m =>
      conv=>whnf
      exact yes (mkN m) (by show (addG na nb).map mkN = _; rw [ho]; rfl)
     | none =>
      conv=>whnf
      intro e he
      cases e with
      | true =>
       conv=>whnf
       exact no (by show (addG na nb).map mkN = _; rw [ho]; rfl) (mkN noNum)
      | false =>
       conv=>whnf
       exact no (by show (addG na nb).map mkN = _; rw [ho]; rfl) (mkN noNum)
    | _ =>
     conv=>whnf
     exact no rfl zeroP
   | h hA =>
    rename_i ha
    cases gB with
    | h hB =>
     rename_i hb
     conv=>whnf
     refine ⟨⟨hA.u,hB.u⟩,?_⟩;conv=>whnf
     intro c hc
     have hc : unlikeB ha hb = c:=hc
     cases c with
     | true =>
      conv=>whnf
      exact no (by show (histR ha hb).1.map mkH = _; rw [histR,hc]; rfl) (mkH noH)
     | false =>
      conv=>whnf
      intro c hc2
      have hc2 : hBad ha hb = c:=hc2
      cases c with
      | true =>
       conv=>whnf
       exact no (by show (histR ha hb).1.map mkH = _; rw [histR,hc,hc2]; rfl) (mkH noH)
      | false =>
       conv=>whnf
       exact yes (mkH (histE ha hb (zS ha hb))) (by show (histR ha hb).1.map mkH = _; rw [histR,hc,hc2]; rfl)
    | _ =>
     conv=>whnf
     exact no rfl zeroP
   | x xA =>
    rename_i ea
    cases gB with
    | x xB =>
     rename_i eb
     conv=>whnf
     refine ⟨mixed,[(13,[8])],[(1,[]),(3,[]),(7,[]),(8,[])],[],by kernel_rfl,?_⟩;conv=>whnf
     refine ⟨⟨xA.ok,xB.ok⟩,?_⟩;conv=>whnf
     intro o ho
     have ho : expR ea eb bu = o:=ho
     obtain ⟨o,c⟩:=o
     cases o with
     | none =>
      have e : mergeV bu (mkX ea) (mkX eb) = none:=by show (expR ea eb bu).1.map mkX = _; rw [ho]; rfl
      rcases expR_code ho with rfl | rfl
      ·conv=>whnf
       exact no e (mkX (noE 0))
      conv=>whnf
      exact no e (mkX (noE 0))
     | some r =>
      conv=>whnf
      exact yes (mkX r) (by show (expR ea eb bu).1.map mkX = _; rw [ho]; rfl)
    | _ =>
     conv=>whnf
     exact no rfl zeroP
  exact hk.elim
 exact hk.elim
theorem lexR_code {a b : ExpD} {c : Int} (h : lexR a b = (none,c)) : c = 13 ∨ c = 9:=by
 unfold lexR at h
 cases h1 : (a.scale != b.scale || a.thr != b.thr) with
 | true=>rw [h1] at h; exact .inl (Prod.mk.inj h).2.symm
 | false =>
  rw [h1] at h
  simp only [cond_false] at h
  cases h3 : lexBad a b with
  | true=>rw [h3] at h; exact .inr (Prod.mk.inj h).2.symm
  | false=>rw [h3] at h; cases h
set_option maxHeartbeats 1000000 in
theorem rlessT_ok {k : Nat} : Ok G 55 (lessT k):=by
 have hS : AllSound (B [(29,.pure (normG (B []) [55] (numOf startOf))),(87,.pure (normG (B []) [35,35,4] rlessNT)),(88,.pure (normG (B []) [40,40] rlhistT)),(89,.pure (normG (B []) [44,44] rlexU))]) G:=.cons _ rstart_ok (.cons _ rlessN_ex (.cons _ rlhist_ex (.cons _ rlexU_ex noneS)))
 refine okP hS Tryz.func55 rfl (by decide) fun K us hk=>?_
 unfold lessT at hk
 split at hk
 ·split at hk
  ·rename_i qa qb mono _ _ a b ha hb
   rw [asPt_eq ha,asPt_eq hb]
   refine ⟨by show 3 ≤ _; decide,?_⟩
   obtain ⟨⟨gA,gB⟩,hk⟩:=hk
   have yes : ∀ q,takeV mono a b = some q → K (.t [.a q.cells,.c (Bo true)]):=fun q hq=>hk (some q) hq
   have no : takeV mono a b = none → ∀ q : PtD,K (.t [.a q.cells,.c (Bo false)]):=fun h q=>hk none h q trivial
   clear hk ha hb
   have sA:=gA.st
   have sB:=gB.st
   clear gA gB
   cases sA with
   | n nA =>
    rename_i na
    cases sB with
    | n nB =>
     rename_i nb
     conv=>whnf
     refine ⟨mixed,[],[(1,[]),(3,[]),(6,[]),(7,[]),(8,[]),(9,[])],[],by kernel_rfl,?_⟩;conv=>whnf
     intro x hx;conv=>whnf
     intro y hy
     obtain rfl : na.start = x:=hx
     obtain rfl : nb.start = y:=hy
     conv=>whnf
     refine Ask.i (fun c=>?_) (fun c=>?_)
     ·have c : (!(na.start == nb.start)) = true:=c
      conv=>whnf
      exact no (by show (bif (!(na.start == nb.start)) then none else (lessG mono na nb).map mkN) = none; rw [c]; rfl) zeroP
     have c : (!(na.start == nb.start)) = false:=c
     have e : takeV mono (mkN na) (mkN nb) = (lessG mono na nb).map mkN:=by show (bif (!(na.start == nb.start)) then none else (lessG mono na nb).map mkN) = _; rw [c]; rfl
     conv=>whnf
     refine ⟨⟨nA.2,nB.2⟩,?_⟩;conv=>whnf
     intro o ho
     have ho : lessG mono na nb = o:=ho
     cases o with
     | some m =>
      conv=>whnf
      exact yes (mkN m) (by rw [e,ho]; rfl)
     | none =>
      conv=>whnf
      intro er he
      cases er with
      | true =>
       conv=>whnf
       exact no (by rw [e,ho]; rfl) (mkN noNum)
      | false =>
       conv=>whnf
       exact no (by rw [e,ho]; rfl) (mkN noNum)
    | _ =>
     conv=>whnf
     refine ⟨mixed,[],[(1,[]),(3,[]),(6,[]),(7,[]),(8,[]),(9,[])],[],by kernel_rfl,?_⟩;conv=>whnf
     exact no rfl zeroP
   | h hA =>
    rename_i ha
    cases sB with
    | h hB =>
     rename_i hb
     conv=>whnf
     refine ⟨mixed,[],[(1,[]),(3,[]),(6,[]),(7,[]),(8,[]),(9,[])],[],by kernel_rfl,?_⟩;conv=>whnf
     intro x hx;conv=>whnf
     intro y hy
     obtain rfl : ha.start = x:=hx
     obtain rfl : hb.start = y:=hy
     conv=>whnf
     refine Ask.i (fun c=>?_) (fun c=>?_)
     ·have c : (!(ha.start == hb.start)) = true:=c
      conv=>whnf
      exact no (by show (bif (!(ha.start == hb.start)) then none else (lhR ha hb).1.map mkH) = none; rw [c]; rfl) zeroP
     have c : (!(ha.start == hb.start)) = false:=c
     have e : takeV mono (mkH ha) (mkH hb) = (lhR ha hb).1.map mkH:=by show (bif (!(ha.start == hb.start)) then none else (lhR ha hb).1.map mkH) = _; rw [c]; rfl
     conv=>whnf
     refine ⟨⟨hA.u,hB.u⟩,?_⟩;conv=>whnf
     intro c1 hc1
     have hc1 : unlikeB ha hb = c1:=hc1
     cases c1 with
     | true =>
      conv=>whnf
      exact no (by rw [e,lhR,hc1]; rfl) (mkH noH)
     | false =>
      conv=>whnf
      intro c2 hc2
      have hc2 : lBad ha hb = c2:=hc2
      cases c2 with
      | true =>
       conv=>whnf
       exact no (by rw [e,lhR,hc1,hc2]; rfl) (mkH noH)
      | false =>
       conv=>whnf
       exact yes (mkH (lhE ha hb (zD ha hb))) (by rw [e,lhR,hc1,hc2]; rfl)
    | _ =>
     conv=>whnf
     refine ⟨mixed,[],[(1,[]),(3,[]),(6,[]),(7,[]),(8,[]),(9,[])],[],by kernel_rfl,?_⟩;conv=>whnf
     exact no rfl zeroP
   | x xA =>
    rename_i ea
    cases sB with
    | x xB =>
     rename_i eb
     conv=>whnf
     refine ⟨mixed,[],[(1,[]),(3,[]),(6,[]),(7,[]),(8,[]),(9,[])],[],by kernel_rfl,?_⟩;conv=>whnf
     intro x hx;conv=>whnf
     intro y hy
     obtain rfl : ea.start = x:=hx
     obtain rfl : eb.start = y:=hy
     conv=>whnf
     refine Ask.i (fun c=>?_) (fun c=>?_)
     ·have c : (!(ea.start == eb.start)) = true:=c
      conv=>whnf
      exact no (by show (bif (!(ea.start == eb.start)) then none else (lexR ea eb).1.map mkX) = none; rw [c]; rfl) zeroP
     have c : (!(ea.start == eb.start)) = false:=c
     have e : takeV mono (mkX ea) (mkX eb) = (lexR ea eb).1.map mkX:=by show (bif (!(ea.start == eb.start)) then none else (lexR ea eb).1.map mkX) = _; rw [c]; rfl
     conv=>whnf
     refine ⟨⟨xA.ok,xB.ok⟩,?_⟩;conv=>whnf
     intro o ho
     have ho : lexR ea eb = o:=ho
     obtain ⟨o,c2⟩:=o
     cases o with
     | none =>
      have e9 : takeV mono (mkX ea) (mkX eb) = none:=by rw [e,ho]; rfl
      rcases lexR_code ho with rfl | rfl
      ·conv=>whnf
       exact no e9 (mkX (noE 0))
      conv=>whnf
      exact no e9 (mkX (noE 0))
     | some r =>
      conv=>whnf
      exact yes (mkX r) (by rw [e,ho]; rfl)
    | _ =>
     conv=>whnf
     refine ⟨mixed,[],[(1,[]),(3,[]),(6,[]),(7,[]),(8,[]),(9,[])],[],by kernel_rfl,?_⟩;conv=>whnf
     exact no rfl zeroP
  exact hk.elim
 exact hk.elim
end Sx
namespace Sx
open Go Go.ChangeMaps
theorem find_mem {s : ByteArray} : ∀ {l : List (ByteArray × List D)} {j : Nat} {kr : ByteArray × List D},l[j]? = some kr → kr.1 = s → findM s l ≠ none
 | p :: l,0,kr,h,e=>by
  simp only [List.getElem?_cons_zero,Option.some.injEq] at h
  subst h
  simp [findM,e]
 | p :: l,j + 1,kr,h,e=>by
  simp only [List.getElem?_cons_succ] at h
  unfold findM
  split
  ·simp
  exact find_mem h e
 | [],_,_,h,_=>by simp at h
theorem find_at {l : List (ByteArray × List D)} {es : List MapEntry} (hn : (l.map (·.1)).Nodup) (hl : es.length = l.length) (hk : ∀ (j : Nat) kr,l[j]? = some kr → ∃ v b,es[j]? = some ⟨.string kr.1,v,b⟩) {j : Nat} {kr : ByteArray × List D} (hj : l[j]? = some kr) :
  ∃ v,Instr.findNow .string (.string kr.1) es 0 = some (some (j,v)):=by
 rcases findNow_str kr.1 l es 0 hl hk with ⟨_,e2,_⟩ | ⟨j',kr',v,b,e1,e2,e3,e4,_,_⟩
 ·exact absurd e2 (find_mem hj rfl)
 have h1 : (l.map (·.1))[j']? = some kr.1:=by simp [e2,e4]
 have h2 : (l.map (·.1))[j]? = some kr.1:=by simp [hj]
 have hlt : j' < (l.map (·.1)).length:=(List.getElem?_eq_some_iff.1 h1).1
 obtain rfl : j' = j:=(List.getElem?_inj hlt hn).1 (h1.trans h2.symm)
 exact ⟨v,by rw [e1,Nat.zero_add]⟩
theorem filter_erase {α : Type} (p : α → Bool) : ∀ {l : List α} {j : Nat} {x : α},l[j]? = some x → p x = false → (l.eraseIdx j).filter p = l.filter p
 | a :: l,0,x,h,hp=>by
  simp only [List.getElem?_cons_zero,Option.some.injEq] at h
  subst h
  simp [hp]
 | a :: l,j + 1,x,h,hp=>by
  simp only [List.getElem?_cons_succ] at h
  rw [List.eraseIdx_cons_succ,List.filter_cons,List.filter_cons,filter_erase p h hp]
 | [],_,_,h,_=>by simp at h
theorem toList_erase {es : Array MapEntry} {j : Nat} : (es.eraseIdxIfInBounds j).toList = es.toList.eraseIdx j:=by
 unfold Array.eraseIdxIfInBounds
 split
 ·simp
 rename_i h
 rw [List.eraseIdx_of_length_le (by simpa using h)]
theorem getE {α : Type} {l : List α} {j i : Nat} {x : α} (h : (l.eraseIdx j)[i]? = some x) : ∃ k,k ≠ j ∧ l[k]? = some x ∧ k = if i < j then i else i + 1:=by
 rw [List.getElem?_eraseIdx] at h
 split at h
 ·rename_i c; exact ⟨i,by omega,h,by rw [if_pos c]⟩
 rename_i c; exact ⟨i + 1,by omega,h,by rw [if_neg c]⟩
section
variable {T : Tab} {w : World} {A : Nat → Prop} {t : TypeId} {l l0 : List (ByteArray × List D)} {es : Array MapEntry} {clock : Nat} {p : ByteArray × List D → Bool} {seen : Array Nat}
theorem MapRd.erase (h : MapRd T w A t l es clock) (j : Nat) : MapRd T w A t (l.eraseIdx j) (es.eraseIdxIfInBounds j) clock:=by
 obtain ⟨c,h1,h2,h3,h4,h5⟩:=h
 have h2' : es.toList.length = l.length:=by simpa using h2
 refine ⟨c,h1,?_,?_,?_,?_⟩
 ·rw [← Array.length_toList,toList_erase,List.length_eraseIdx,List.length_eraseIdx,h2']
 ·rw [toList_erase,map_eraseIdx]
  exact h3.sublist (List.eraseIdx_sublist ..)
 ·intro e he
  have : e ∈ es.toList.eraseIdx j:=by rw [← toList_erase]; exact Array.mem_toList_iff.2 he
  exact h4 e (Array.mem_toList_iff.1 (List.mem_of_mem_eraseIdx this))
 intro i kr hi
 obtain ⟨k,_,hk,ek⟩:=getE hi
 obtain ⟨h6,born,vs,h7,h8,h9⟩:=h5 k kr hk
 refine ⟨h6,born,vs,?_,h8,h9⟩
 rw [← Array.getElem?_toList,toList_erase,List.getElem?_eraseIdx]
 rw [← Array.getElem?_toList] at h7
 split
 ·rename_i c; rw [if_pos c] at ek; subst ek; exact h7
 rename_i c; rw [if_neg c] at ek; subst ek; exact h7
structure Iter (T : Tab) (w : World) (A : Nat → Prop) (t : TypeId) (p : ByteArray × List D → Bool) (l0 l : List (ByteArray × List D)) (es : Array MapEntry) (clock : Nat) (seen : Array Nat) : Prop where
 rd : MapRd T w A t l es clock
 keys : (l.map (·.1)).Nodup
 kept : ∀ (j : Nat) e kr,es[j]? = some e → l[j]? = some kr → seen.contains e.born = true → p kr = true
 same : l.filter p = l0.filter p
theorem born_ix {L : List MapEntry} (hn : (L.map (·.born)).Nodup) {i j : Nat} {e f : MapEntry} (h1 : L[i]? = some e) (h2 : L[j]? = some f) (h : e.born = f.born) : i = j:=by
 have a1 : (L.map (·.born))[i]? = some e.born:=by simp [h1]
 have a2 : (L.map (·.born))[j]? = some e.born:=by simp [h2,h]
 exact (List.getElem?_inj (List.getElem?_eq_some_iff.1 a1).1 hn).1 (a1.trans a2.symm)
theorem Iter.keep (h : Iter T w A t p l0 l es clock seen) {j : Nat} {e : MapEntry} {kr : ByteArray × List D} (he : es[j]? = some e) (hk : l[j]? = some kr) (hp : p kr = true) : Iter T w A t p l0 l es clock (seen.push e.born):=by
 refine ⟨h.rd,h.keys,fun i f kr' h1 h2 h3=>?_,h.same⟩
 rw [contains_push] at h3
 cases hc : seen.contains f.born with
 | true=>exact h.kept i f kr' h1 h2 hc
 | false =>
  rw [hc,Bool.false_or,beq_iff_eq] at h3
  obtain ⟨c,_,_,hn,_⟩:=h.rd
  obtain rfl:=born_ix hn (by simpa using h1) (by simpa using he) h3
  rw [hk] at h2
  obtain rfl:=Option.some.inj h2
  exact hp
theorem Iter.drop (h : Iter T w A t p l0 l es clock seen) {j : Nat} {e : MapEntry} {kr : ByteArray × List D} (he : es[j]? = some e) (hk : l[j]? = some kr) (hp : p kr = false) : Iter T w A t p l0 (l.eraseIdx j) (es.eraseIdxIfInBounds j) clock (seen.push e.born):=by
 refine ⟨h.rd.erase j,?_,fun i f kr' h1 h2 h3=>?_,(filter_erase p hk hp).trans h.same⟩
 ·rw [map_eraseIdx]; exact h.keys.sublist (List.eraseIdx_sublist ..)
 rw [← Array.getElem?_toList,toList_erase] at h1
 obtain ⟨k,hkj,hk1,ek⟩:=getE h1
 obtain ⟨k',_,hk2,ek'⟩:=getE h2
 obtain rfl : k' = k:=by rw [ek,ek']
 have hk1' : es[k']? = some f:=by simpa using hk1
 rw [contains_push] at h3
 cases hc : seen.contains f.born with
 | true=>exact h.kept k' f kr' hk1' hk2 hc
 | false =>
  rw [hc,Bool.false_or,beq_iff_eq] at h3
  obtain ⟨c,_,_,hn,_⟩:=h.rd
  exact absurd (born_ix hn hk1 (by simpa using he) h3) hkj
theorem Iter.done (h : Iter T w A t p l0 l es clock seen) (h0 : (leftOf es seen).size = 0) : l = l0.filter p:=by
 rw [← h.same]
 refine (List.filter_eq_self.2 fun kr hkr=>?_).symm
 obtain ⟨j,hj⟩:=List.mem_iff_getElem?.1 hkr
 obtain ⟨c,_,_,_,_,h5⟩:=h.rd
 obtain ⟨_,born,vs,h7,_⟩:=h5 j kr hj
 exact h.kept j _ kr h7 hj (all_seen es seen h0 _ (Array.mem_toList_iff.2 (Array.mem_of_getElem? h7)))
theorem left_drop {e : MapEntry} {j : Nat} (he : e ∈ (leftOf es seen).toList) : (leftOf (es.eraseIdxIfInBounds j) (seen.push e.born)).size < (leftOf es seen).size:=by
 refine Nat.lt_of_le_of_lt ?_ (left_shrinks es seen e he)
 have e1 : ∀ (xs : Array MapEntry) (q : MapEntry → Bool),(xs.filter q).size = (xs.toList.filter q).length:=fun xs q=>by rw [← Array.toList_filter,Array.length_toList]
 unfold leftOf
 rw [e1,e1,toList_erase]
 exact ((List.eraseIdx_sublist ..).filter _).length_le
end
theorem delete_run {P : Program} {t kt e kt' ty : TypeId} {s : ByteArray} {b j : Nat} {es : Array MapEntry} {clock : Nat} {w : World} {v : Value} (hu : P.underlying t = some (.map kt e)) (hk : P.underlying kt = some .string) (hg : w.heap[b]? = some (.map es clock))
  (hf : Instr.findNow .string (.string s) es.toList 0 = some (some (j,v))) :
  (Builtin.delete_ #[t,kt'] ty #[.map (some b),.string s]).run P w = .ok (.tuple #[]) (setBlock w b (.map (es.eraseIdxIfInBounds j) clock)):=by
 simp [Builtin.delete_,Sem.run_bind,run_underlying hu,Result.andThen_ok,getObj_run hg,check_run hk,findKey_run hk hf,setObj_run hg,setBlock]
theorem setB_fr {w : World} {b : Nat} {o : Obj} : Fr w (setBlock w b o) fun x=>x = b:=by
 refine ⟨rfl,rfl,rfl,by simp [setBlock],fun x hx hn=>?_⟩
 show (w.heap.setIfInBounds b o)[x]? = _
 rw [Array.getElem?_setIfInBounds_ne (Ne.symm hn)]
theorem setB_at {w : World} {b : Nat} {o : Obj} (h : b < w.heap.size) : (setBlock w b o).heap[b]? = some o:=by
 show (w.heap.setIfInBounds b o)[b]? = _
 simp [h]
theorem list_run {P : Program} {ops : Array Oper} {Q : Exit → Act → World → Prop} {o : Oper} {rest : List Oper} {a : Act} {w w' : World} {v : Value} (hg : o.guard = none) (hr : (execOp a.eval o).run P w = .ok (.value v) w') (h : wpList P ops Q rest (a.put o.dst v) w') : wpList P ops Q (o :: rest) a w:=by
 unfold wpList
 rw [if_pos (by simp [Region.wanted,hg])]
 exact .inl (wp_of_value hr h)
theorem list_call {P : Program} {ops : Array Oper} {Q : Exit → Act → World → Prop} {o : Oper} {rest : List Oper} {a : Act} {w : World} {f : FuncId} {vals : Array Value} (hg : o.guard = none) (hr : (execOp a.eval o).run P w = .ok (.enter f vals) w)
  (h : Calls P f vals w fun e w'=>∃ v,e = .returned v ∧ wpList P ops Q rest (a.put o.dst v) w') : wpList P ops Q (o :: rest) a w:=by
 unfold wpList
 rw [if_pos (by simp [Region.wanted,hg])]
 refine .inl ?_
 unfold Oper.wp
 rw [hr,Oper.upon_enter]
 refine h.mono fun e w' ⟨v,e1,e2⟩=>?_
 subst e1
 exact e2
section
variable {S : Pr} {E : Ctx} {β : Nat → Option Nat} {env : Env} {own : Own} {a : Act} {w : World}
variable {G : Glob} (hT : TOk S.P S.tt) (hS : AllSound S G) (hET : E.T = S.T) (hEG : E.G = G) (hlow : ∀ n,n < 50000 → E.own0 n = none) (hhi : ∀ n,100000 ≤ n → E.own0 n = none)
include hT hS hET hEG hlow hhi in
theorem runOps_app {ops : Array Oper} {Q : Exit → Act → World → Prop} {rest : List Oper} : ∀ (l : List Oper) {β : Nat → Option Nat} {env : Env} {own : Own} {a : Act} {w : World} {N : Env → Own → Prop},Rel E β env own a w → runOps S E.nt ops.toList l env own N →
  (∀ a w,Ends E N a w → wpList S.P ops Q rest a w) → wpList S.P ops Q (l ++ rest) a w
 | [],β,env,own,a,w,N,h,hk,hQ=>hQ a w ⟨env,own,β,hk,h⟩
 | o :: r,β,env,own,a,w,N,h,hk,hQ=>by
  simp only [runOps] at hk
  have doit : ∀ {env : Env},Rel E β env own a w → ((stepO S o env own).wp fun x=>match x with | (sv,e1,o1)=>onSet E.nt e1 o.dst sv fun env'=>runOps S E.nt ops.toList r env' o1 N) → o.wp S.P a w (wpList S.P ops Q (r ++ rest)) Q:=by
   intro env h hk
   refine stepO_sound hT hS h hET hEG hlow hhi hk fun sv env' own' β' v w' e1 e2 e3=>?_
   obtain ⟨env2,k1,k2⟩:=onSet_rel e2 e1 e3
   exact runOps_app r k2 k1 hQ
  have skip : ∀ {env : Env},Rel E β env own a w → (onSet E.nt env o.dst (.t []) fun env'=>runOps S E.nt ops.toList r env' own N) → wpList S.P ops Q (r ++ rest) (a.put o.dst undef) w:=by
   intro env h hk
   obtain ⟨env2,k1,k2⟩:=onSet_rel h hk den_undef
   exact runOps_app r k2 k1 hQ
  show wpList S.P ops Q (o :: (r ++ rest)) a w
  unfold wpList
  split at hk
  ·rename_i hg
   rw [if_pos (wanted_run hg)]
   exact .inl (doit h hk)
  ·rename_i hg
   rw [if_neg (by rw [wanted_skip h hg]; simp)]
   exact skip h hk
  ·rename_i t b want hg
   obtain ⟨hw,ht⟩:=wanted_ask h hg
   have hk1:=Ask.e hk
   split at hk1
   ·rename_i hb
    rw [if_pos (by rw [hw]; exact hb)]
    exact .inl (doit (h.rebind ht) hk1)
   rename_i hb
   rw [if_neg (by rw [hw,hb]; simp)]
   exact skip (h.rebind ht) hk1
  exact hk.elim
end
theorem sound_by (keep : Bool) {S : Pr} {G : Glob} {f : FuncId} {fn : Func} {code : Code} {g : List U → List Blk → Out (SV × List (Option Blk) × List Blk)} (hT : TOk S.P S.tt) (hf : S.P.funcs[f]? = some fn) (hb : fn.body = some code) (hn : (fn.name == "runtime.NumGoroutine") = false)
  (hw : ∀ (K : SV × List (Option Blk) × List Blk → Prop) us lent,(g us lent).wp K → us.length ≤ fn.ntmps ∧ ∀ (E : Ctx) (β : Nat → Option Nat) (a : Act) (w : World) (Q : Exit → Act → World → Prop),E.T = S.T → E.G = G → E.nt = fn.ntmps → (∀ n,n < 50000 → E.own0 n = none) → (∀ n,100000 ≤ n → E.own0 n = none) →
   Rel E β (argEnv us) (lentOwn lent) a w → (∀ a w,Ends E (retF S fn.resultTypes.toList fn.results.toList lent.length keep K) a w → Q .normal a w) → (∀ a w,Ends E (retF S fn.resultTypes.toList fn.results.toList lent.length keep K) a w → Q .ret a w) → code.wp S.P Q a w) :
  Entr S.P f ∧ SoundF S.P S.T G f g:=by
 refine ⟨⟨fn,hf,by simp [hb],hn⟩,?_⟩
 intro K us lent β X w vals hll hk hO hG hX hu
 obtain ⟨hlen,hc⟩:=hw K us lent hk
 have hvl:=hu.length
 let E : Ctx:={ T:=S.T,G:=G,w0:=w,X:=X,L:=Mine β (lentOwn lent),nt:=fn.ntmps,own0:=lentOwn lent,β0:=β }
 have hR : Rel E β (argEnv us) (lentOwn lent) { tmps:=vals.toArray ++ Array.replicate (fn.ntmps - vals.toArray.size) undef,defers:=[] } w:=by
  refine ⟨rfl,?_,?_,hO,hG,Fr.refl _ _,?_,hX,?_⟩
  ·simp only [Array.size_append,Array.size_replicate,List.size_toArray,E]
   omega
  ·exact fun t sv ht=>argEnv_den hu ht
  ·exact fun n b h1 h2=>.inr ⟨n,h1,h2⟩
  intro n B B' h1 h2
  rw [show E.own0 = lentOwn lent from rfl] at h1
  rw [h1] at h2
  obtain rfl:=Option.some.inj h2
  exact ⟨rfl,like_refl⟩
 have hlow : ∀ n,n < 50000 → E.own0 n = none:=by
  intro n hn
  show lentOwn lent n = none
  unfold lentOwn
  cases hb : Nat.ble 50000 n with
  | false=>rfl
  | true=>have:=Nat.le_of_ble_eq_true hb; omega
 have hhi : ∀ n,100000 ≤ n → E.own0 n = none:=by
  intro n hn
  show lentOwn lent n = none
  cases hB : lentOwn lent n with
  | none=>rfl
  | some B =>
   obtain ⟨i,rfl,hi⟩:=lentOwn_some hB
   have:=(List.getElem?_eq_some_iff.1 hi).1
   omega
 refine calls_of_wp hf hb ?_
 have hpost : ∀ a w',Ends E (retF S fn.resultTypes.toList fn.results.toList lent.length keep K) a w' → a.defers = [] ∧ ∃ v,(results fn a.tmps).run S.P w' = .ok v w' ∧ ∃ r outs news β' v',Ending.returned v = .returned v' ∧ K (r,outs,news) ∧ List.length outs = lent.length ∧ OwnOk S.T G w' β' X (resOwn outs news) ∧ DenS S.T w' β' (Av X β' (resOwn outs news)) (resOwn outs news) r v' ∧
   Fr w w' (Mine β (lentOwn lent)) ∧ KeepL (lentOwn lent) w β (resOwn outs news) w' β' ∧ (∀ n b,resOwn outs news n ≠ none → β' n = some b → w.heap.size ≤ b ∨ Mine β (lentOwn lent) b):=by
  rintro a w' ⟨env',own',β2,k1,k2⟩
  unfold retF at k1
  rw [litN_eq] at k1
  split at k1
  ·rename_i l own1 hl
   obtain ⟨env1,hR1,hl1⟩:=frzRes_rel k2 hl
   split at k1
   ·rename_i news hcl hnews
    rw [SV.see_eq,seeOs_eq,seeBs_eq] at k1
    obtain ⟨v,h1,h2⟩:=results_run hT (E:=E) rfl hR1 hl1
    obtain ⟨β',p1,p2,p3,p4⟩:=ret_full hR1 hll hcl hnews h2
    refine ⟨k2.defers,v,h1,_,_,_,β',v,rfl,k1,by simpa using p1,by rw [resOwn_norm]; exact OwnOk.normB p2,?_,hR1.frame,?_,?_⟩
    ·rw [resOwn_norm]
     have p5 : DenS S.T w' β' (Av X β' (ownB S (resOwn (outsOf own1 (sgm (newN own1 lent.length l)) lent.length) news))) (ownB S (resOwn (outsOf own1 (sgm (newN own1 lent.length l)) lent.length) news)) _ v:=DenS.keep ownB_stay ownB_keep p3
     exact mkRes_norm p5
    ·intro n B B' q1 q2
     rw [resOwn_norm] at q2
     simp only [ownB,Option.map_eq_some_iff] at q2
     obtain ⟨B1,q2,q3⟩:=q2
     obtain ⟨m,B0,r1,r2,r3,r4⟩:=p4 n B1 q2
     have hn6 : n < 60000:=by
      obtain ⟨i,rfl,hi⟩:=lentOwn_some q1
      have:=(List.getElem?_eq_some_iff.1 hi).1
      omega
     obtain rfl:=r4 hn6
     obtain ⟨e1,e2⟩:=hR1.kept m B B0 q1 r1
     subst r2 q3
     exact ⟨r3.trans e1,like_normB (like_ren e2)⟩
    intro n b q1 q2
    rw [resOwn_norm] at q1
    have q1:=ownB_none.1 q1
    cases hB : resOwn (outsOf own1 (sgm (newN own1 lent.length l)) lent.length) news n with
    | none=>exact absurd hB q1
    | some B' =>
     obtain ⟨m,B0,r1,r2,r3,r4⟩:=p4 n B' hB
     exact hR1.mine m b (by simp [r1]) (by rw [← r3]; exact q2)
   exact k1.elim
  exact k1.elim
 exact hc E β _ w _ rfl rfl rfl hlow hhi hR hpost hpost
end Sx
