/- Part of the proof: a machine of states for walks, and contracts of functions over it. Conditions: those that each theorem names. -/
import Derived.Test.YtcjdbimojffggaaGreatDoorC32
set_option linter.unusedVariables false
set_option linter.unusedSimpArgs false
namespace Sx
open Go Go.Proofs
open Go.Proofs.SxPu (addV subV)
set_option maxRecDepth 30000
variable {G : Glob}
def NuOk (k : Nat) (n : NumD) : Prop:=NGood k n ∧ UU n.n
structure HOk (k : Nat) (h : HistD) : Prop where
 good : HGood k h
 u : UH h
structure XOk (k : Nat) (e : ExpD) : Prop where
 ok : EOk e
 d : DOk k e
 ct : 0 ≤ e.count ∧ e.count < 18446744073709551616
 ze : 0 ≤ e.zero ∧ e.zero < 18446744073709551616
def POk (k : Nat) (p : PtD) : Prop:=(p.kd = 2 → NuOk k p.n) ∧ (p.kd = 3 → HOk k p.h) ∧ (p.kd = 4 → XOk k p.e)
theorem XOk.good {k : Nat} {e : ExpD} (h : XOk k e) : EGood k e:=⟨h.d.t1,h.d.d1,h.d.t2,h.d.d2,h.ok.f.1,h.ok.f.2.1⟩
theorem POk.pin {k : Nat} {p : PtD} (h : POk k p) : PIn k p:=⟨fun e=>(h.1 e).1,fun e=>(h.2.1 e).good,fun e=>(h.2.2 e).good⟩
def GS (k : Nat) (p : PtD) : Prop:=(p.kd = 2 ∨ p.kd = 3 ∨ p.kd = 4) ∧ POk k p ∧ bare p = p
def mkN (n : NumD) : PtD:=⟨2,n,noH,noE 0⟩
def mkH (h : HistD) : PtD:=⟨3,noNum,h,noE 0⟩
def mkX (e : ExpD) : PtD:=⟨4,noNum,noH,e⟩
def zeroP : PtD:=⟨0,noNum,noH,noE 0⟩
theorem gs_n {k : Nat} {n : NumD} (h : NuOk k n) : GS k (mkN n):=⟨.inl rfl,⟨fun _=>h,fun e=>absurd (show (2 : Int) = 3 from e) (by decide),fun e=>absurd (show (2 : Int) = 4 from e) (by decide)⟩,rfl⟩
theorem gs_h {k : Nat} {h : HistD} (g : HOk k h) : GS k (mkH h):=⟨.inr (.inl rfl),⟨fun e=>absurd (show (3 : Int) = 2 from e) (by decide),fun _=>g,fun e=>absurd (show (3 : Int) = 4 from e) (by decide)⟩,rfl⟩
theorem gs_x {k : Nat} {e : ExpD} (g : XOk k e) : GS k (mkX e):=⟨.inr (.inr rfl),⟨fun e=>absurd (show (4 : Int) = 2 from e) (by decide),fun e=>absurd (show (4 : Int) = 3 from e) (by decide),fun _=>g⟩,rfl⟩
inductive Bare (k : Nat) : PtD → Prop
 | n {n : NumD} (h : NuOk k n) : Bare k (mkN n)
 | h {h : HistD} (g : HOk k h) : Bare k (mkH h)
 | x {e : ExpD} (g : XOk k e) : Bare k (mkX e)
 | z : Bare k zeroP
theorem bare_of {k : Nat} {p : PtD} (h : POk k p) : Bare k (bare p):=by
 by_cases k2 : p.kd = 2
 ·rw [show bare p = mkN p.n by rw [bare,k2]; rfl]; exact .n (h.1 k2)
 by_cases k3 : p.kd = 3
 ·rw [show bare p = mkH p.h by rw [bare,k3]; rfl]; exact .h (h.2.1 k3)
 by_cases k4 : p.kd = 4
 ·rw [show bare p = mkX p.e by rw [bare,k4]; rfl]; exact .x (h.2.2 k4)
 rw [show bare p = zeroP by rw [bare,show (p.kd == 2) = false by simpa using k2,show (p.kd == 3) = false by simpa using k3,show (p.kd == 4) = false by simpa using k4]; rfl]; exact .z
inductive Kind3 (k : Nat) : PtD → Prop
 | n {n : NumD} (h : NuOk k n) : Kind3 k (mkN n)
 | h {h : HistD} (g : HOk k h) : Kind3 k (mkH h)
 | x {e : ExpD} (g : XOk k e) : Kind3 k (mkX e)
theorem GS.st {k : Nat} {p : PtD} (h : GS k p) : Sx.Kind3 k p:=by
 obtain ⟨h1,h2,h3⟩:=h
 have hb:=bare_of h2
 rw [h3] at hb
 cases hb with
 | n h=>exact .n h
 | h g=>exact .h g
 | x g=>exact .x g
 | z=>rcases h1 with h | h | h <;> cases h
def fitV (bu : Int) (p : PtD) : Option PtD:=bif p.kd == 2 then some (mkN p.n) else bif p.kd == 3 then some (mkH p.h) else bif p.kd == 4 then (fitR p.e bu).1.map mkX else none
def histR (a b : HistD) : Option HistD × Int:=bif unlikeB a b then (none,13) else bif hBad a b then (none,9) else (some (histE a b (zS a b)),0)
def mergeV (bu : Int) (a b : PtD) : Option PtD:=bif a.kd != b.kd then none else bif b.kd == 2 then (addG a.n b.n).map mkN else bif b.kd == 3 then (histR a.h b.h).1.map mkH else bif b.kd == 4 then (expR a.e b.e bu).1.map mkX else none
def outO (o : Option PtD) (st bu ti nw : Int) (l : List (ByteArray × List D)) : Out RF:=match o with
 | some q=>.ret (.t [.a q.cells,.c (Bo true)],TBk st bu ti nw l,[])
 | none=>.all PtD (fun _=>True) ⟨zeroP,trivial⟩ fun q=>.ret (.t [.a q.cells,.c (Bo false)],TBk st bu ti nw l,[])
def fitT (k : Nat) : List U → List Blk → Out RF
 | [.c (.p 50000 0),.a q],[.cells 81 [.v (.int .i64 st),.v (.int .i64 bu),.v (.int .i64 ti),.v (.int .i64 nw),.m 50001 79],.map 79 l]=>match asPt q with
  | some p=>.need (POk k p) (.all (Option PtD) (fun o=>fitV bu p = o) ⟨_,rfl⟩ fun o=>outO o st bu ti nw l)
  | none=>.fail
 | _,_=>.fail
theorem fitT_ok {k : Nat} : OkF G 37 (fitT k):=by
 have hS : AllSound (B [(36,.pure (normG (B []) [46] (aloneS k))),(65,.pure (normG (B []) [44,3] (mfitU k)))]) G:=.cons _ alone_ok (.cons _ mfitU_ex noneS)
 refine okF false hS Tryz.func37 rfl (by decide) fun K us lent hk=>?_
 unfold fitT at hk
 split at hk
 ·split at hk
  ·rename_i q0 st bu ti nw l _ p hl
   rw [asPt_eq hl]
   refine ⟨by show 2 ≤ _; decide,?_⟩
   obtain ⟨hg,hk⟩:=hk
   have yes : ∀ q,fitV bu p = some q → K (.t [.a q.cells,.c (Bo true)],TBk st bu ti nw l,[]):=fun q hq=>hk (some q) hq
   have no : fitV bu p = none → ∀ q : PtD,K (.t [.a q.cells,.c (Bo false)],TBk st bu ti nw l,[]):=fun h q=>hk none h q trivial
   clear hk
   conv=>whnf
   refine ⟨hg.pin,?_⟩;conv=>whnf
   intro q hq
   by_cases k2 : p.kd = 2
   ·obtain rfl : mkN p.n = q:=by rw [← hq,bare,k2]; rfl
    conv=>whnf
    refine ⟨mixed,[(4,[4])],[(0,[]),(2,[4])],[],by kernel_rfl,?_⟩;conv=>whnf
    exact yes (mkN p.n) (by rw [fitV,k2]; rfl)
   by_cases k3 : p.kd = 3
   ·obtain rfl : mkH p.h = q:=by rw [← hq,bare,k3]; rfl
    conv=>whnf
    refine ⟨mixed,[(4,[4])],[(0,[]),(2,[4])],[],by kernel_rfl,?_⟩;conv=>whnf
    exact yes (mkH p.h) (by rw [fitV,k3]; rfl)
   by_cases k4 : p.kd = 4
   ·obtain rfl : mkX p.e = q:=by rw [← hq,bare,k4]; rfl
    have gE:=hg.2.2 k4
    conv=>whnf
    refine ⟨mixed,[(11,[6])],[(1,[]),(5,[]),(6,[])],[],by kernel_rfl,?_⟩;conv=>whnf
    refine ⟨⟨gE.ok,gE.d⟩,?_⟩;conv=>whnf
    intro o ho
    have ho : fitR p.e bu = o:=ho
    obtain ⟨o,c⟩:=o
    cases o with
    | none =>
     conv=>whnf
     refine ⟨mixed,[(3,[4])],[(0,[])],[],by kernel_rfl,?_⟩;conv=>whnf
     exact no (by rw [fitV,k4,ho]; rfl) (mkX (noE 0))
    | some r =>
     conv=>whnf
     refine ⟨mixed,[(3,[4])],[(0,[])],[],by kernel_rfl,?_⟩;conv=>whnf
     exact yes (mkX r) (by rw [fitV,k4,ho]; rfl)
   have e2 : (p.kd == 2) = false:=by simpa using k2
   have e3 : (p.kd == 3) = false:=by simpa using k3
   have e4 : (p.kd == 4) = false:=by simpa using k4
   obtain rfl : zeroP = q:=by rw [← hq,bare,e2,e3,e4]; rfl
   conv=>whnf
   refine ⟨mixed,[(4,[4])],[(0,[]),(2,[4])],[],by kernel_rfl,?_⟩;conv=>whnf
   exact no (by rw [fitV,e2,e3,e4]; rfl) zeroP
  exact hk.elim
 exact hk.elim
def plusT (k : Nat) : List U → List Blk → Out RF
 | [.c (.p 50000 0),.a qa,.a qb],[.cells 81 [.v (.int .i64 st),.v (.int .i64 bu),.v (.int .i64 ti),.v (.int .i64 nw),.m 50001 79],.map 79 l]=>match asPt qa,asPt qb with
  | some a,some b=>.need (GS k a ∧ Bare k b) (.all (Option PtD) (fun o=>mergeV bu a b = o) ⟨_,rfl⟩ fun o=>outO o st bu ti nw l)
  | _,_=>.fail
 | _,_=>.fail
theorem plusT_ok {k : Nat} : OkF G 40 (plusT k):=by
 have hS : AllSound (B [(66,.pure (normG (B []) [35,35] (numP PreG addG k))),(67,.pure (normG (B []) [40,40] (mhistS k fun _=>True))),(68,.pure (normG (B []) [44,44,3] (mexpU k)))]) G:=.cons _ numG_ok (.cons _ mhist_ok (.cons _ mexpU_ex noneS))
 refine okF false hS Tryz.func40 rfl (by decide) fun K us lent hk=>?_
 unfold plusT at hk
 split at hk
 ·split at hk
  ·rename_i qa qb st bu ti nw l _ _ a b ha hb
   rw [asPt_eq ha,asPt_eq hb]
   refine ⟨by show 3 ≤ _; decide,?_⟩
   obtain ⟨⟨gA,gB⟩,hk⟩:=hk
   have yes : ∀ q,mergeV bu a b = some q → K (.t [.a q.cells,.c (Bo true)],TBk st bu ti nw l,[]):=fun q hq=>hk (some q) hq
   have no : mergeV bu a b = none → ∀ q : PtD,K (.t [.a q.cells,.c (Bo false)],TBk st bu ti nw l,[]):=fun h q=>hk none h q trivial
   clear hk ha hb
   have sA:=gA.st
   clear gA
   cases sA with
   | n nA =>
    rename_i na
    cases gB with
    | n nB =>
     rename_i nb
     conv=>whnf
     refine ⟨⟨⟨nA.2,nB.2⟩,nB.1⟩,?_⟩;conv=>whnf
     intro o ho
     have ho : addG na nb = o:=ho
     cases o with
     | some m =>
      conv=>whnf
      refine ⟨mixed,[(3,[6])],[(0,[])],[],by kernel_rfl,?_⟩;conv=>whnf
      exact yes (mkN m) (by show (addG na nb).map mkN = _; rw [ho]; rfl)
     | none =>
      conv=>whnf
      intro e he;conv=>whnf
      refine ⟨mixed,[(3,[6])],[(0,[])],[],by kernel_rfl,?_⟩;conv=>whnf
      exact no (by show (addG na nb).map mkN = _; rw [ho]; rfl) (mkN noNum)
    | _ =>
     conv=>whnf
     exact no rfl zeroP
   | h hA =>
    rename_i ha
    cases gB with
    | h hB =>
     rename_i hb
     conv=>whnf
     refine ⟨⟨hB.good,hA.u.lC,hA.u.lB,hA.u.sm,hB.u.sm,trivial⟩,?_⟩;conv=>whnf
     intro c hc
     have hc : unlikeB ha hb = c:=hc
     cases c with
     | true =>
      conv=>whnf
      refine ⟨mixed,[(3,[6])],[(0,[])],[],by kernel_rfl,?_⟩;conv=>whnf
      exact no (by show (histR ha hb).1.map mkH = _; rw [histR,hc]; rfl) (mkH noH)
     | false =>
      conv=>whnf
      intro c hc2
      have hc2 : hBad ha hb = c:=hc2
      cases c with
      | true =>
       conv=>whnf
       refine ⟨mixed,[(3,[6])],[(0,[])],[],by kernel_rfl,?_⟩;conv=>whnf
       exact no (by show (histR ha hb).1.map mkH = _; rw [histR,hc,hc2]; rfl) (mkH noH)
      | false =>
       conv=>whnf
       refine ⟨mixed,[(3,[6])],[(0,[])],[],by kernel_rfl,?_⟩;conv=>whnf
       exact yes (mkH (histE ha hb (zS ha hb))) (by show (histR ha hb).1.map mkH = _; rw [histR,hc,hc2]; rfl)
    | _ =>
     conv=>whnf
     exact no rfl zeroP
   | x xA =>
    rename_i ea
    cases gB with
    | x xB =>
     rename_i eb
     conv=>whnf
     refine ⟨mixed,[(13,[8])],[(1,[]),(3,[]),(7,[]),(8,[])],[],by kernel_rfl,?_⟩;conv=>whnf
     refine ⟨⟨xA.ok,xB.ok,xB.d⟩,?_⟩;conv=>whnf
     intro o ho
     have ho : expR ea eb bu = o:=ho
     obtain ⟨o,c⟩:=o
     cases o with
     | none =>
      conv=>whnf
      refine ⟨mixed,[(3,[6])],[(0,[])],[],by kernel_rfl,?_⟩;conv=>whnf
      exact no (by show (expR ea eb bu).1.map mkX = _; rw [ho]; rfl) (mkX (noE 0))
     | some r =>
      conv=>whnf
      refine ⟨mixed,[(3,[6])],[(0,[])],[],by kernel_rfl,?_⟩;conv=>whnf
      exact yes (mkX r) (by show (expR ea eb bu).1.map mkX = _; rw [ho]; rfl)
    | _ =>
     conv=>whnf
     exact no rfl zeroP
  exact hk.elim
 exact hk.elim
end Sx
namespace Sx
open Go Go.Proofs
open Go.Proofs.SxPu (addV subV)
set_option maxRecDepth 30000
variable {G : Glob}
def lesI (mono : Bool) (a b : NumD) : Option NumD:=bif difBad a.n b.n || (mono && decide (w64 a.n < w64 b.n)) then none else some { a with start:=b.time,n:=x64 (w64 (w64 a.n - w64 b.n)) }
def lessG (mono : Bool) (a b : NumD) : Option NumD:=bif kindsB a.kind b.kind then (bif a.kind == 1 then (bif mono && lessV a.n b.n then none else some { a with start:=b.time,n:=subV a.n b.n }) else lesI mono a b) else none
def lessNT (k : Nat) : List U → Out SV
 | [.a la,.a lb,.c (.v (.bool mono))]=>match asNum la,asNum lb with
  | some a,some b=>.need (PreG a b ∧ NGood k a) (.all (Option NumD) (fun o=>lessG mono a b = o) ⟨_,rfl⟩ fun o=>match o with
   | some m=>.ret (.t [.a m.cells,.c nilV])
   | none=>.all Int (fun _=>True) ⟨9,trivial⟩ fun e=>.ret (.t [.a noNum.cells,.c (errV e)]))
  | _,_=>.fail
 | _=>.fail
theorem lessN_ok {k : Nat} : Ok G 84 (lessNT k):=by
 have hS : AllSound (B [(105,.pure (normG (B []) [35,35] kindsS)),(62,.pure (normG (B []) [35] (twNS k))),(128,.pure (normG (B []) [31,31] subT)),(129,.pure (normG (B []) [31,31] lessFS))]) G:=.cons _ kinds_ok (.cons _ twNum_ok (.cons _ sub_ex (.cons _ lessF_ok noneS)))
 refine okP hS Tryz.func84 rfl (by decide) fun K us hk=>?_
 unfold lessNT at hk
 split at hk
 ·split at hk
  ·rename_i la lb mono _ _ a b ha hb
   rw [asNum_eq ha,asNum_eq hb]
   refine ⟨by show 3 ≤ _; decide,?_⟩
   obtain ⟨⟨hP,hA⟩,hk⟩:=hk
   have hk:=hk _ rfl
   unfold lessG at hk
   conv=>whnf
   refine Ask.i (fun c1=>?_) (fun c1=>?_)
   ·have c1 : (!(kindsB a.kind b.kind)) = true:=c1
    rw [show kindsB a.kind b.kind = false by simpa using c1] at hk
    conv=>whnf
    exact hk 13 trivial
   have c1 : (!(kindsB a.kind b.kind)) = false:=c1
   rw [show kindsB a.kind b.kind = true by simpa using c1] at hk
   conv=>whnf
   refine ⟨hA,?_⟩;conv=>whnf
   refine Ask.i (fun c2=>?_) (fun c2=>?_)
   ·have c2 : (a.kind == 1) = true:=c2
    rw [c2] at hk
    conv=>whnf
    refine ⟨hP,?_⟩;conv=>whnf
    cases mono with
    | true =>
     conv=>whnf
     refine Ask.i (fun c3=>?_) (fun c3=>?_)
     ·have c3 : lessV a.n b.n = true:=c3
      simp only [c3,Bool.and_self,cond_true] at hk
      conv=>whnf
      exact hk 9 trivial
     have c3 : lessV a.n b.n = false:=c3
     simp only [c3,Bool.and_false,cond_false,cond_true] at hk
     conv=>whnf
     exact hk
    | false =>
     conv=>whnf
     exact hk
   have c2 : (a.kind == 1) = false:=c2
   rw [c2] at hk
   conv=>whnf
   refine ⟨mixed,[],[(1,[]),(4,[])],[],by kernel_rfl,?_⟩;conv=>whnf
   refine Ask.i (fun c3=>?_) (fun c3=>?_)
   ·have c3 : difBad a.n b.n = true:=c3
    unfold lesI at hk
    simp only [c3,Bool.true_or] at hk
    conv=>whnf
    exact hk 9 trivial
   have c3 : difBad a.n b.n = false:=c3
   cases mono with
   | false =>
    unfold lesI at hk
    simp only [c3,Bool.false_or,Bool.false_and] at hk
    conv=>whnf
    exact hk
   | true =>
    conv=>whnf
    refine Ask.i (fun c4=>?_) (fun c4=>?_)
    ·have c4 : decide (w64 a.n < w64 b.n) = true:=c4
     unfold lesI at hk
     simp only [c3,c4,Bool.false_or,Bool.true_and] at hk
     conv=>whnf
     exact hk 9 trivial
    have c4 : decide (w64 a.n < w64 b.n) = false:=c4
    unfold lesI at hk
    simp only [c3,c4,Bool.false_or,Bool.true_and] at hk
    conv=>whnf
    exact hk
  exact hk.elim
 exact hk.elim
def minusB (a b : Int) : Bool:=(decide (a < 0) == decide (b < 0)) || (decide (w64 (a - b) < 0) == decide (a < 0))
theorem minusB_of (x y : Int) : minusB (w64 x) (w64 y) = !(difBad x y) ∧ (difBad x y = false → decide (w64 (w64 x - w64 y) < 0) = decide (w64 x < w64 y)):=by
 unfold minusB difBad
 have hx : -9223372036854775808 ≤ w64 x ∧ w64 x < 9223372036854775808:=w64_r x
 have hy : -9223372036854775808 ≤ w64 y ∧ w64 y < 9223372036854775808:=w64_r y
 generalize w64 x = a at *
 generalize w64 y = b at *
 have e : w64 (a - b) = a - b ∨ (a - b ≥ 9223372036854775808 ∧ w64 (a - b) = a - b - 18446744073709551616) ∨ (a - b < -9223372036854775808 ∧ w64 (a - b) = a - b + 18446744073709551616):=by
  show IntKind.i64.wrap (a - b) = _ ∨ (_ ∧ IntKind.i64.wrap (a - b) = _) ∨ (_ ∧ IntKind.i64.wrap (a - b) = _)
  rw [IntKind.wrap_i64]; omega
 refine ⟨?_,?_⟩
 ·rw [Bool.eq_iff_iff]
  rcases e with e | ⟨h,e⟩ | ⟨h,e⟩ <;> rw [e]
  all_goals by_cases c1 : a < 0 <;> by_cases c2 : b < 0 <;> by_cases c3 : b > 0 <;> simp [c1,c2,c3] <;> omega
 intro h
 rcases e with e | ⟨h2,e⟩ | ⟨h2,e⟩ <;> rw [e] at h ⊢
 all_goals by_cases c3 : b > 0 <;> simp [c3] at h <;> simp <;> omega
def minusT : List U → Out SV
 | [.c (.v (.int .i64 a)),.c (.v (.int .i64 b))]=>wp1 (minusB a b) fun c=>.ret (.t [.c (I64 (w64 (a - b))),.c (Bo c)])
 | _=>.fail
theorem minus_ex : Ok G 134 minusT:=by
 refine okP noneS Tryz.func134 rfl (by decide) fun K us hk=>?_
 unfold minusT at hk
 split at hk
 ·rename_i a b
  refine ⟨by show 2 ≤ _; decide,?_⟩
  have hk:=hk _ rfl
  conv=>whnf
  refine Ask.i (fun c1=>?_) (fun c1=>?_)
  ·have c1 : (decide (a < 0) == decide (b < 0)) = true:=c1
   rw [show minusB a b = true by rw [minusB,c1]; rfl] at hk
   conv=>whnf
   exact hk
  have c1 : (decide (a < 0) == decide (b < 0)) = false:=c1
  rw [show minusB a b = (decide (w64 (a - b) < 0) == decide (a < 0)) by rw [minusB,c1]; rfl] at hk
  conv=>whnf
  exact hk
 exact hk.elim
def lessRW : List U → Out SV
 | [.c (.v (.int .u64 a)),.c (.v (.int .u64 b))]=>.need (UU a ∧ UU b) (wp1 (lessV a b) fun c=>one (Bo c))
 | _=>.fail
theorem rlessW_ex : Ok G 132 lessRW:=rless_ex.mono fun us K hk=>by
 unfold lessRW at hk
 split at hk
 ·exact ⟨hk.1,hk.2 _ rfl⟩
 exact hk.elim
def subW : List U → Out SV
 | [.c (.v (.int .u64 a)),.c (.v (.int .u64 b))]=>.need (UU a ∧ UU b) (.all Int (fun x=>subV a b = x) ⟨_,rfl⟩ fun x=>one (U64 x))
 | _=>.fail
theorem rsubW_ex : Ok G 133 subW:=rsub_ex.mono fun us K hk=>by
 unfold subW at hk
 split at hk
 ·exact ⟨hk.1,hk.2 _ rfl⟩
 exact hk.elim
def rlessNT : List U → Out SV
 | [.a la,.a lb,.c (.v (.bool mono))]=>match asNum la,asNum lb with
  | some a,some b=>.need (PreG a b) (.all (Option NumD) (fun o=>lessG mono a b = o) ⟨_,rfl⟩ fun o=>match o with
   | some m=>.ret (.t [.a m.cells,.c (I64 0)])
   | none=>.all Bool (fun _=>True) ⟨true,trivial⟩ fun c=>bif c then .ret (.t [.a noNum.cells,.c (I64 9)]) else .ret (.t [.a noNum.cells,.c (I64 13)]))
  | _,_=>.fail
 | _=>.fail
theorem rlessN_ex : Ok G 87 rlessNT:=by
 have hS : AllSound (B [(132,.pure (normG (B []) [31,31] lessRW)),(133,.pure (normG (B []) [31,31] subW)),(134,.pure (normG (B []) [2,2] minusT))]) G:=.cons _ rlessW_ex (.cons _ rsubW_ex (.cons _ minus_ex noneS))
 refine okP hS Tryz.func87 rfl (by decide) fun K us hk=>?_
 unfold rlessNT at hk
 split at hk
 ·split at hk
  ·rename_i la lb mono _ _ a b ha hb
   rw [asNum_eq ha,asNum_eq hb]
   refine ⟨by show 3 ≤ _; decide,?_⟩
   obtain ⟨hP,hk⟩:=hk
   have hk:=hk _ rfl
   unfold lessG at hk
   conv=>whnf
   refine Ask.i (fun c1=>?_) (fun c1=>?_)
   ·have c1 : (!(a.kind == b.kind)) = true:=c1
    have c1 : ¬ a.kind = b.kind:=by simpa using c1
    rw [show kindsB a.kind b.kind = false by simp [kindsB,c1]] at hk
    conv=>whnf
    exact hk false trivial
   have c1 : (!(a.kind == b.kind)) = false:=c1
   have e1 : a.kind = b.kind:=by simpa using c1
   conv=>whnf
   refine Ask.i (fun c2=>?_) (fun c2=>?_)
   ·have c2 : a.kind < 1:=of_decide_eq_true c2
    rw [show kindsB a.kind b.kind = false by simp only [kindsB,Bool.and_eq_false_iff,Bool.or_eq_false_iff,decide_eq_false_iff_not]; omega] at hk
    conv=>whnf
    exact hk false trivial
   have c2 : ¬ a.kind < 1:=of_decide_eq_false c2
   conv=>whnf
   refine Ask.i (fun c3=>?_) (fun c3=>?_)
   ·have c3 : a.kind > 2:=of_decide_eq_true c3
    rw [show kindsB a.kind b.kind = false by simp only [kindsB,Bool.and_eq_false_iff,Bool.or_eq_false_iff,decide_eq_false_iff_not]; omega] at hk
    conv=>whnf
    exact hk false trivial
   have c3 : ¬ a.kind > 2:=of_decide_eq_false c3
   rw [show kindsB a.kind b.kind = true by simp only [kindsB,Bool.and_eq_true,Bool.or_eq_true,decide_eq_true_eq]; omega] at hk
   conv=>whnf
   refine Ask.i (fun c4=>?_) (fun c4=>?_)
   ·have c4 : (a.kind == 1) = true:=c4
    rw [c4] at hk
    cases mono with
    | true =>
     conv=>whnf
     refine ⟨hP,?_⟩;conv=>whnf
     intro c c5
     have c5 : lessV a.n b.n = c:=c5
     cases c with
     | true =>
      simp only [c5,Bool.and_self,cond_true] at hk
      conv=>whnf
      exact hk true trivial
     | false =>
      simp only [c5,Bool.and_false,cond_false,cond_true] at hk
      conv=>whnf
      refine ⟨hP,?_⟩;conv=>whnf
      intro x hx
      have hx : subV a.n b.n = x:=hx
      rw [hx] at hk
      conv=>whnf
      exact hk
    | false =>
     conv=>whnf
     refine ⟨hP,?_⟩;conv=>whnf
     intro x hx
     have hx : subV a.n b.n = x:=hx
     simp only [Bool.false_and,cond_false,cond_true,hx] at hk
     conv=>whnf
     exact hk
   have c4 : (a.kind == 1) = false:=c4
   rw [c4] at hk
   obtain ⟨m1,m2⟩:=minusB_of a.n b.n
   conv=>whnf
   intro c hc
   have hc : minusB (w64 a.n) (w64 b.n) = c:=hc
   rw [m1] at hc
   unfold lesI at hk
   cases c with
   | false =>
    rw [show difBad a.n b.n = true by simpa using hc] at hk
    conv=>whnf
    exact hk true trivial
   | true =>
    have hd : difBad a.n b.n = false:=by simpa using hc
    have m2:=m2 hd
    rw [hd] at hk
    cases mono with
    | false =>
     conv=>whnf
     exact hk
    | true =>
     conv=>whnf
     refine Ask.i (fun c5=>?_) (fun c5=>?_)
     ·have c5 : decide (w64 (w64 a.n - w64 b.n) < 0) = true:=c5
      rw [m2] at c5
      simp only [c5,Bool.false_or,Bool.true_and] at hk
      conv=>whnf
      exact hk true trivial
     have c5 : decide (w64 (w64 a.n - w64 b.n) < 0) = false:=c5
     rw [m2] at c5
     simp only [c5,Bool.false_or,Bool.true_and] at hk
     conv=>whnf
     exact hk
  exact hk.elim
 exact hk.elim
end Sx
namespace Sx
open Go Go.Proofs
open Go.Proofs.SxPu (addV subV)
set_option maxRecDepth 30000
variable {G : Glob}
theorem bif_U {c : Bool} {x y : Int} (hx : UU x) (hy : UU y) : UU (bif c then x else y):=by cases c <;> assumption
theorem zero_U : UU 0:=⟨by decide,by decide⟩
theorem minV_U {a b : Int} (ha : UU a) (hb : UU b) : UU (minV a b):=bif_U hb ha
theorem maxV_U {a b : Int} (ha : UU a) (hb : UU b) : UU (maxV a b):=bif_U hb ha
theorem addU {a b : Int} (ha : UU a) (hb : UU b) : UU (addV a b):=Go.Proofs.SxPu.addV_U ha hb
theorem addG_ok {k : Nat} {a b m : NumD} (hA : NuOk k a) (hB : NuOk k b) (h : addG a b = some m) : NuOk k m:=by
 unfold addG at h
 cases h1 : kindsB a.kind b.kind with
 | false=>rw [h1] at h; cases h
 | true =>
  rw [h1] at h
  cases h2 : b.kind == 1 with
  | true =>
   rw [h2] at h
   obtain rfl:=Option.some.inj h
   exact ⟨hB.1,addU hA.2 hB.2⟩
  | false =>
   rw [h2] at h
   unfold addI at h
   cases h3 : sumBad a.n b.n with
   | true=>simp only [h3] at h; cases h
   | false =>
    simp only [h3] at h
    obtain rfl:=Option.some.inj h
    exact ⟨hB.1,x64_r _⟩
theorem histR_ok {k : Nat} {a b m : HistD} (hA : HOk k a) (hB : HOk k b) (h : (histR a b).1 = some m) : HOk k m:=by
 unfold histR at h
 cases h1 : unlikeB a b with
 | true=>rw [h1] at h; cases h
 | false =>
  rw [h1] at h
  cases h2 : hBad a b with
  | true=>rw [h2] at h; cases h
  | false =>
   rw [h2] at h
   obtain rfl:=Option.some.inj h
   have hl : (hZip a.cs b.cs).length ≤ 3750:=by rw [hZip_len _ _ (unlike_len h1).1]; exact hB.u.lC
   exact ⟨⟨hB.good.1,hB.good.2.1,hB.good.2.2.1,hB.good.2.2.2.1,hl,hB.u.lB⟩,⟨hl,hB.u.lB,bif_U (addU hA.u.sm hB.u.sm) zero_U,bif_U (minV_U hA.u.mn hB.u.mn) zero_U,bif_U (maxV_U hA.u.mx hB.u.mx) zero_U⟩⟩
theorem expR_good {k : Nat} {a b m : ExpD} {bu : Int} (hA : XOk k a) (hB : XOk k b) (h : (expR a b bu).1 = some m) : XOk k m:=by
 unfold expR at h
 cases h1 : (a.thr != b.thr) with
 | true=>rw [h1] at h; cases h
 | false =>
  rw [h1] at h
  cases h2 : shV a b bu with
  | none=>rw [h2] at h; cases h
  | some r =>
   rw [h2] at h
   simp only [cond_false] at h
   cases h3 : addBad a b r.1.toNat r.2.1.toNat with
   | true=>rw [h3] at h; cases h
   | false =>
    rw [h3] at h
    simp only [cond_false,Option.some.injEq] at h
    subst h
    have hf:=(add_ok' (z:=zE a b) hA.ok.f hB.ok.f hA.ct hB.ct hA.ze hB.ze hA.ok.rP hA.ok.rN hB.ok.rP hB.ok.rN h2 h3).fit
    exact ⟨⟨hf.fits,hf.rP,hf.rN,⟨bif_U (addU hA.ok.u.sm hB.ok.u.sm) zero_U,bif_U (minV_U hA.ok.u.mn hB.ok.u.mn) zero_U,bif_U (maxV_U hA.ok.u.mx hB.ok.u.mx) zero_U⟩⟩,⟨hB.d.t1,hB.d.d1,hB.d.t2,hB.d.d2⟩,x64_r _,x64_r _⟩
theorem fitR_good {k : Nat} {e m : ExpD} {bu : Int} (hA : XOk k e) (h : (fitR e bu).1 = some m) : XOk k m:=by
 unfold fitR at h
 cases h2 : shV e (noE e.scale) bu with
 | none=>rw [h2] at h; cases h
 | some r =>
  rw [h2] at h
  simp only at h
  cases h3 : fitBad e r.1.toNat with
  | true=>rw [h3] at h; cases h
  | false =>
   rw [h3] at h
   simp only [cond_false,Option.some.injEq] at h
   subst h
   have hf:=(fit_fitted hA.ok.f h2 h3).1
   exact ⟨⟨hf.fits,hf.rP,hf.rN,⟨hA.ok.u.sm,hA.ok.u.mn,hA.ok.u.mx⟩⟩,⟨hA.d.t1,hA.d.d1,hA.d.t2,hA.d.d2⟩,hA.ct,hA.ze⟩
theorem fit_gs {k : Nat} {bu : Int} {p q : PtD} (h : POk k p) (hq : fitV bu p = some q) : GS k q:=by
 unfold fitV at hq
 cases c2 : p.kd == 2 with
 | true=>rw [c2] at hq; obtain rfl:=Option.some.inj hq; exact gs_n (h.1 (by simpa using c2))
 | false =>
  rw [c2] at hq
  cases c3 : p.kd == 3 with
  | true=>rw [c3] at hq; obtain rfl:=Option.some.inj hq; exact gs_h (h.2.1 (by simpa using c3))
  | false =>
   rw [c3] at hq
   cases c4 : p.kd == 4 with
   | true =>
    rw [c4] at hq
    obtain ⟨e,h1,rfl⟩:=Option.map_eq_some_iff.1 hq
    exact gs_x (fitR_good (h.2.2 (by simpa using c4)) h1)
   | false=>rw [c4] at hq; cases hq
theorem merge_gs {k : Nat} {bu : Int} {a b q : PtD} (hA : GS k a) (hB : Bare k b) (hq : mergeV bu a b = some q) : GS k q:=by
 have sA:=hA.st
 clear hA
 cases sA with
 | n nA=>cases hB with
  | n nB=>obtain ⟨m,h1,rfl⟩:=Option.map_eq_some_iff.1 hq; exact gs_n (addG_ok nA nB h1)
  | _=>cases hq
 | h hA=>cases hB with
  | h hB=>obtain ⟨m,h1,rfl⟩:=Option.map_eq_some_iff.1 hq; exact gs_h (histR_ok hA hB h1)
  | _=>cases hq
 | x xA=>cases hB with
  | x xB=>obtain ⟨m,h1,rfl⟩:=Option.map_eq_some_iff.1 hq; exact gs_x (expR_good xA xB h1)
  | _=>cases hq
def lhR (a b : HistD) : Option HistD × Int:=bif unlikeB a b then (none,13) else bif lBad a b then (none,9) else (some (lhE a b (zD a b)),0)
def takeV (mono : Bool) (a b : PtD) : Option PtD:=bif a.kd != b.kd || startOf a != startOf b then none else bif a.kd == 2 then (lessG mono a.n b.n).map mkN else bif a.kd == 3 then (lhR a.h b.h).1.map mkH else bif a.kd == 4 then (lexR a.e b.e).1.map mkX else none
def outT (o : Option PtD) : Out SV:=match o with
 | some q=>.ret (.t [.a q.cells,.c (Bo true)])
 | none=>.all PtD (fun _=>True) ⟨zeroP,trivial⟩ fun q=>.ret (.t [.a q.cells,.c (Bo false)])
def lessT (k : Nat) : List U → Out SV
 | [.a qa,.a qb,.c (.v (.bool mono))]=>match asPt qa,asPt qb with
  | some a,some b=>.need (GS k a ∧ GS k b) (.all (Option PtD) (fun o=>takeV mono a b = o) ⟨_,rfl⟩ outT)
  | _,_=>.fail
 | _=>.fail
set_option maxHeartbeats 1000000 in
theorem lessT_ok {k : Nat} : Ok G 54 (lessT k):=by
 have hS : AllSound (B [(28,.pure (normG (B []) [46] (numOf startOf))),(84,.pure (normG (B []) [35,35,4] (lessNT k))),(85,.pure (normG (B []) [40,40] (lhistS k fun _=>True))),(86,.pure (normG (B []) [44,44] (mlexU k)))]) G:=.cons _ start_ok (.cons _ lessN_ok (.cons _ lhist_ok (.cons _ mlexU_ex noneS)))
 refine okP hS Tryz.func54 rfl (by decide) fun K us hk=>?_
 unfold lessT at hk
 split at hk
 ·split at hk
  ·rename_i qa qb mono _ _ a b ha hb
   rw [asPt_eq ha,asPt_eq hb]
   refine ⟨by show 3 ≤ _; decide,?_⟩
   obtain ⟨⟨gA,gB⟩,hk⟩:=hk
   have yes : ∀ q,takeV mono a b = some q → K (.t [.a q.cells,.c (Bo true)]):=fun q hq=>hk (some q) hq
   have no : takeV mono a b = none → ∀ q : PtD,K (.t [.a q.cells,.c (Bo false)]):=fun h q=>hk none h q trivial
   clear hk ha hb
   have sA:=gA.st
   have sB:=gB.st
   clear gA gB
   cases sA with
   | n nA =>
    rename_i na
    cases sB with
    | n nB =>
     rename_i nb
     conv=>whnf
     refine ⟨mixed,[],[(1,[]),(3,[]),(6,[]),(7,[]),(8,[]),(9,[])],[],by kernel_rfl,?_⟩;conv=>whnf
     intro x hx;conv=>whnf
     intro y hy
     obtain rfl : na.start = x:=hx
     obtain rfl : nb.start = y:=hy
     conv=>whnf
     refine Ask.i (fun c=>?_) (fun c=>?_)
     ·have c : (!(na.start == nb.start)) = true:=c
      conv=>whnf
      exact no (by show (bif (!(na.start == nb.start)) then none else (lessG mono na nb).map mkN) = none; rw [c]; rfl) zeroP
     have c : (!(na.start == nb.start)) = false:=c
     have e : takeV mono (mkN na) (mkN nb) = (lessG mono na nb).map mkN:=by show (bif (!(na.start == nb.start)) then none else (lessG mono na nb).map mkN) = _; rw [c]; rfl
     conv=>whnf
     refine ⟨⟨⟨nA.2,nB.2⟩,nA.1⟩,?_⟩;conv=>whnf
     intro o ho
     have ho : lessG mono na nb = o:=ho
     cases o with
     | some m =>
      conv=>whnf
      refine ⟨mixed,[(3,[6])],[(0,[])],[],by kernel_rfl,?_⟩;conv=>whnf
      exact yes (mkN m) (by rw [e,ho]; rfl)
     | none =>
      conv=>whnf
      intro er he;conv=>whnf
      refine ⟨mixed,[(3,[6])],[(0,[])],[],by kernel_rfl,?_⟩;conv=>whnf
      exact no (by rw [e,ho]; rfl) (mkN noNum)
    | _ =>
     conv=>whnf
     refine ⟨mixed,[],[(1,[]),(3,[]),(6,[]),(7,[]),(8,[]),(9,[])],[],by kernel_rfl,?_⟩;conv=>whnf
     exact no rfl zeroP
   | h hA =>
    rename_i ha
    cases sB with
    | h hB =>
     rename_i hb
     conv=>whnf
     refine ⟨mixed,[],[(1,[]),(3,[]),(6,[]),(7,[]),(8,[]),(9,[])],[],by kernel_rfl,?_⟩;conv=>whnf
     intro x hx;conv=>whnf
     intro y hy
     obtain rfl : ha.start = x:=hx
     obtain rfl : hb.start = y:=hy
     conv=>whnf
     refine Ask.i (fun c=>?_) (fun c=>?_)
     ·have c : (!(ha.start == hb.start)) = true:=c
      conv=>whnf
      exact no (by show (bif (!(ha.start == hb.start)) then none else (lhR ha hb).1.map mkH) = none; rw [c]; rfl) zeroP
     have c : (!(ha.start == hb.start)) = false:=c
     have e : takeV mono (mkH ha) (mkH hb) = (lhR ha hb).1.map mkH:=by show (bif (!(ha.start == hb.start)) then none else (lhR ha hb).1.map mkH) = _; rw [c]; rfl
     conv=>whnf
     refine ⟨⟨hA.good,hB.u.lC,hB.u.lB,hA.u.sm,hB.u.sm,trivial⟩,?_⟩;conv=>whnf
     intro c1 hc1
     have hc1 : unlikeB ha hb = c1:=hc1
     cases c1 with
     | true =>
      conv=>whnf
      refine ⟨mixed,[(3,[6])],[(0,[])],[],by kernel_rfl,?_⟩;conv=>whnf
      exact no (by rw [e,lhR,hc1]; rfl) (mkH noH)
     | false =>
      conv=>whnf
      intro c2 hc2
      have hc2 : lBad ha hb = c2:=hc2
      cases c2 with
      | true =>
       conv=>whnf
       refine ⟨mixed,[(3,[6])],[(0,[])],[],by kernel_rfl,?_⟩;conv=>whnf
       exact no (by rw [e,lhR,hc1,hc2]; rfl) (mkH noH)
      | false =>
       conv=>whnf
       refine ⟨mixed,[(3,[6])],[(0,[])],[],by kernel_rfl,?_⟩;conv=>whnf
       exact yes (mkH (lhE ha hb (zD ha hb))) (by rw [e,lhR,hc1,hc2]; rfl)
    | _ =>
     conv=>whnf
     refine ⟨mixed,[],[(1,[]),(3,[]),(6,[]),(7,[]),(8,[]),(9,[])],[],by kernel_rfl,?_⟩;conv=>whnf
     exact no rfl zeroP
   | x xA =>
    rename_i ea
    cases sB with
    | x xB =>
     rename_i eb
     conv=>whnf
     refine ⟨mixed,[],[(1,[]),(3,[]),(6,[]),(7,[]),(8,[]),(9,[])],[],by kernel_rfl,?_⟩;conv=>whnf
     intro x hx;conv=>whnf
     intro y hy
     obtain rfl : ea.start = x:=hx
     obtain rfl : eb.start = y:=hy
     conv=>whnf
     refine Ask.i (fun c=>?_) (fun c=>?_)
     ·have c : (!(ea.start == eb.start)) = true:=c
      conv=>whnf
      exact no (by show (bif (!(ea.start == eb.start)) then none else (lexR ea eb).1.map mkX) = none; rw [c]; rfl) zeroP
     have c : (!(ea.start == eb.start)) = false:=c
     have e : takeV mono (mkX ea) (mkX eb) = (lexR ea eb).1.map mkX:=by show (bif (!(ea.start == eb.start)) then none else (lexR ea eb).1.map mkX) = _; rw [c]; rfl
     conv=>whnf
     refine ⟨⟨xA.ok,xB.ok,xA.d⟩,?_⟩;conv=>whnf
     intro o ho
     have ho : lexR ea eb = o:=ho
     obtain ⟨o,c2⟩:=o
     cases o with
     | none =>
      conv=>whnf
      refine ⟨mixed,[(3,[6])],[(0,[])],[],by kernel_rfl,?_⟩;conv=>whnf
      exact no (by rw [e,ho]; rfl) (mkX (noE 0))
     | some r =>
      conv=>whnf
      refine ⟨mixed,[(3,[6])],[(0,[])],[],by kernel_rfl,?_⟩;conv=>whnf
      exact yes (mkX r) (by rw [e,ho]; rfl)
    | _ =>
     conv=>whnf
     refine ⟨mixed,[],[(1,[]),(3,[]),(6,[]),(7,[]),(8,[]),(9,[])],[],by kernel_rfl,?_⟩;conv=>whnf
     exact no rfl zeroP
  exact hk.elim
 exact hk.elim
end Sx
namespace Sx
open Go Go.Proofs
set_option maxRecDepth 30000
variable {G : Glob}
abbrev LL:=List (ByteArray × List D)
theorem pin0 {k : Nat} {p : PtD} (h : p.kd = 0) : PIn k p:=⟨fun h=>by omega,fun h=>by omega,fun h=>by omega⟩
theorem GS.bare {k : Nat} {p : PtD} (h : GS k p) : Sx.bare p = p:=h.2.2
theorem GS.pin {k : Nat} {p : PtD} (h : GS k p) : PIn k p:=h.2.1.pin
theorem Bare.gs {k : Nat} {p : PtD} (h : Bare k p) (h0 : (p.kd == 0) = false) : GS k p:=by
 cases h with
 | n h=>exact gs_n h
 | h h=>exact gs_h h
 | x h=>exact gs_x h
 | z=>cases h0
def RowOk (Good : PtD → Prop) (s : ByteArray) (l : LL) : Prop:=∀ r,findM s l = some r → ∃ p i,r = p.row i ∧ Good p
def lookP (s : ByteArray) (l : LL) : Option (PtD × Int):=(findM s l).map asRow
def upTail (bu nw : Int) (l : LL) (s : ByteArray) (p q m : PtD) : PtD × Int × LL:=match mergeV bu m (bare p) with
 | some r=>(r,0,putM s (r.row nw) l)
 | none=>(q,2,putM s (q.row nw) l)
def downTail (nw : Int) (l : LL) (s : ByteArray) (mono : Bool) (q m : PtD) : PtD × Int × LL:=match takeV mono q m with
 | some r=>(r,0,putM s (q.row nw) l)
 | none=>(q,2,putM s (q.row nw) l)
def upF (st bu nw : Int) (l : LL) (s : ByteArray) (p : PtD) : PtD × Int × LL:=match fitV bu p with
 | none=>(zeroP,5,l)
 | some q=>match lookP s l with
  | none=>bif decide ((l.length : Int) ≥ st) then (zeroP,4,l) else (q,1,putM s (q.row nw) l)
  | some x=>bif decide (startOf p < timeOf x.1) || decide (timeOf p < timeOf x.1) then (zeroP,3,l) else upTail bu nw l s p q x.1
def downG (st nw : Int) (l : LL) (s : ByteArray) (mono : Bool) (q : PtD) : PtD × Int × LL:=bif q.kd == 0 then (zeroP,5,l) else match lookP s l with
 | none=>bif decide ((l.length : Int) ≥ st) then (zeroP,4,l) else (q,1,putM s (q.row nw) l)
 | some x=>bif decide (timeOf q ≤ timeOf x.1) then (zeroP,3,l) else downTail nw l s mono q x.1
def outR (st bu ti nw : Int) (x : PtD × Int × LL) : Out RF:=.ret (.t [.a x.1.cells,.c (I64 x.2.1)],TBk st bu ti nw x.2.2,[])
def upT (k : Nat) : List U → List Blk → Out RF
 | [.c (.p 50000 0),.c (.v (.string s)),.a q],[.cells 81 [.v (.int .i64 st),.v (.int .i64 bu),.v (.int .i64 ti),.v (.int .i64 nw),.m 50001 79],.map 79 l]=>match asPt q with
  | some p=>.need (POk k p ∧ RowOk (GS k) s l) (.all (PtD × Int × LL) (fun x=>upF st bu nw l s p = x) ⟨_,rfl⟩ (outR st bu ti nw))
  | none=>.fail
 | _,_=>.fail
set_option maxHeartbeats 1000000 in
theorem upT_ok {k : Nat} : OkF G 11 (upT k):=by
 have hS : AllSound (B [(37,.full (normF (B []) [24,46] (fitT k))),(38,.full (normF (B []) [24,9] fullS)),(39,.full (normF (B []) [24,9,46] (laysT k))),(28,.pure (normG (B []) [46] (numOf startOf))),(30,.pure (normG (B []) [46] (numOf timeOf))),(36,.pure (normG (B []) [46] (aloneS k))),(40,.full (normF (B []) [24,46,46] (plusT k)))]) G :=
  .consF _ fitT_ok (.consF _ full_ok (.consF _ layT_ok (.cons _ start_ok (.cons _ time_ok (.cons _ alone_ok (.consF _ plusT_ok noneS))))))
 refine okF false hS Tryz.func11 rfl (by decide) fun K us lent hk=>?_
 unfold upT at hk
 split at hk
 ·split at hk
  ·rename_i s q0 st bu ti nw l _ p hl
   rw [asPt_eq hl]
   refine ⟨by show 3 ≤ _; decide,?_⟩
   obtain ⟨⟨hT,hrow⟩,hk⟩:=hk
   have hk : ∀ x : PtD × Int × LL,upF st bu nw l s p = x → K (.t [.a x.1.cells,.c (I64 x.2.1)],TBk st bu ti nw x.2.2,[]):=hk;conv=>whnf
   refine ⟨hT,?_⟩;conv=>whnf
   intro o ho
   have ho : fitV bu p = o:=ho
   cases o with
   | none =>
    have h5:=hk (zeroP,5,l) (by rw [upF,ho])
    conv=>whnf
    intro q _;conv=>whnf
    intro o2 ho2
    cases o2 with
    | none =>
     conv=>whnf
     exact h5
    | some row =>
     conv=>whnf
     exact h5
   | some q =>
    have gq:=fit_gs hT ho
    conv=>whnf
    intro o2 ho2
    cases o2 with
    | none =>
     have e2 : lookP s l = none:=by rw [lookP,ho2]; rfl
     conv=>whnf
     intro c hc
     rw [ho2] at hc
     have hc : decide ((l.length : Int) ≥ st) = c:=hc
     cases c with
     | true =>
      conv=>whnf
      exact hk (zeroP,4,l) (by rw [upF,ho]; simp only [e2,hc]; rfl)
     | false =>
      conv=>whnf
      refine ⟨⟨gq.pin,gq.bare⟩,?_⟩;conv=>whnf
      exact hk (q,1,putM s (q.row nw) l) (by rw [upF,ho]; simp only [e2,hc]; rfl)
    | some row =>
     obtain ⟨m,i,rfl,hm⟩:=hrow _ ho2
     have e2 : lookP s l = some (m,i):=by rw [lookP,ho2]; rfl
     have hu : upF st bu nw l s p = bif decide (startOf p < timeOf m) || decide (timeOf p < timeOf m) then ((zeroP,3,l) : PtD × Int × LL) else upTail bu nw l s p q m:=by rw [upF,ho]; simp only [e2]
     conv=>whnf
     intro c hc
     rw [ho2] at hc
     obtain rfl : false = c:=hc
     conv=>whnf
     refine ⟨mixed,[],[(0,[]),(1,[]),(3,[]),(4,[]),(7,[]),(8,[]),(10,[]),(11,[])],[],by kernel_rfl,?_⟩;conv=>whnf
     intro x1 hx1;conv=>whnf
     intro x2 hx2
     have hx1 : startOf p = x1:=hx1
     have hx2 : timeOf m = x2:=hx2;conv=>whnf
     refine Ask.i (fun c1=>?_) (fun c1=>?_)
     ·have c1 : decide (x1 < x2) = true:=c1
      conv=>whnf
      exact hk (zeroP,3,l) (by rw [hu,hx1,hx2,c1]; rfl)
     have c1 : decide (x1 < x2) = false:=c1;conv=>whnf
     intro x3 hx3;conv=>whnf
     intro x4 hx4
     have hx3 : timeOf p = x3:=hx3
     have hx4 : timeOf m = x4:=hx4
     obtain rfl:=hx2.symm.trans hx4
     conv=>whnf
     refine Ask.i (fun c2=>?_) (fun c2=>?_)
     ·have c2 : decide (x3 < x2) = true:=c2
      conv=>whnf
      exact hk (zeroP,3,l) (by rw [hu,hx1,hx2,hx3,c1,c2]; rfl)
     have c2 : decide (x3 < x2) = false:=c2
     have hu2 : upF st bu nw l s p = upTail bu nw l s p q m:=by rw [hu,hx1,hx2,hx3,c1,c2]; rfl
     conv=>whnf
     refine ⟨mixed,[(5,[50000,50001]),(10,[12])],[(2,[]),(3,[]),(4,[]),(5,[50000,50001])],[],by kernel_rfl,?_⟩;conv=>whnf
     refine ⟨hT.pin,?_⟩;conv=>whnf
     intro q2 hq2
     have hq2 : bare p = q2:=hq2;conv=>whnf
     refine ⟨⟨hm,by rw [show q2 = _ from hq2.symm]; exact bare_of hT⟩,?_⟩;conv=>whnf
     intro o3 ho3
     have ho3 : mergeV bu m q2 = o3:=ho3
     rw [upTail,hq2,ho3] at hu2
     cases o3 with
     | some r =>
      have gr:=merge_gs hm (by rw [show q2 = _ from hq2.symm]; exact bare_of hT) ho3
      conv=>whnf
      refine ⟨⟨gr.pin,gr.bare⟩,?_⟩;conv=>whnf
      exact hk (r,0,putM s (r.row nw) l) hu2
     | none =>
      conv=>whnf
      intro w _;conv=>whnf
      refine ⟨⟨gq.pin,gq.bare⟩,?_⟩;conv=>whnf
      exact hk (q,2,putM s (q.row nw) l) hu2
  exact hk.elim
 exact hk.elim
def downT (k : Nat) : List U → List Blk → Out RF
 | [.c (.p 50000 0),.c (.v (.string s)),.c (.v (.bool mono)),.a q],[.cells 81 [.v (.int .i64 st),.v (.int .i64 bu),.v (.int .i64 ti),.v (.int .i64 nw),.m 50001 79],.map 79 l]=>match asPt q with
  | some p=>.need (POk k p ∧ RowOk (GS k) s l) (.all (PtD × Int × LL) (fun x=>downG st nw l s mono (bare p) = x) ⟨_,rfl⟩ (outR st bu ti nw))
  | none=>.fail
 | _,_=>.fail
set_option maxHeartbeats 1000000 in
theorem downT_ok {k : Nat} : OkF G 21 (downT k):=by
 have hS : AllSound (B [(36,.pure (normG (B []) [46] (aloneS k))),(38,.full (normF (B []) [24,9] fullS)),(39,.full (normF (B []) [24,9,46] (laysT k))),(30,.pure (normG (B []) [46] (numOf timeOf))),(54,.pure (normG (B []) [46,46,4] (lessT k)))]) G :=
  .cons _ alone_ok (.consF _ full_ok (.consF _ layT_ok (.cons _ time_ok (.cons _ lessT_ok noneS))))
 refine okF false hS Tryz.func21 rfl (by decide) fun K us lent hk=>?_
 unfold downT at hk
 split at hk
 ·split at hk
  ·rename_i s mono q0 st bu ti nw l _ p hl
   rw [asPt_eq hl]
   refine ⟨by show 4 ≤ _; decide,?_⟩
   obtain ⟨⟨hT,hrow⟩,hk⟩:=hk
   have hk : ∀ x : PtD × Int × LL,downG st nw l s mono (bare p) = x → K (.t [.a x.1.cells,.c (I64 x.2.1)],TBk st bu ti nw x.2.2,[]):=hk;conv=>whnf
   refine ⟨hT.pin,?_⟩;conv=>whnf
   intro q hq
   have hq : bare p = q:=hq
   have gB:=bare_of hT
   rw [hq] at gB hk
   have hk : ∀ x : PtD × Int × LL,downG st nw l s mono q = x → K (.t [.a x.1.cells,.c (I64 x.2.1)],TBk st bu ti nw x.2.2,[]):=hk;conv=>whnf
   intro o2 ho2
   cases o2 with
   | none =>
    have e2 : lookP s l = none:=by rw [lookP,ho2]; rfl
    conv=>whnf
    refine Ask.i (fun c1=>?_) (fun c1=>?_)
    ·have c1 : (q.kd == 0) = true:=c1
     conv=>whnf
     exact hk (zeroP,5,l) (by rw [downG,c1]; rfl)
    have c1 : (q.kd == 0) = false:=c1
    have gq:=gB.gs c1
    conv=>whnf
    intro c hc
    rw [ho2] at hc
    have hc : decide ((l.length : Int) ≥ st) = c:=hc
    cases c with
    | true =>
     conv=>whnf
     exact hk (zeroP,4,l) (by rw [downG,c1]; simp only [e2,hc]; rfl)
    | false =>
     conv=>whnf
     refine ⟨mixed,[],[(2,[]),(3,[]),(5,[]),(6,[])],[],by kernel_rfl,?_⟩;conv=>whnf
     refine ⟨⟨gq.pin,gq.bare⟩,?_⟩;conv=>whnf
     exact hk (q,1,putM s (q.row nw) l) (by rw [downG,c1]; simp only [e2,hc]; rfl)
   | some row =>
    obtain ⟨m,i,rfl,hm⟩:=hrow _ ho2
    have e2 : lookP s l = some (m,i):=by rw [lookP,ho2]; rfl
    conv=>whnf
    refine Ask.i (fun c1=>?_) (fun c1=>?_)
    ·have c1 : (q.kd == 0) = true:=c1
     conv=>whnf
     exact hk (zeroP,5,l) (by rw [downG,c1]; rfl)
    have c1 : (q.kd == 0) = false:=c1
    have gq:=gB.gs c1
    have hu : downG st nw l s mono q = bif decide (timeOf q ≤ timeOf m) then ((zeroP,3,l) : PtD × Int × LL) else downTail nw l s mono q m:=by rw [downG,c1]; simp only [e2]; rfl
    conv=>whnf
    intro c hc
    rw [ho2] at hc
    obtain rfl : false = c:=hc
    conv=>whnf
    refine ⟨mixed,[],[(2,[]),(3,[]),(5,[]),(6,[])],[],by kernel_rfl,?_⟩;conv=>whnf
    intro x1 hx1;conv=>whnf
    intro x2 hx2
    have hx1 : timeOf q = x1:=hx1
    have hx2 : timeOf m = x2:=hx2;conv=>whnf
    refine Ask.i (fun c2=>?_) (fun c2=>?_)
    ·have c2 : decide (x1 ≤ x2) = true:=c2
     conv=>whnf
     exact hk (zeroP,3,l) (by rw [hu,hx1,hx2,c2]; rfl)
    have c2 : decide (x1 ≤ x2) = false:=c2
    have hu2 : downG st nw l s mono q = downTail nw l s mono q m:=by rw [hu,hx1,hx2,c2]; rfl
    conv=>whnf
    refine ⟨⟨gq.pin,gq.bare⟩,?_⟩;conv=>whnf
    refine ⟨⟨gq,hm⟩,?_⟩;conv=>whnf
    intro o3 ho3
    have ho3 : takeV mono q m = o3:=ho3
    rw [downTail,ho3] at hu2
    cases o3 with
    | some r =>
     conv=>whnf
     exact hk (r,0,putM s (q.row nw) l) hu2
    | none =>
     conv=>whnf
     intro w _;conv=>whnf
     exact hk (q,2,putM s (q.row nw) l) hu2
  exact hk.elim
 exact hk.elim
def stateT (k : Nat) : List U → List Blk → Out RF
 | [.c (.p 50000 0),.c (.v (.string s))],[.cells 81 [.v (.int .i64 st),.v (.int .i64 bu),.v (.int .i64 ti),.v (.int .i64 nw),.m 50001 79],.map 79 l] =>
  .need (RowOk (GS k) s l) (.all (Option (PtD × Int)) (fun o=>lookP s l = o) ⟨_,rfl⟩ fun o=>match o with
   | none=>.ret (.t [.a zeroP.cells,.c (Bo false)],TBk st bu ti nw l,[])
   | some x=>.ret (.t [.a x.1.cells,.c (Bo true)],TBk st bu ti nw l,[]))
 | _,_=>.fail
theorem stateT_ok {k : Nat} : OkF G 9 (stateT k):=by
 have hS : AllSound (B [(36,.pure (normG (B []) [46] (aloneS k)))]) G:=.cons _ alone_ok noneS
 refine okF false hS Tryz.func9 rfl (by decide) fun K us lent hk=>?_
 unfold stateT at hk
 split at hk
 ·rename_i s st bu ti nw l
  refine ⟨by show 2 ≤ _; decide,?_⟩
  obtain ⟨hrow,hk⟩:=hk
  conv=>whnf
  intro o ho
  cases o with
  | none =>
   have hk:=hk none (by show lookP s l = none; rw [lookP,ho]; rfl)
   conv=>whnf
   refine ⟨pin0 rfl,?_⟩;conv=>whnf
   intro q hq
   obtain rfl : zeroP = q:=hq
   conv=>whnf
   exact hk
  | some row =>
   obtain ⟨m,i,rfl,hm⟩:=hrow _ ho
   have hk:=hk (some (m,i)) (by show lookP s l = some (m,i); rw [lookP,ho]; rfl)
   conv=>whnf
   refine ⟨hm.pin,?_⟩;conv=>whnf
   intro q hq
   obtain rfl : m = q:=hm.bare.symm.trans hq
   conv=>whnf
   exact hk
 exact hk.elim
end Sx
