/- Part of the proof: a machine of states for walks, and contracts of functions over it. Conditions: those that each theorem names. -/
import Derived.Test.YtcjdbimojffggaaGreatDoorC25
set_option linter.unusedVariables false
set_option linter.unusedSimpArgs false
namespace Sx
open Go Go.Proofs
set_option maxRecDepth 30000
variable {G : Glob}
def noH : HistD:=⟨.rows [],0,0,0,false,0,false,0,false,0,[],[],.rows [],0,nos⟩
def hZip (a b : List Int) : List Int:=List.zipWith (fun x y=>x64 (x + y)) a b
def hBadL : List Int → List Int → Bool → Bool
 | x :: l,y :: m,bad=>hBadL l m (bad || decide (x64 (x + y) < x))
 | _,_,bad=>bad
def hBad (a b : HistD) : Bool:=hBadL a.cs b.cs (false || decide (x64 (a.count + b.count) < a.count))
def histE (a b : HistD) (z : Int) : HistD:={ b with start:=a.start,count:=x64 (a.count + b.count),cs:=hZip a.cs b.cs,sumH:=a.sumH && b.sumH,sum:=z,minH:=a.minH && b.minH,min:=bif a.minH && b.minH then minV a.min b.min else 0,maxH:=a.maxH && b.maxH,max:=bif a.maxH && b.maxH then maxV a.max b.max else 0 }
open Go.Proofs.SxPu (addV subV)
def zS (a b : HistD) : Int:=bif a.sumH && b.sumH then addV a.sum b.sum else 0
def mhCore (a b : HistD) : Out SV:=wp1 (unlikeB a b) fun c=>bif c then .ret (.t [.a noH.cells,.c (errV 13)]) else wp1 (hBad a b) fun c=>bif c then .ret (.t [.a noH.cells,.c (errV 9)]) else .ret (.t [.a (histE a b (zS a b)).cells,.c nilV])
def mhistS (k : Nat) (P : HistD → Prop) : List U → Out SV
 | [.a la,.a lb]=>match asHist la,asHist lb with
  | some a,some b=>.need (HGood k b ∧ a.cs.length ≤ 3750 ∧ a.bs.length ≤ 3750 ∧ UU a.sum ∧ UU b.sum ∧ P b) (mhCore a b)
  | _,_=>.fail
 | _=>.fail
theorem unlike_len {a b : HistD} (h : unlikeB a b = false) : a.cs.length = b.cs.length ∧ a.bs = b.bs:=by
 unfold unlikeB at h
 simp only [Bool.or_eq_false_iff,bne_eq_false_iff_eq,Bool.not_eq_false',decide_eq_true_eq] at h
 exact ⟨by omega,h.2⟩
theorem hZip_len (a b : List Int) (h : a.length = b.length) : (hZip a b).length = b.length:=by unfold hZip; rw [List.length_zipWith]; omega
theorem hZip_set : ∀ (a b c : List Int) (i : Nat),i < a.length → i < b.length → c = hZip (a.take i) (b.take i) ++ b.drop i → c.set i (x64 (a.getD i 0 + b.getD i 0)) = hZip (a.take (i + 1)) (b.take (i + 1)) ++ b.drop (i + 1)
 | [],_,_,_,h,_,_=>by simp at h
 | _ :: _,[],_,_,_,h,_=>by simp at h
 | x :: a,y :: b,c,0,_,_,h=>by
  rw [h]; simp [hZip]
 | x :: a,y :: b,c,i + 1,h1,h2,h=>by
  rw [h]
  have:=hZip_set a b _ i (by simpa using h1) (by simpa using h2) rfl
  simp only [hZip,List.take_succ_cons,List.zipWith_cons_cons,List.drop_succ_cons,List.cons_append,List.set_cons_succ,List.getD_cons_succ,List.cons.injEq,true_and] at *
  exact this
theorem mhistA_ok {k : Nat} : Ok G 67 (mhistS k fun b=>b.cs = []):=by
 have hS : AllSound (B [(107,.pure (normG (B []) [40,40] unlikeS)),(63,.pure (normG (B []) [40] (twHS k))),(108,.full (normF (B []) [228,31,31] plusS)),(109,.pure (normG (B []) [37,37,118] bothT)),(112,.full (normF (B []) [228] errS))]) G :=
  .cons _ unlike_ok (.cons _ twHist_ok (.consF _ plus_ok (.cons _ both_ex (.consF _ err_ok noneS))))
 refine okP hS Tryz.func67 rfl (by decide) fun K us hk=>?_
 unfold mhistS at hk
 split at hk
 ·split at hk
  ·rename_i la lb _ _ a b ha hb
   rw [asHist_eq ha,asHist_eq hb]
   refine ⟨by show 2 ≤ _; decide,?_⟩
   obtain ⟨⟨hB,h1,h2,us,ut,hn⟩,hk⟩:=hk
   have hk:=hk _ rfl
   have hB6:=hB.2.2.2.2.2
   have hB5:=hB.2.2.2.2.1
   conv=>whnf
   refine ⟨⟨by show a.bs.length ≤ 68719476736; omega,by show b.bs.length ≤ 68719476736; omega⟩,?_⟩;conv=>whnf
   refine Ask.i (fun c1=>?_) (fun c1=>?_)
   ·have c1 : unlikeB a b = true:=c1
    rw [c1] at hk
    conv=>whnf
    exact hk
   have c1 : unlikeB a b = false:=c1
   obtain ⟨e1,e2⟩:=unlike_len c1
   rw [c1] at hk
   conv=>whnf
   refine ⟨hB,?_⟩;conv=>whnf
   have hna : a.cs = []:=List.length_eq_zero_iff.1 (by rw [e1,hn]; rfl)
   have hbad : hBad a b = (false || decide (x64 (a.count + b.count) < a.count)):=by unfold hBad; rw [hna,hBadL]; exact fun _ _ _ _ h=>by cases h
   refine ⟨[],_,_,rfl,Unit,(fun _=>([(2,.u (.c (.p 2 0))),(3,.u (.c (.p 3 0))),(4,.u (.c (.p 4 0))),(5,.u (.c nilV)),(6,.u (.c (.p 6 0))),(7,.u (.c (.p 7 0))),(29,.u (.c (I64 (a.cs.length : Nat)))),(30,.u (.c (I64 0)))],
     [(2,.cells 40 a.cells),(3,.cells 40 b.cells),(4,.cells 40 [.v (.slice none 0 0),U64 0,U64 0,U64 0,Bo false,U64 0,Bo false,U64 0,Bo false,U64 0,.v (.slice none 0 0),.v (.slice none 0 0),.v (.slice none 0 0),U32 0,St nos]),(6,.cells 181 [Bo (false || decide (x64 (a.count + b.count) < a.count))]),(7,.cells 40 ({ b with start:=a.start,count:=x64 (a.count + b.count) } : HistD).cells)])),
    (fun _=>True),(fun _=>0),fun x _=>rfl,⟨(),trivial,⟨rfl,rfl,rfl,rfl,rfl,rfl,rfl,rfl,trivial⟩,⟨rfl,rfl,rfl,rfl,rfl,trivial⟩⟩,?_⟩
   rintro _ _;conv=>whnf
   refine Ask.i (fun c2=>?_) (fun c2=>?_)
   ·have c2 : (0 : Int) < ((a.cs.length : Nat) : Int):=of_decide_eq_true c2
    rw [hna] at c2; cases c2
   skip
   conv=>whnf
   refine ⟨mixed,[(16,[7]),(18,[7]),(20,[7])],[],[],by kernel_rfl,?_⟩;conv=>whnf
   refine ⟨⟨us,ut⟩,?_⟩;conv=>whnf
   have hk:=hk _ rfl
   conv=>whnf
   intro c hc
   have hc : (false || decide (x64 (a.count + b.count) < a.count)) = c:=hc
   rw [hbad,hc] at hk
   cases c with
   | true =>
    conv=>whnf
    exact hk
   | false =>
    conv=>whnf
    refine fin hk (congrArg (fun l=>SV.t [.a ({ histE a b (zS a b) with cs:=l }).cells,.c nilV]) (?_ : hZip a.cs b.cs = b.cs))
    rw [hna,hn]; rfl
  exact hk.elim
 exact hk.elim
set_option maxHeartbeats 2000000 in
theorem mhistB_ok {k : Nat} {x : Int} {r : List Int} : Ok G 67 (mhistS k fun b=>b.cs = x :: r):=by
 have hS : AllSound (B [(107,.pure (normG (B []) [40,40] unlikeS)),(63,.full (normF (B []) [40] (twHC k x r))),(108,.full (normF (B []) [228,31,31] plusS)),(109,.pure (normG (B []) [37,37,118] bothT)),(112,.full (normF (B []) [228] errS))]) G :=
  .cons _ unlike_ok (.consF _ twHC_ok (.consF _ plus_ok (.cons _ both_ex (.consF _ err_ok noneS))))
 refine okP hS Tryz.func67 rfl (by decide) fun K us hk=>?_
 unfold mhistS at hk
 split at hk
 ·split at hk
  ·rename_i la lb _ _ a b ha hb
   rw [asHist_eq ha,asHist_eq hb]
   refine ⟨by show 2 ≤ _; decide,?_⟩
   obtain ⟨⟨hB,h1,h2,us,ut,hn⟩,hk⟩:=hk
   have hk:=hk _ rfl
   have hB6:=hB.2.2.2.2.2
   have hB5:=hB.2.2.2.2.1
   conv=>whnf
   refine ⟨⟨by show a.bs.length ≤ 68719476736; omega,by show b.bs.length ≤ 68719476736; omega⟩,?_⟩;conv=>whnf
   refine Ask.i (fun c1=>?_) (fun c1=>?_)
   ·have c1 : unlikeB a b = true:=c1
    rw [c1] at hk
    conv=>whnf
    exact hk
   have c1 : unlikeB a b = false:=c1
   obtain ⟨e1,e2⟩:=unlike_len c1
   rw [c1] at hk
   conv=>whnf
   refine ⟨⟨hB,hn⟩,?_⟩;conv=>whnf
   intro w hw
   have hw : decide (b.bs = x :: r) = w:=hw
   cases w with
   | true =>
    conv=>whnf
    refine ⟨[],_,_,rfl,Nat × List Int × Bool,(fun y=>([(2,.u (.c (.p 2 0))),(3,.u (.c (.p 3 0))),(4,.u (.c (.p 4 0))),(5,.u (.c nilV)),(6,.u (.c (.p 6 0))),(7,.u (.c (.p 7 0))),(28,.u (.c (.d 38 (.ints a.cs)))),(29,.u (.c (I64 (a.cs.length : Nat)))),(30,.u (.c (I64 (y.1 : Nat))))],
      [(2,.cells 40 a.cells),(3,.cells 40 b.cells),(4,.cells 40 [.v (.slice none 0 0),U64 0,U64 0,U64 0,Bo false,U64 0,Bo false,U64 0,Bo false,U64 0,.v (.slice none 0 0),.v (.slice none 0 0),.v (.slice none 0 0),U32 0,St nos]),(6,.cells 181 [Bo y.2.2]),(7,.cells 40 (({ b with start:=a.start,count:=x64 (a.count + b.count) } : HistD).cellsW (.r 100017 38) (.r 200017 38))),(100017,.row 38 (.ints y.2.1)),(200017,.row 38 (.ints b.bs))])),
     (fun y=>y.1 ≤ a.cs.length ∧ y.2.1.length = a.cs.length ∧ y.2.1 = hZip (a.cs.take y.1) (b.cs.take y.1) ++ b.cs.drop y.1 ∧ hBadL (a.cs.drop y.1) (b.cs.drop y.1) y.2.2 = hBad a b),(fun y=>a.cs.length - y.1),fun x _=>rfl,
     ⟨(0,b.cs,_),⟨Nat.zero_le _,e1.symm,by simp [hZip],rfl⟩,⟨rfl,rfl,rfl,rfl,rfl,rfl,rfl,rfl,rfl,trivial⟩,⟨rfl,rfl,rfl,rfl,rfl,rfl,rfl,trivial⟩⟩,?_⟩
    rintro ⟨i,c,bd⟩ ⟨p1,p2,p3,p4⟩
    simp only at p1 p2 p3 p4
    conv=>whnf
    refine Ask.i (fun c2=>?_) (fun c2=>?_)
    ·have c2 : (i : Int) < ((a.cs.length : Nat) : Int):=of_decide_eq_true c2
     have hi : i < a.cs.length:=by omega
     have hj : i < b.cs.length:=by omega
     have ga : a.cs.getD i 0 = a.cs[i]:=by rw [List.getD_eq_getElem?_getD,List.getElem?_eq_getElem hi]; rfl
     have gb : b.cs.getD i 0 = b.cs[i]:=by rw [List.getD_eq_getElem?_getD,List.getElem?_eq_getElem hj]; rfl
     conv=>whnf
     refine ⟨⟨by omega,c2⟩,?_⟩;conv=>whnf
     refine ⟨mixed,[(9,[6]),(11,[100017])],[(1,[6]),(5,[]),(7,[]),(8,[]),(10,[6])],[],by kernel_rfl,?_⟩;conv=>whnf
     refine ⟨⟨by omega,by show (i : Int) < ((b.cs.length : Nat) : Int); omega⟩,?_⟩;conv=>whnf
     refine ⟨⟨by omega,by show (i : Int) < ((c.length : Nat) : Int); omega⟩,?_⟩;conv=>whnf
     rw [List.drop_eq_getElem_cons hi,List.drop_eq_getElem_cons hj,hBadL,← ga,← gb] at p4
     refine ⟨(i + 1,c.set i (x64 (a.cs.getD i 0 + b.cs.getD i 0)),bd || decide (x64 (a.cs.getD i 0 + b.cs.getD i 0) < a.cs.getD i 0)),⟨hi,by simp only [List.length_set]; exact p2,?_,p4⟩,by show a.cs.length - (i + 1) < a.cs.length - i; omega,⟨rfl,rfl,rfl,rfl,rfl,rfl,rfl,rfl,?_,trivial⟩,⟨rfl,rfl,rfl,rfl,rfl,rfl,rfl,trivial⟩⟩
     ·exact hZip_set a.cs b.cs c i hi hj p3
     exact congrArg (fun z : Int=>some (SV.u (.c (I64 z)))) (w64_eq (n:=(i : Int) + 1) (by omega))
    have c2 : ¬ (i : Int) < ((a.cs.length : Nat) : Int):=of_decide_eq_false c2
    have hi : i = a.cs.length:=by omega
    rw [hi,List.drop_length,show b.cs.drop a.cs.length = [] by rw [e1,List.drop_length]] at p4
    rw [hi,List.take_length,show b.cs.take a.cs.length = b.cs by rw [e1,List.take_length],show b.cs.drop a.cs.length = [] by rw [e1,List.drop_length],List.append_nil] at p3
    have p4 : bd = hBad a b:=p4;conv=>whnf
    refine ⟨mixed,[(16,[7]),(18,[7]),(20,[7])],[],[],by kernel_rfl,?_⟩;conv=>whnf
    refine ⟨⟨us,ut⟩,?_⟩;conv=>whnf
    have hk:=hk _ rfl
    conv=>whnf
    intro cc hc
    have hc : bd = cc:=hc
    rw [← p4,hc] at hk
    cases cc with
    | true =>
     conv=>whnf
     exact hk
    | false =>
     conv=>whnf
     exact fin hk (congrArg (fun l=>SV.t [.a ({ histE a b (zS a b) with cs:=l }).cells,.c nilV]) p3.symm)
   | false =>
    conv=>whnf
    refine ⟨[],_,_,rfl,Nat × List Int × Bool,(fun y=>([(2,.u (.c (.p 2 0))),(3,.u (.c (.p 3 0))),(4,.u (.c (.p 4 0))),(5,.u (.c nilV)),(6,.u (.c (.p 6 0))),(7,.u (.c (.p 7 0))),(28,.u (.c (.d 38 (.ints a.cs)))),(29,.u (.c (I64 (a.cs.length : Nat)))),(30,.u (.c (I64 (y.1 : Nat))))],
      [(2,.cells 40 a.cells),(3,.cells 40 b.cells),(4,.cells 40 [.v (.slice none 0 0),U64 0,U64 0,U64 0,Bo false,U64 0,Bo false,U64 0,Bo false,U64 0,.v (.slice none 0 0),.v (.slice none 0 0),.v (.slice none 0 0),U32 0,St nos]),(6,.cells 181 [Bo y.2.2]),(7,.cells 40 (({ b with start:=a.start,count:=x64 (a.count + b.count) } : HistD).cellsW (.r 100017 38) (.d 38 (.ints b.bs)))),(100017,.row 38 (.ints y.2.1))])),
     (fun y=>y.1 ≤ a.cs.length ∧ y.2.1.length = a.cs.length ∧ y.2.1 = hZip (a.cs.take y.1) (b.cs.take y.1) ++ b.cs.drop y.1 ∧ hBadL (a.cs.drop y.1) (b.cs.drop y.1) y.2.2 = hBad a b),(fun y=>a.cs.length - y.1),fun x _=>rfl,
     ⟨(0,b.cs,_),⟨Nat.zero_le _,e1.symm,by simp [hZip],rfl⟩,⟨rfl,rfl,rfl,rfl,rfl,rfl,rfl,rfl,rfl,trivial⟩,⟨rfl,rfl,rfl,rfl,rfl,rfl,trivial⟩⟩,?_⟩
    rintro ⟨i,c,bd⟩ ⟨p1,p2,p3,p4⟩
    simp only at p1 p2 p3 p4
    conv=>whnf
    refine Ask.i (fun c2=>?_) (fun c2=>?_)
    ·have c2 : (i : Int) < ((a.cs.length : Nat) : Int):=of_decide_eq_true c2
     have hi : i < a.cs.length:=by omega
     have hj : i < b.cs.length:=by omega
     have ga : a.cs.getD i 0 = a.cs[i]:=by rw [List.getD_eq_getElem?_getD,List.getElem?_eq_getElem hi]; rfl
     have gb : b.cs.getD i 0 = b.cs[i]:=by rw [List.getD_eq_getElem?_getD,List.getElem?_eq_getElem hj]; rfl
     conv=>whnf
     refine ⟨⟨by omega,c2⟩,?_⟩;conv=>whnf
     refine ⟨mixed,[(9,[6]),(11,[100017])],[(1,[6]),(5,[]),(7,[]),(8,[]),(10,[6])],[],by kernel_rfl,?_⟩;conv=>whnf
     refine ⟨⟨by omega,by show (i : Int) < ((b.cs.length : Nat) : Int); omega⟩,?_⟩;conv=>whnf
     refine ⟨⟨by omega,by show (i : Int) < ((c.length : Nat) : Int); omega⟩,?_⟩;conv=>whnf
     rw [List.drop_eq_getElem_cons hi,List.drop_eq_getElem_cons hj,hBadL,← ga,← gb] at p4
     refine ⟨(i + 1,c.set i (x64 (a.cs.getD i 0 + b.cs.getD i 0)),bd || decide (x64 (a.cs.getD i 0 + b.cs.getD i 0) < a.cs.getD i 0)),⟨hi,by simp only [List.length_set]; exact p2,?_,p4⟩,by show a.cs.length - (i + 1) < a.cs.length - i; omega,⟨rfl,rfl,rfl,rfl,rfl,rfl,rfl,rfl,?_,trivial⟩,⟨rfl,rfl,rfl,rfl,rfl,rfl,trivial⟩⟩
     ·exact hZip_set a.cs b.cs c i hi hj p3
     exact congrArg (fun z : Int=>some (SV.u (.c (I64 z)))) (w64_eq (n:=(i : Int) + 1) (by omega))
    have c2 : ¬ (i : Int) < ((a.cs.length : Nat) : Int):=of_decide_eq_false c2
    have hi : i = a.cs.length:=by omega
    rw [hi,List.drop_length,show b.cs.drop a.cs.length = [] by rw [e1,List.drop_length]] at p4
    rw [hi,List.take_length,show b.cs.take a.cs.length = b.cs by rw [e1,List.take_length],show b.cs.drop a.cs.length = [] by rw [e1,List.drop_length],List.append_nil] at p3
    have p4 : bd = hBad a b:=p4;conv=>whnf
    refine ⟨mixed,[(16,[7]),(18,[7]),(20,[7])],[],[],by kernel_rfl,?_⟩;conv=>whnf
    refine ⟨⟨us,ut⟩,?_⟩;conv=>whnf
    have hk:=hk _ rfl
    conv=>whnf
    intro cc hc
    have hc : bd = cc:=hc
    rw [← p4,hc] at hk
    cases cc with
    | true =>
     conv=>whnf
     exact hk
    | false =>
     conv=>whnf
     exact fin hk (congrArg (fun l=>SV.t [.a ({ histE a b (zS a b) with cs:=l }).cells,.c nilV]) p3.symm)
  exact hk.elim
 exact hk.elim
theorem Ok.byCases {f : FuncId} {g : List U → Out SV} {ι : Type} {gi : ι → List U → Out SV} (i0 : ι) (h : ∀ i,Ok G f (gi i)) (hm : ∀ us,∃ i,∀ K,(g us).wp K → (gi i us).wp K) : Ok G f g:=by
 refine ⟨(h i0).1,fun K us X w vals hk=>?_⟩
 obtain ⟨i,hi⟩:=hm us
 exact (h i).2 K us X w vals (hi K hk)
theorem mhist_ok {k : Nat} : Ok G 67 (mhistS k fun _=>True):=by
 refine Ok.byCases (ι:=Option (Int × List Int)) (gi:=fun o=>match o with | none=>mhistS k fun b=>b.cs = [] | some p=>mhistS k fun b=>b.cs = p.1 :: p.2) none (fun o=>by
  cases o with
  | none=>exact mhistA_ok
  | some p=>exact mhistB_ok) fun us=>?_
 unfold mhistS
 split
 ·split
  ·rename_i la lb _ _ a b ha hb
   cases hc : b.cs with
   | nil =>
    refine ⟨none,fun K hk=>?_⟩
    simp only [ha,hb]
    exact ⟨⟨hk.1.1,hk.1.2.1,hk.1.2.2.1,hk.1.2.2.2.1,hk.1.2.2.2.2.1,hc⟩,hk.2⟩
   | cons x r =>
    refine ⟨some (x,r),fun K hk=>?_⟩
    simp only [ha,hb]
    exact ⟨⟨hk.1.1,hk.1.2.1,hk.1.2.2.1,hk.1.2.2.2.1,hk.1.2.2.2.2.1,hc⟩,hk.2⟩
  exact ⟨none,fun K hk=>hk.elim⟩
 exact ⟨none,fun K hk=>hk.elim⟩
end Sx
namespace Sx
open Go Go.Proofs
set_option maxRecDepth 30000
variable {G : Glob}
def lZip (a b : List Int) : List Int:=List.zipWith (fun x y=>x64 (x - y)) a b
def lBadL : List Int → List Int → Bool → Bool
 | x :: l,y :: m,bad=>lBadL l m (bad || decide (x < y))
 | _,_,bad=>bad
def lBad (a b : HistD) : Bool:=lBadL a.cs b.cs (false || decide (a.count < b.count))
def lhE (a b : HistD) (z : Int) : HistD:={ a with start:=b.time,count:=x64 (a.count - b.count),cs:=lZip a.cs b.cs,sumH:=a.sumH && b.sumH,sum:=z,minH:=false,min:=0,maxH:=false,max:=0 }
open Go.Proofs.SxPu (addV subV)
def zD (a b : HistD) : Int:=bif a.sumH && b.sumH then subV a.sum b.sum else 0
def lhistS (k : Nat) (P : HistD → Prop) : List U → Out SV
 | [.a la,.a lb]=>match asHist la,asHist lb with
  | some a,some b=>.need (HGood k a ∧ b.cs.length ≤ 3750 ∧ b.bs.length ≤ 3750 ∧ UU a.sum ∧ UU b.sum ∧ P a) (wp1 (unlikeB a b) fun c=>bif c then .ret (.t [.a noH.cells,.c (errV 13)]) else wp1 (lBad a b) fun c=>bif c then .ret (.t [.a noH.cells,.c (errV 9)]) else .ret (.t [.a (lhE a b (zD a b)).cells,.c nilV]))
  | _,_=>.fail
 | _=>.fail
theorem lBadL_nil (l : List Int) (bad : Bool) : lBadL l [] bad = bad:=by cases l <;> rfl
theorem lZip_set : ∀ (a b c : List Int) (i : Nat),i < a.length → i < b.length → c = lZip (a.take i) (b.take i) ++ a.drop i → c.set i (x64 (a.getD i 0 - b.getD i 0)) = lZip (a.take (i + 1)) (b.take (i + 1)) ++ a.drop (i + 1)
 | [],_,_,_,h,_,_=>by simp at h
 | _ :: _,[],_,_,_,h,_=>by simp at h
 | x :: a,y :: b,c,0,_,_,h=>by
  rw [h]; simp [lZip]
 | x :: a,y :: b,c,i + 1,h1,h2,h=>by
  rw [h]
  have:=lZip_set a b _ i (by simpa using h1) (by simpa using h2) rfl
  simp only [lZip,List.take_succ_cons,List.zipWith_cons_cons,List.drop_succ_cons,List.cons_append,List.set_cons_succ,List.getD_cons_succ,List.cons.injEq,true_and] at *
  exact this
theorem lhistA_ok {k : Nat} : Ok G 85 (lhistS k fun a=>a.cs = []):=by
 have hS : AllSound (B [(107,.pure (normG (B []) [40,40] unlikeS)),(63,.pure (normG (B []) [40] (twHS k))),(130,.full (normF (B []) [228,31,31] lessS)),(109,.pure (normG (B []) [37,37,118] bothT)),(112,.full (normF (B []) [228] errS))]) G :=
  .cons _ unlike_ok (.cons _ twHist_ok (.consF _ less_ok (.cons _ both_ex (.consF _ err_ok noneS))))
 refine okP hS Tryz.func85 rfl (by decide) fun K us hk=>?_
 unfold lhistS at hk
 split at hk
 ·split at hk
  ·rename_i la lb _ _ a b ha hb
   rw [asHist_eq ha,asHist_eq hb]
   refine ⟨by show 2 ≤ _; decide,?_⟩
   obtain ⟨⟨hB,h1,h2,us,ut,hn⟩,hk⟩:=hk
   have hk:=hk _ rfl
   have hB6:=hB.2.2.2.2.2
   have hB5:=hB.2.2.2.2.1
   conv=>whnf
   refine ⟨⟨by show a.bs.length ≤ 68719476736; omega,by show b.bs.length ≤ 68719476736; omega⟩,?_⟩;conv=>whnf
   refine Ask.i (fun c1=>?_) (fun c1=>?_)
   ·have c1 : unlikeB a b = true:=c1
    rw [c1] at hk
    conv=>whnf
    exact hk
   have c1 : unlikeB a b = false:=c1
   obtain ⟨e1,e2⟩:=unlike_len c1
   rw [c1] at hk
   conv=>whnf
   refine ⟨hB,?_⟩;conv=>whnf
   have hnb : b.cs = []:=List.length_eq_zero_iff.1 (by rw [← e1,hn]; rfl)
   have hbad : lBad a b = (false || decide (a.count < b.count)):=by unfold lBad; rw [hnb,lBadL_nil]
   refine ⟨[],_,_,rfl,Unit,(fun _=>([(2,.u (.c (.p 2 0))),(3,.u (.c (.p 3 0))),(4,.u (.c (.p 4 0))),(5,.u (.c nilV)),(6,.u (.c (.p 6 0))),(7,.u (.c (.p 7 0))),(29,.u (.c (I64 (b.cs.length : Nat)))),(30,.u (.c (I64 0)))],
     [(2,.cells 40 a.cells),(3,.cells 40 b.cells),(4,.cells 40 [.v (.slice none 0 0),U64 0,U64 0,U64 0,Bo false,U64 0,Bo false,U64 0,Bo false,U64 0,.v (.slice none 0 0),.v (.slice none 0 0),.v (.slice none 0 0),U32 0,St nos]),(6,.cells 181 [Bo (false || decide (a.count < b.count))]),(7,.cells 40 ({ a with start:=b.time,count:=x64 (a.count - b.count) } : HistD).cells)])),
    (fun _=>True),(fun _=>0),fun x _=>rfl,⟨(),trivial,⟨rfl,rfl,rfl,rfl,rfl,rfl,rfl,rfl,trivial⟩,⟨rfl,rfl,rfl,rfl,rfl,trivial⟩⟩,?_⟩
   rintro _ _;conv=>whnf
   refine Ask.i (fun c2=>?_) (fun c2=>?_)
   ·have c2 : (0 : Int) < ((b.cs.length : Nat) : Int):=of_decide_eq_true c2
    rw [hnb] at c2; cases c2
   skip
   conv=>whnf
   refine ⟨⟨us,ut⟩,?_⟩;conv=>whnf
   have hk:=hk _ rfl
   conv=>whnf
   intro cc hc
   have hc : (false || decide (a.count < b.count)) = cc:=hc
   rw [hbad,hc] at hk
   cases cc with
   | true =>
    conv=>whnf
    exact hk
   | false =>
    conv=>whnf
    refine fin hk (congrArg (fun l=>SV.t [.a ({ lhE a b (zD a b) with cs:=l }).cells,.c nilV]) (?_ : lZip a.cs b.cs = a.cs))
    rw [hnb,hn]; rfl
  exact hk.elim
 exact hk.elim
set_option maxHeartbeats 2000000 in
theorem lhistB_ok {k : Nat} {x : Int} {r : List Int} : Ok G 85 (lhistS k fun a=>a.cs = x :: r):=by
 have hS : AllSound (B [(107,.pure (normG (B []) [40,40] unlikeS)),(63,.full (normF (B []) [40] (twHC k x r))),(130,.full (normF (B []) [228,31,31] lessS)),(109,.pure (normG (B []) [37,37,118] bothT)),(112,.full (normF (B []) [228] errS))]) G :=
  .cons _ unlike_ok (.consF _ twHC_ok (.consF _ less_ok (.cons _ both_ex (.consF _ err_ok noneS))))
 refine okP hS Tryz.func85 rfl (by decide) fun K us hk=>?_
 unfold lhistS at hk
 split at hk
 ·split at hk
  ·rename_i la lb _ _ a b ha hb
   rw [asHist_eq ha,asHist_eq hb]
   refine ⟨by show 2 ≤ _; decide,?_⟩
   obtain ⟨⟨hB,h1,h2,us,ut,hn⟩,hk⟩:=hk
   have hk:=hk _ rfl
   have hB6:=hB.2.2.2.2.2
   have hB5:=hB.2.2.2.2.1
   conv=>whnf
   refine ⟨⟨by show a.bs.length ≤ 68719476736; omega,by show b.bs.length ≤ 68719476736; omega⟩,?_⟩;conv=>whnf
   refine Ask.i (fun c1=>?_) (fun c1=>?_)
   ·have c1 : unlikeB a b = true:=c1
    rw [c1] at hk
    conv=>whnf
    exact hk
   have c1 : unlikeB a b = false:=c1
   obtain ⟨e1,e2⟩:=unlike_len c1
   rw [c1] at hk
   conv=>whnf
   refine ⟨⟨hB,hn⟩,?_⟩;conv=>whnf
   intro w hw
   have hw : decide (a.bs = x :: r) = w:=hw
   cases w with
   | true =>
    conv=>whnf
    refine ⟨[],_,_,rfl,Nat × List Int × Bool,(fun y=>([(2,.u (.c (.p 2 0))),(3,.u (.c (.p 3 0))),(4,.u (.c (.p 4 0))),(5,.u (.c nilV)),(6,.u (.c (.p 6 0))),(7,.u (.c (.p 7 0))),(28,.u (.c (.d 38 (.ints b.cs)))),(29,.u (.c (I64 (b.cs.length : Nat)))),(30,.u (.c (I64 (y.1 : Nat))))],
      [(2,.cells 40 a.cells),(3,.cells 40 b.cells),(4,.cells 40 [.v (.slice none 0 0),U64 0,U64 0,U64 0,Bo false,U64 0,Bo false,U64 0,Bo false,U64 0,.v (.slice none 0 0),.v (.slice none 0 0),.v (.slice none 0 0),U32 0,St nos]),(6,.cells 181 [Bo y.2.2]),(7,.cells 40 (({ a with start:=b.time,count:=x64 (a.count - b.count) } : HistD).cellsW (.r 100017 38) (.r 200017 38))),(100017,.row 38 (.ints y.2.1)),(200017,.row 38 (.ints a.bs))])),
     (fun y=>y.1 ≤ a.cs.length ∧ y.2.1.length = a.cs.length ∧ y.2.1 = lZip (a.cs.take y.1) (b.cs.take y.1) ++ a.cs.drop y.1 ∧ lBadL (a.cs.drop y.1) (b.cs.drop y.1) y.2.2 = lBad a b),(fun y=>a.cs.length - y.1),fun x _=>rfl,
     ⟨(0,a.cs,_),⟨Nat.zero_le _,rfl,by simp [lZip],rfl⟩,⟨rfl,rfl,rfl,rfl,rfl,rfl,rfl,rfl,rfl,trivial⟩,⟨rfl,rfl,rfl,rfl,rfl,rfl,rfl,trivial⟩⟩,?_⟩
    rintro ⟨i,c,bd⟩ ⟨p1,p2,p3,p4⟩
    simp only at p1 p2 p3 p4
    conv=>whnf
    refine Ask.i (fun c2=>?_) (fun c2=>?_)
    ·have c2 : (i : Int) < ((b.cs.length : Nat) : Int):=of_decide_eq_true c2
     have hi : i < a.cs.length:=by omega
     have hj : i < b.cs.length:=by omega
     have ga : a.cs.getD i 0 = a.cs[i]:=by rw [List.getD_eq_getElem?_getD,List.getElem?_eq_getElem hi]; rfl
     have gb : b.cs.getD i 0 = b.cs[i]:=by rw [List.getD_eq_getElem?_getD,List.getElem?_eq_getElem hj]; rfl
     conv=>whnf
     refine ⟨⟨by omega,c2⟩,?_⟩;conv=>whnf
     refine ⟨mixed,[(9,[6]),(11,[100017])],[(1,[6]),(4,[]),(6,[]),(7,[]),(10,[6])],[],by kernel_rfl,?_⟩;conv=>whnf
     refine ⟨⟨by omega,by show (i : Int) < ((a.cs.length : Nat) : Int); omega⟩,?_⟩;conv=>whnf
     refine ⟨⟨by omega,by show (i : Int) < ((c.length : Nat) : Int); omega⟩,?_⟩;conv=>whnf
     rw [List.drop_eq_getElem_cons hi,List.drop_eq_getElem_cons hj,lBadL,← ga,← gb] at p4
     refine ⟨(i + 1,c.set i (x64 (a.cs.getD i 0 - b.cs.getD i 0)),bd || decide (a.cs.getD i 0 < b.cs.getD i 0)),⟨hi,by simp only [List.length_set]; exact p2,?_,p4⟩,by show a.cs.length - (i + 1) < a.cs.length - i; omega,⟨rfl,rfl,rfl,rfl,rfl,rfl,rfl,rfl,?_,trivial⟩,⟨rfl,rfl,rfl,rfl,rfl,rfl,rfl,trivial⟩⟩
     ·exact lZip_set a.cs b.cs c i hi hj p3
     exact congrArg (fun z : Int=>some (SV.u (.c (I64 z)))) (w64_eq (n:=(i : Int) + 1) (by omega))
    have c2 : ¬ (i : Int) < ((b.cs.length : Nat) : Int):=of_decide_eq_false c2
    have hi : i = a.cs.length:=by omega
    rw [hi,List.drop_length,show b.cs.drop a.cs.length = [] by rw [e1,List.drop_length]] at p4
    rw [hi,List.take_length,show b.cs.take a.cs.length = b.cs by rw [e1,List.take_length],List.drop_length,List.append_nil] at p3
    have p4 : bd = lBad a b:=p4;conv=>whnf
    refine ⟨⟨us,ut⟩,?_⟩;conv=>whnf
    have hk:=hk _ rfl
    conv=>whnf
    intro cc hc
    have hc : bd = cc:=hc
    rw [← p4,hc] at hk
    cases cc with
    | true =>
     conv=>whnf
     exact hk
    | false =>
     conv=>whnf
     exact fin hk (congrArg (fun l=>SV.t [.a ({ lhE a b (zD a b) with cs:=l }).cells,.c nilV]) p3.symm)
   | false =>
    conv=>whnf
    refine ⟨[],_,_,rfl,Nat × List Int × Bool,(fun y=>([(2,.u (.c (.p 2 0))),(3,.u (.c (.p 3 0))),(4,.u (.c (.p 4 0))),(5,.u (.c nilV)),(6,.u (.c (.p 6 0))),(7,.u (.c (.p 7 0))),(28,.u (.c (.d 38 (.ints b.cs)))),(29,.u (.c (I64 (b.cs.length : Nat)))),(30,.u (.c (I64 (y.1 : Nat))))],
      [(2,.cells 40 a.cells),(3,.cells 40 b.cells),(4,.cells 40 [.v (.slice none 0 0),U64 0,U64 0,U64 0,Bo false,U64 0,Bo false,U64 0,Bo false,U64 0,.v (.slice none 0 0),.v (.slice none 0 0),.v (.slice none 0 0),U32 0,St nos]),(6,.cells 181 [Bo y.2.2]),(7,.cells 40 (({ a with start:=b.time,count:=x64 (a.count - b.count) } : HistD).cellsW (.r 100017 38) (.d 38 (.ints a.bs)))),(100017,.row 38 (.ints y.2.1))])),
     (fun y=>y.1 ≤ a.cs.length ∧ y.2.1.length = a.cs.length ∧ y.2.1 = lZip (a.cs.take y.1) (b.cs.take y.1) ++ a.cs.drop y.1 ∧ lBadL (a.cs.drop y.1) (b.cs.drop y.1) y.2.2 = lBad a b),(fun y=>a.cs.length - y.1),fun x _=>rfl,
     ⟨(0,a.cs,_),⟨Nat.zero_le _,rfl,by simp [lZip],rfl⟩,⟨rfl,rfl,rfl,rfl,rfl,rfl,rfl,rfl,rfl,trivial⟩,⟨rfl,rfl,rfl,rfl,rfl,rfl,trivial⟩⟩,?_⟩
    rintro ⟨i,c,bd⟩ ⟨p1,p2,p3,p4⟩
    simp only at p1 p2 p3 p4
    conv=>whnf
    refine Ask.i (fun c2=>?_) (fun c2=>?_)
    ·have c2 : (i : Int) < ((b.cs.length : Nat) : Int):=of_decide_eq_true c2
     have hi : i < a.cs.length:=by omega
     have hj : i < b.cs.length:=by omega
     have ga : a.cs.getD i 0 = a.cs[i]:=by rw [List.getD_eq_getElem?_getD,List.getElem?_eq_getElem hi]; rfl
     have gb : b.cs.getD i 0 = b.cs[i]:=by rw [List.getD_eq_getElem?_getD,List.getElem?_eq_getElem hj]; rfl
     conv=>whnf
     refine ⟨⟨by omega,c2⟩,?_⟩;conv=>whnf
     refine ⟨mixed,[(9,[6]),(11,[100017])],[(1,[6]),(4,[]),(6,[]),(7,[]),(10,[6])],[],by kernel_rfl,?_⟩;conv=>whnf
     refine ⟨⟨by omega,by show (i : Int) < ((a.cs.length : Nat) : Int); omega⟩,?_⟩;conv=>whnf
     refine ⟨⟨by omega,by show (i : Int) < ((c.length : Nat) : Int); omega⟩,?_⟩;conv=>whnf
     rw [List.drop_eq_getElem_cons hi,List.drop_eq_getElem_cons hj,lBadL,← ga,← gb] at p4
     refine ⟨(i + 1,c.set i (x64 (a.cs.getD i 0 - b.cs.getD i 0)),bd || decide (a.cs.getD i 0 < b.cs.getD i 0)),⟨hi,by simp only [List.length_set]; exact p2,?_,p4⟩,by show a.cs.length - (i + 1) < a.cs.length - i; omega,⟨rfl,rfl,rfl,rfl,rfl,rfl,rfl,rfl,?_,trivial⟩,⟨rfl,rfl,rfl,rfl,rfl,rfl,trivial⟩⟩
     ·exact lZip_set a.cs b.cs c i hi hj p3
     exact congrArg (fun z : Int=>some (SV.u (.c (I64 z)))) (w64_eq (n:=(i : Int) + 1) (by omega))
    have c2 : ¬ (i : Int) < ((b.cs.length : Nat) : Int):=of_decide_eq_false c2
    have hi : i = a.cs.length:=by omega
    rw [hi,List.drop_length,show b.cs.drop a.cs.length = [] by rw [e1,List.drop_length]] at p4
    rw [hi,List.take_length,show b.cs.take a.cs.length = b.cs by rw [e1,List.take_length],List.drop_length,List.append_nil] at p3
    have p4 : bd = lBad a b:=p4;conv=>whnf
    refine ⟨⟨us,ut⟩,?_⟩;conv=>whnf
    have hk:=hk _ rfl
    conv=>whnf
    intro cc hc
    have hc : bd = cc:=hc
    rw [← p4,hc] at hk
    cases cc with
    | true =>
     conv=>whnf
     exact hk
    | false =>
     conv=>whnf
     exact fin hk (congrArg (fun l=>SV.t [.a ({ lhE a b (zD a b) with cs:=l }).cells,.c nilV]) p3.symm)
  exact hk.elim
 exact hk.elim
theorem lhist_ok {k : Nat} : Ok G 85 (lhistS k fun _=>True):=by
 refine Ok.byCases (ι:=Option (Int × List Int)) (gi:=fun o=>match o with | none=>lhistS k fun b=>b.cs = [] | some p=>lhistS k fun b=>b.cs = p.1 :: p.2) none (fun o=>by
  cases o with
  | none=>exact lhistA_ok
  | some p=>exact lhistB_ok) fun us=>?_
 unfold lhistS
 split
 ·split
  ·rename_i la lb _ _ a b ha hb
   cases hc : a.cs with
   | nil =>
    refine ⟨none,fun K hk=>?_⟩
    simp only [ha,hb]
    exact ⟨⟨hk.1.1,hk.1.2.1,hk.1.2.2.1,hk.1.2.2.2.1,hk.1.2.2.2.2.1,hc⟩,hk.2⟩
   | cons x r =>
    refine ⟨some (x,r),fun K hk=>?_⟩
    simp only [ha,hb]
    exact ⟨⟨hk.1.1,hk.1.2.1,hk.1.2.2.1,hk.1.2.2.2.1,hk.1.2.2.2.2.1,hc⟩,hk.2⟩
  exact ⟨none,fun K hk=>hk.elim⟩
 exact ⟨none,fun K hk=>hk.elim⟩
end Sx
