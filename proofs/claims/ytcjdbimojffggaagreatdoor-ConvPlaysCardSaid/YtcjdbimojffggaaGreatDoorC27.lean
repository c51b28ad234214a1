/- Part of the proof: a machine of states for walks, and contracts of functions over it. Conditions: those that each theorem names. -/
import Derived.Test.YtcjdbimojffggaaGreatDoorC24
import Derived.Test.YtcjdbimojffggaaGreatDoorC26
import Derived.Test.YtcjdbimojffggaaGreatDoorC25
set_option linter.unusedVariables false
set_option linter.unusedSimpArgs false
namespace Sx
open Go Go.Proofs
open Go.Proofs.SxPu (addV subV)
set_option maxRecDepth 30000
variable {G : Glob}
structure UH (e : HistD) : Prop where
 lC : e.cs.length ≤ 3750
 lB : e.bs.length ≤ 3750
 sm : UU e.sum
 mn : UU e.min
 mx : UU e.max
def rhistT : List U → Out SV
 | [.a la,.a lb]=>match asHist la,asHist lb with
  | some a,some b=>.need (UH a ∧ UH b) (wp1 (unlikeB a b) fun c=>bif c then .ret (.t [.a noH.cells,.c (I64 13)]) else wp1 (hBad a b) fun c=>bif c then .ret (.t [.a noH.cells,.c (I64 9)]) else .ret (.t [.a (histE a b (zS a b)).cells,.c (I64 0)]))
  | _,_=>.fail
 | _=>.fail
def rlhistT : List U → Out SV
 | [.a la,.a lb]=>match asHist la,asHist lb with
  | some a,some b=>.need (UH a ∧ UH b) (wp1 (unlikeB a b) fun c=>bif c then .ret (.t [.a noH.cells,.c (I64 13)]) else wp1 (lBad a b) fun c=>bif c then .ret (.t [.a noH.cells,.c (I64 9)]) else .ret (.t [.a (lhE a b (zD a b)).cells,.c (I64 0)]))
  | _,_=>.fail
 | _=>.fail
theorem hBadL_true : ∀ (l m : List Int),hBadL l m true = true
 | [],_=>by rw [hBadL]; exact fun _ _ _ _ h=>by cases h
 | _ :: _,[]=>by rw [hBadL]; exact fun _ _ _ _ _ h=>by cases h
 | x :: l,y :: m=>by rw [hBadL]; simp only [Bool.true_or]; exact hBadL_true l m
theorem hBadL_nils (bad : Bool) : hBadL [] [] bad = bad:=by rw [hBadL]; exact fun _ _ _ _ h=>by cases h
theorem lBadL_nils (bad : Bool) : lBadL [] [] bad = bad:=by rw [lBadL]; exact fun _ _ _ _ h=>by cases h
theorem not_ge (a b : Int) : (!(decide (a ≥ b))) = (false || decide (a < b)):=by
 by_cases h : a ≥ b
 ·rw [decide_eq_true h,decide_eq_false (by omega)]; rfl
 rw [decide_eq_false h,decide_eq_true (by omega)]; rfl
theorem not_le (a b : Int) : (!(decide (a ≤ b))) = (false || decide (b < a)):=not_ge b a
theorem take_getD {l : List Int} {i : Nat} (h : i < l.length) : l.take (i + 1) = l.take i ++ [l.getD i 0]:=by
 rw [List.take_add_one,List.getElem?_eq_getElem h,List.getD_eq_getElem?_getD,List.getElem?_eq_getElem h]; rfl
theorem drop_getD {l : List Int} {i : Nat} (h : i < l.length) : l.drop i = l.getD i 0 :: l.drop (i + 1):=by
 rw [List.drop_eq_getElem_cons h,List.getD_eq_getElem?_getD,List.getElem?_eq_getElem h]; rfl
theorem hZip_succ {a b : List Int} {i : Nat} (h1 : i < a.length) (h2 : i < b.length) : hZip (a.take (i + 1)) (b.take (i + 1)) = hZip (a.take i) (b.take i) ++ [x64 (a.getD i 0 + b.getD i 0)]:=by
 rw [take_getD h1,take_getD h2]; unfold hZip
 rw [List.zipWith_append (by simp; omega)]; rfl
theorem lZip_succ {a b : List Int} {i : Nat} (h1 : i < a.length) (h2 : i < b.length) : lZip (a.take (i + 1)) (b.take (i + 1)) = lZip (a.take i) (b.take i) ++ [x64 (a.getD i 0 - b.getD i 0)]:=by
 rw [take_getD h1,take_getD h2]; unfold lZip
 rw [List.zipWith_append (by simp; omega)]; rfl
theorem hZip_take_len {a b : List Int} (i : Nat) (h : a.length ≤ 3750) : (hZip (a.take i) (b.take i)).length ≤ 3750:=by
 unfold hZip; rw [List.length_zipWith]; simp; omega
theorem lZip_take_len {a b : List Int} (i : Nat) (h : a.length ≤ 3750) : (lZip (a.take i) (b.take i)).length ≤ 3750:=by
 unfold lZip; rw [List.length_zipWith]; simp; omega
theorem unlike_1 {a b : HistD} (h : (!(decide (a.bs = b.bs))) = true) : unlikeB a b = true:=by unfold unlikeB; rw [h,Bool.or_true]
theorem unlike_2 {a b : HistD} {v : Bool} (h : (!(decide (a.bs = b.bs))) = false) (h2 : (((a.cs.length : Nat) : Int) != ((b.cs.length : Nat) : Int)) = v) : unlikeB a b = v:=by unfold unlikeB; rw [h,h2,Bool.or_false]
theorem rhist_ex : Ok G 82 rhistT:=by
 have hS : AllSound (B [(72,.pure (normG (B []) [38,38] numsS)),(126,.pure (normG (B []) [31,31] rsumT)),(127,.pure (normG (B []) [220,220] optsT))]) G:=.cons _ nums_ok (.cons _ rsum_ex (.cons _ opts_ex noneS))
 refine okP hS Tryz.func82 rfl (by decide) fun K us hk=>?_
 unfold rhistT at hk
 split at hk
 ·split at hk
  ·rename_i la lb _ _ a b ha hb
   rw [asHist_eq ha,asHist_eq hb]
   refine ⟨by show 2 ≤ _; decide,?_⟩
   obtain ⟨⟨⟨a1,a2,a3,a4,a5⟩,⟨b1,b2,b3,b4,b5⟩⟩,hk⟩:=hk
   conv=>whnf
   refine ⟨⟨by show a.bs.length ≤ 68719476736; omega,by show b.bs.length ≤ 68719476736; omega⟩,?_⟩;conv=>whnf
   refine Ask.i (fun c1=>?_) (fun c1=>?_)
   ·have hk:=hk true (unlike_1 c1)
    conv=>whnf
    exact hk
   conv=>whnf
   refine Ask.i (fun c2=>?_) (fun c2=>?_)
   ·have hk:=hk true (unlike_2 c1 c2)
    conv=>whnf
    exact hk
   have hk:=hk false (unlike_2 c1 c2)
   obtain ⟨e1,e2⟩:=unlike_len (unlike_2 c1 c2)
   conv=>whnf
   refine ⟨[],_,_,rfl,Nat × Bool,(fun y=>([(2,.u (.c (.p 2 0))),(3,.u (.c (.p 3 0))),(4,.u (.c (.p 4 0))),(5,.u (.c (I64 0))),(6,.u (.c (.p 6 0))),(8,.u (.c (Bo y.2))),(9,.u (.c (I64 (y.1 : Nat))))],
    match y.1 with | 0=>[(2,.cells 40 a.cells),(3,.cells 40 b.cells),(4,.cells 40 [.v (.slice none 0 0),U64 0,U64 0,U64 0,Bo false,U64 0,Bo false,U64 0,Bo false,U64 0,.v (.slice none 0 0),.v (.slice none 0 0),.v (.slice none 0 0),U32 0,St nos]),(6,.cells 40 (({ b with start:=a.start,count:=x64 (a.count + b.count) } : HistD).cellsW (.v (.slice none 0 0)) (.d 38 (.ints b.bs))))] | i + 1=>[(2,.cells 40 a.cells),(3,.cells 40 b.cells),(4,.cells 40 [.v (.slice none 0 0),U64 0,U64 0,U64 0,Bo false,U64 0,Bo false,U64 0,Bo false,U64 0,.v (.slice none 0 0),.v (.slice none 0 0),.v (.slice none 0 0),U32 0,St nos]),(6,.cells 40 (({ b with start:=a.start,count:=x64 (a.count + b.count) } : HistD).cellsW (.r 72 38) (.d 38 (.ints b.bs)))),(72,.row 38 (.ints (hZip (a.cs.take (i + 1)) (b.cs.take (i + 1)))))])),
    (fun y=>y.1 ≤ a.cs.length ∧ hBadL (a.cs.drop y.1) (b.cs.drop y.1) (!y.2) = hBad a b),(fun y=>a.cs.length - y.1),fun x _=>(by obtain ⟨i,g⟩:=x; cases i <;> rfl),
    ⟨(0,decide (x64 (a.count + b.count) ≥ a.count)),⟨Nat.zero_le _,by show hBadL a.cs b.cs (!(decide (x64 (a.count + b.count) ≥ a.count))) = _; rw [not_ge]; rfl⟩,⟨rfl,rfl,rfl,rfl,rfl,rfl,rfl,trivial⟩,⟨rfl,rfl,rfl,rfl,trivial⟩⟩,?_⟩
   rintro ⟨i,g⟩ ⟨p1,p2⟩
   simp only at p1 p2
   have hfa : x64 (a.count + b.count) = x64 (a.count + b.count):=rfl
   cases i with
   | zero =>
    conv=>whnf
    refine Ask.i (fun c3=>?_) (fun c3=>?_)
    ·have k3 : (((0 : Nat)) : Int) < ((a.cs.length : Nat) : Int):=of_decide_eq_true c3
     have hi : 0 < a.cs.length:=by omega
     have hj : 0 < b.cs.length:=by omega
     rw [drop_getD hi,drop_getD hj,hBadL] at p2
     conv=>whnf
     refine Ask.i (fun c4=>?_) (fun c4=>?_)
     ·have c4 : g = true:=c4
      subst c4
      conv=>whnf
      refine ⟨mixed,[],[],[],by kernel_rfl,?_⟩;conv=>whnf
      refine ⟨⟨by omega,k3⟩,?_⟩;conv=>whnf
      refine ⟨⟨by omega,by show (((0 : Nat)) : Int) < ((b.cs.length : Nat) : Int); omega⟩,?_⟩;conv=>whnf
      refine ⟨by show 1 ≤ 137438953472; omega,?_⟩;conv=>whnf
      refine ⟨(0 + 1,decide (x64 (a.cs.getD (0) 0 + b.cs.getD (0) 0) ≥ a.cs.getD (0) 0)),⟨hi,by rw [← p2,not_ge]; simp⟩,by show a.cs.length - (0 + 1) < a.cs.length - (0); omega,⟨rfl,rfl,rfl,rfl,rfl,rfl,?_,trivial⟩,⟨rfl,rfl,rfl,rfl,?_,trivial⟩⟩
      ·exact congrArg (fun z : Int=>some (SV.u (.c (I64 z)))) (w64_eq (n:=(((0 : Nat)) : Int) + 1) (by omega))
      exact congrArg (fun l=>some (Blk.row 38 (.ints l))) (hZip_succ hi hj).symm
     have c4 : g = false:=c4
     subst c4
     have hk:=hk true (by rw [← p2]; exact hBadL_true _ _)
     conv=>whnf
     exact hk
    have k3 : ¬ (((0 : Nat)) : Int) < ((a.cs.length : Nat) : Int):=of_decide_eq_false c3
    have hi : 0 = a.cs.length:=by omega
    rw [hi,List.drop_length,e1,List.drop_length,hBadL_nils] at p2
    conv=>whnf
    refine Ask.i (fun c5=>?_) (fun c5=>?_)
    ·have c5 : (!g) = true:=c5
     have hk:=hk true (by rw [← p2,c5])
     conv=>whnf
     exact hk
    have c5 : (!g) = false:=c5
    have hk:=hk false (by rw [← p2,c5])
    conv=>whnf
    refine ⟨⟨⟨a3,b3⟩,⟨a4,b4⟩,a5,b5⟩,?_⟩;conv=>whnf
    refine ⟨mixed,[(7,[6]),(9,[6]),(11,[6])],[(0,[]),(1,[]),(2,[6]),(3,[6]),(4,[6]),(5,[6])],[],by kernel_rfl,?_⟩;conv=>whnf
    first | (refine ⟨by decide,?_⟩; conv=>whnf) | skip
    first | (refine ⟨by decide,?_⟩; conv=>whnf) | skip
    first | (refine ⟨by decide,?_⟩; conv=>whnf) | skip
    have h0 : hZip a.cs b.cs = []:=by rw [List.length_eq_zero_iff.1 hi.symm]; rfl
    exact fin hk (congrArg (fun l=>SV.t [.a ({ histE a b (zS a b) with cs:=l }).cells,.c (I64 0)]) h0)
   | succ i =>
    conv=>whnf
    refine Ask.i (fun c3=>?_) (fun c3=>?_)
    ·have k3 : (((i + 1 : Nat)) : Int) < ((a.cs.length : Nat) : Int):=of_decide_eq_true c3
     have hi : i + 1 < a.cs.length:=by omega
     have hj : i + 1 < b.cs.length:=by omega
     rw [drop_getD hi,drop_getD hj,hBadL] at p2
     conv=>whnf
     refine Ask.i (fun c4=>?_) (fun c4=>?_)
     ·have c4 : g = true:=c4
      subst c4
      conv=>whnf
      refine ⟨mixed,[],[],[],by kernel_rfl,?_⟩;conv=>whnf
      refine ⟨⟨by omega,k3⟩,?_⟩;conv=>whnf
      refine ⟨⟨by omega,by show (((i + 1 : Nat)) : Int) < ((b.cs.length : Nat) : Int); omega⟩,?_⟩;conv=>whnf
      have hln:=hZip_take_len (a:=a.cs) (b:=b.cs) (i + 1) a1
      refine ⟨by show (hZip (a.cs.take (i + 1)) (b.cs.take (i + 1))).length + 1 ≤ 137438953472; omega,?_⟩;conv=>whnf
      refine ⟨(i + 1 + 1,decide (x64 (a.cs.getD (i + 1) 0 + b.cs.getD (i + 1) 0) ≥ a.cs.getD (i + 1) 0)),⟨hi,by rw [← p2,not_ge]; simp⟩,by show a.cs.length - (i + 1 + 1) < a.cs.length - (i + 1); omega,⟨rfl,rfl,rfl,rfl,rfl,rfl,?_,trivial⟩,⟨rfl,rfl,rfl,rfl,?_,trivial⟩⟩
      ·exact congrArg (fun z : Int=>some (SV.u (.c (I64 z)))) (w64_eq (n:=(((i + 1 : Nat)) : Int) + 1) (by omega))
      exact congrArg (fun l=>some (Blk.row 38 (.ints l))) (hZip_succ hi hj).symm
     have c4 : g = false:=c4
     subst c4
     have hk:=hk true (by rw [← p2]; exact hBadL_true _ _)
     conv=>whnf
     exact hk
    have k3 : ¬ (((i + 1 : Nat)) : Int) < ((a.cs.length : Nat) : Int):=of_decide_eq_false c3
    have hi : i + 1 = a.cs.length:=by omega
    rw [hi,List.drop_length,e1,List.drop_length,hBadL_nils] at p2
    conv=>whnf
    refine Ask.i (fun c5=>?_) (fun c5=>?_)
    ·have c5 : (!g) = true:=c5
     have hk:=hk true (by rw [← p2,c5])
     conv=>whnf
     exact hk
    have c5 : (!g) = false:=c5
    have hk:=hk false (by rw [← p2,c5])
    conv=>whnf
    refine ⟨⟨⟨a3,b3⟩,⟨a4,b4⟩,a5,b5⟩,?_⟩;conv=>whnf
    refine ⟨mixed,[(7,[6]),(9,[6]),(11,[6])],[(0,[]),(1,[]),(2,[6]),(3,[6]),(4,[6]),(5,[6])],[],by kernel_rfl,?_⟩;conv=>whnf
    first | (refine ⟨by decide,?_⟩; conv=>whnf) | skip
    first | (refine ⟨by decide,?_⟩; conv=>whnf) | skip
    first | (refine ⟨by decide,?_⟩; conv=>whnf) | skip
    have h0 : hZip a.cs b.cs = hZip (a.cs.take (i + 1)) (b.cs.take (i + 1)):=by rw [hi,List.take_length,e1,List.take_length]
    exact fin hk (congrArg (fun l=>SV.t [.a ({ histE a b (zS a b) with cs:=l }).cells,.c (I64 0)]) h0)
  exact hk.elim
 exact hk.elim
theorem rlhist_ex : Ok G 88 rlhistT:=by
 have hS : AllSound (B [(72,.pure (normG (B []) [38,38] numsS)),(135,.pure (normG (B []) [37,37] lessSumT))]) G:=.cons _ nums_ok (.cons _ lessSum_ex noneS)
 refine okP hS Tryz.func88 rfl (by decide) fun K us hk=>?_
 unfold rlhistT at hk
 split at hk
 ·split at hk
  ·rename_i la lb _ _ a b ha hb
   rw [asHist_eq ha,asHist_eq hb]
   refine ⟨by show 2 ≤ _; decide,?_⟩
   obtain ⟨⟨⟨a1,a2,a3,a4,a5⟩,⟨b1,b2,b3,b4,b5⟩⟩,hk⟩:=hk
   conv=>whnf
   refine ⟨⟨by show a.bs.length ≤ 68719476736; omega,by show b.bs.length ≤ 68719476736; omega⟩,?_⟩;conv=>whnf
   refine Ask.i (fun c1=>?_) (fun c1=>?_)
   ·have hk:=hk true (unlike_1 c1)
    conv=>whnf
    exact hk
   conv=>whnf
   refine Ask.i (fun c2=>?_) (fun c2=>?_)
   ·have hk:=hk true (unlike_2 c1 c2)
    conv=>whnf
    exact hk
   have hk:=hk false (unlike_2 c1 c2)
   obtain ⟨e1,e2⟩:=unlike_len (unlike_2 c1 c2)
   conv=>whnf
   refine ⟨mixed,[(8,[6]),(10,[6]),(12,[6])],[(1,[]),(3,[6]),(5,[6])],[],by kernel_rfl,?_⟩;conv=>whnf
   refine ⟨[],_,_,rfl,Nat × Bool,(fun y=>([(2,.u (.c (.p 2 0))),(3,.u (.c (.p 3 0))),(4,.u (.c (.p 4 0))),(5,.u (.c (I64 0))),(6,.u (.c (.p 6 0))),(7,.u (.c (Bo y.2))),(8,.u (.c (I64 (y.1 : Nat))))],
    match y.1 with | 0=>[(2,.cells 40 a.cells),(3,.cells 40 b.cells),(4,.cells 40 [.v (.slice none 0 0),U64 0,U64 0,U64 0,Bo false,U64 0,Bo false,U64 0,Bo false,U64 0,.v (.slice none 0 0),.v (.slice none 0 0),.v (.slice none 0 0),U32 0,St nos]),(6,.cells 40 (({ a with start:=b.time,count:=x64 (a.count - b.count) } : HistD).cellsW (.v (.slice none 0 0)) (.d 38 (.ints a.bs))))] | i + 1=>[(2,.cells 40 a.cells),(3,.cells 40 b.cells),(4,.cells 40 [.v (.slice none 0 0),U64 0,U64 0,U64 0,Bo false,U64 0,Bo false,U64 0,Bo false,U64 0,.v (.slice none 0 0),.v (.slice none 0 0),.v (.slice none 0 0),U32 0,St nos]),(6,.cells 40 (({ a with start:=b.time,count:=x64 (a.count - b.count) } : HistD).cellsW (.r 76 38) (.d 38 (.ints a.bs)))),(76,.row 38 (.ints (lZip (a.cs.take (i + 1)) (b.cs.take (i + 1)))))])),
    (fun y=>y.1 ≤ a.cs.length ∧ lBadL (a.cs.drop y.1) (b.cs.drop y.1) (!y.2) = lBad a b),(fun y=>a.cs.length - y.1),fun x _=>(by obtain ⟨i,g⟩:=x; cases i <;> rfl),
    ⟨(0,decide (b.count ≤ a.count)),⟨Nat.zero_le _,by show lBadL a.cs b.cs (!(decide (b.count ≤ a.count))) = _; rw [not_le]; rfl⟩,⟨rfl,rfl,rfl,rfl,rfl,rfl,rfl,trivial⟩,⟨rfl,rfl,rfl,rfl,trivial⟩⟩,?_⟩
   rintro ⟨i,g⟩ ⟨p1,p2⟩
   simp only at p1 p2
   have hfa : x64 (a.count - b.count) = x64 (a.count - b.count):=rfl
   cases i with
   | zero =>
    conv=>whnf
    refine Ask.i (fun c3=>?_) (fun c3=>?_)
    ·have k3 : (((0 : Nat)) : Int) < ((a.cs.length : Nat) : Int):=of_decide_eq_true c3
     have hi : 0 < a.cs.length:=by omega
     have hj : 0 < b.cs.length:=by omega
     rw [drop_getD hi,drop_getD hj,lBadL] at p2
     conv=>whnf
     refine ⟨mixed,[],[],[],by kernel_rfl,?_⟩;conv=>whnf
     refine Ask.i (fun c4=>?_) (fun c4=>?_)
     ·have c4 : g = true:=c4
      subst c4
      conv=>whnf
      refine ⟨⟨by omega,by show (((0 : Nat)) : Int) < ((b.cs.length : Nat) : Int); omega⟩,?_⟩;conv=>whnf
      refine ⟨⟨by omega,k3⟩,?_⟩;conv=>whnf
      refine ⟨mixed,[(16,[6])],[(1,[]),(3,[]),(5,[]),(6,[]),(8,[]),(10,[]),(11,[]),(14,[])],[200014],by kernel_rfl,?_⟩;conv=>whnf
      refine ⟨⟨by omega,k3⟩,?_⟩;conv=>whnf
      refine ⟨⟨by omega,by show (((0 : Nat)) : Int) < ((b.cs.length : Nat) : Int); omega⟩,?_⟩;conv=>whnf
      refine ⟨by show 1 ≤ 137438953472; omega,?_⟩;conv=>whnf
      refine ⟨(0 + 1,decide (b.cs.getD (0) 0 ≤ a.cs.getD (0) 0)),⟨hi,by rw [← p2,not_le]; rfl⟩,by show a.cs.length - (0 + 1) < a.cs.length - (0); omega,⟨rfl,rfl,rfl,rfl,rfl,rfl,?_,trivial⟩,⟨rfl,rfl,rfl,rfl,?_,trivial⟩⟩
      ·exact congrArg (fun z : Int=>some (SV.u (.c (I64 z)))) (w64_eq (n:=(((0 : Nat)) : Int) + 1) (by omega))
      exact congrArg (fun l=>some (Blk.row 38 (.ints l))) (lZip_succ hi hj).symm
     have c4 : g = false:=c4
     subst c4
     conv=>whnf
     refine ⟨mixed,[(16,[6])],[(1,[]),(3,[]),(5,[]),(6,[]),(8,[]),(10,[]),(11,[]),(14,[])],[200014],by kernel_rfl,?_⟩;conv=>whnf
     refine ⟨⟨by omega,k3⟩,?_⟩;conv=>whnf
     refine ⟨⟨by omega,by show (((0 : Nat)) : Int) < ((b.cs.length : Nat) : Int); omega⟩,?_⟩;conv=>whnf
     refine ⟨by show 1 ≤ 137438953472; omega,?_⟩;conv=>whnf
     refine ⟨(0 + 1,false),⟨hi,by rw [← p2]; rfl⟩,by show a.cs.length - (0 + 1) < a.cs.length - (0); omega,⟨rfl,rfl,rfl,rfl,rfl,rfl,?_,trivial⟩,⟨rfl,rfl,rfl,rfl,?_,trivial⟩⟩
     ·exact congrArg (fun z : Int=>some (SV.u (.c (I64 z)))) (w64_eq (n:=(((0 : Nat)) : Int) + 1) (by omega))
     exact congrArg (fun l=>some (Blk.row 38 (.ints l))) (lZip_succ hi hj).symm
    have k3 : ¬ (((0 : Nat)) : Int) < ((a.cs.length : Nat) : Int):=of_decide_eq_false c3
    have hi : 0 = a.cs.length:=by omega
    rw [hi,List.drop_length,e1,List.drop_length,lBadL_nils] at p2
    conv=>whnf
    refine Ask.i (fun c5=>?_) (fun c5=>?_)
    ·have c5 : (!g) = true:=c5
     have hk:=hk true (by rw [← p2,c5])
     conv=>whnf
     exact hk
    have c5 : (!g) = false:=c5
    have hk:=hk false (by rw [← p2,c5])
    conv=>whnf
    refine ⟨⟨a3,b3⟩,?_⟩;conv=>whnf
    have h0 : lZip a.cs b.cs = []:=by rw [List.length_eq_zero_iff.1 hi.symm]; rfl
    exact fin hk (congrArg (fun l=>SV.t [.a ({ lhE a b (zD a b) with cs:=l }).cells,.c (I64 0)]) h0)
   | succ i =>
    conv=>whnf
    refine Ask.i (fun c3=>?_) (fun c3=>?_)
    ·have k3 : (((i + 1 : Nat)) : Int) < ((a.cs.length : Nat) : Int):=of_decide_eq_true c3
     have hi : i + 1 < a.cs.length:=by omega
     have hj : i + 1 < b.cs.length:=by omega
     rw [drop_getD hi,drop_getD hj,lBadL] at p2
     conv=>whnf
     refine ⟨mixed,[],[],[],by kernel_rfl,?_⟩;conv=>whnf
     refine Ask.i (fun c4=>?_) (fun c4=>?_)
     ·have c4 : g = true:=c4
      subst c4
      conv=>whnf
      refine ⟨⟨by omega,by show (((i + 1 : Nat)) : Int) < ((b.cs.length : Nat) : Int); omega⟩,?_⟩;conv=>whnf
      refine ⟨⟨by omega,k3⟩,?_⟩;conv=>whnf
      refine ⟨mixed,[(16,[6])],[(1,[]),(3,[]),(5,[]),(6,[]),(8,[]),(10,[]),(11,[]),(14,[])],[200014],by kernel_rfl,?_⟩;conv=>whnf
      refine ⟨⟨by omega,k3⟩,?_⟩;conv=>whnf
      refine ⟨⟨by omega,by show (((i + 1 : Nat)) : Int) < ((b.cs.length : Nat) : Int); omega⟩,?_⟩;conv=>whnf
      have hln:=lZip_take_len (a:=a.cs) (b:=b.cs) (i + 1) a1
      refine ⟨by show (lZip (a.cs.take (i + 1)) (b.cs.take (i + 1))).length + 1 ≤ 137438953472; omega,?_⟩;conv=>whnf
      refine ⟨(i + 1 + 1,decide (b.cs.getD (i + 1) 0 ≤ a.cs.getD (i + 1) 0)),⟨hi,by rw [← p2,not_le]; rfl⟩,by show a.cs.length - (i + 1 + 1) < a.cs.length - (i + 1); omega,⟨rfl,rfl,rfl,rfl,rfl,rfl,?_,trivial⟩,⟨rfl,rfl,rfl,rfl,?_,trivial⟩⟩
      ·exact congrArg (fun z : Int=>some (SV.u (.c (I64 z)))) (w64_eq (n:=(((i + 1 : Nat)) : Int) + 1) (by omega))
      exact congrArg (fun l=>some (Blk.row 38 (.ints l))) (lZip_succ hi hj).symm
     have c4 : g = false:=c4
     subst c4
     conv=>whnf
     refine ⟨mixed,[(16,[6])],[(1,[]),(3,[]),(5,[]),(6,[]),(8,[]),(10,[]),(11,[]),(14,[])],[200014],by kernel_rfl,?_⟩;conv=>whnf
     refine ⟨⟨by omega,k3⟩,?_⟩;conv=>whnf
     refine ⟨⟨by omega,by show (((i + 1 : Nat)) : Int) < ((b.cs.length : Nat) : Int); omega⟩,?_⟩;conv=>whnf
     have hln:=lZip_take_len (a:=a.cs) (b:=b.cs) (i + 1) a1
     refine ⟨by show (lZip (a.cs.take (i + 1)) (b.cs.take (i + 1))).length + 1 ≤ 137438953472; omega,?_⟩;conv=>whnf
     refine ⟨(i + 1 + 1,false),⟨hi,by rw [← p2]; rfl⟩,by show a.cs.length - (i + 1 + 1) < a.cs.length - (i + 1); omega,⟨rfl,rfl,rfl,rfl,rfl,rfl,?_,trivial⟩,⟨rfl,rfl,rfl,rfl,?_,trivial⟩⟩
     ·exact congrArg (fun z : Int=>some (SV.u (.c (I64 z)))) (w64_eq (n:=(((i + 1 : Nat)) : Int) + 1) (by omega))
     exact congrArg (fun l=>some (Blk.row 38 (.ints l))) (lZip_succ hi hj).symm
    have k3 : ¬ (((i + 1 : Nat)) : Int) < ((a.cs.length : Nat) : Int):=of_decide_eq_false c3
    have hi : i + 1 = a.cs.length:=by omega
    rw [hi,List.drop_length,e1,List.drop_length,lBadL_nils] at p2
    conv=>whnf
    refine Ask.i (fun c5=>?_) (fun c5=>?_)
    ·have c5 : (!g) = true:=c5
     have hk:=hk true (by rw [← p2,c5])
     conv=>whnf
     exact hk
    have c5 : (!g) = false:=c5
    have hk:=hk false (by rw [← p2,c5])
    conv=>whnf
    refine ⟨⟨a3,b3⟩,?_⟩;conv=>whnf
    have h0 : lZip a.cs b.cs = lZip (a.cs.take (i + 1)) (b.cs.take (i + 1)):=by rw [hi,List.take_length,e1,List.take_length]
    exact fin hk (congrArg (fun l=>SV.t [.a ({ lhE a b (zD a b) with cs:=l }).cells,.c (I64 0)]) h0)
  exact hk.elim
 exact hk.elim
end Sx
namespace Sx
open Go Go.Proofs Go.RowKit
set_option maxRecDepth 30000
variable {G : Glob}
structure NumD where
 attrs : D
 start : Int
 time : Int
 kind : Int
 n : Int
 ex : D
 flags : Int
 unk : ByteArray
def NumD.cells (e : NumD) : List C:=[.d 30 e.attrs,U64 e.start,U64 e.time,I64 e.kind,U64 e.n,.d 32 e.ex,U32 e.flags,St e.unk]
def asNum : List C → Option NumD
 | [.d 30 attrs,.v (.int .u64 start),.v (.int .u64 time),.v (.int .i64 kind),.v (.int .u64 n),.d 32 ex,.v (.int .u32 flags),.v (.string unk)]=>some ⟨attrs,start,time,kind,n,ex,flags,unk⟩
 | _=>none
theorem asNum_eq {l : List C} {e : NumD} (h : asNum l = some e) : l = e.cells:=by
 unfold asNum at h
 split at h
 ·obtain rfl:=Option.some.inj h; rfl
 cases h
structure NumD.Typ (e : NumD) : Prop where
 attrs : Sx.Typ TB (.sl 30) e.attrs
 ex : Sx.Typ TB (.sl 32) e.ex
 rn : 0 ≤ e.n ∧ e.n < 18446744073709551616
structure NumD.Small (e : NumD) : Prop where
 attrs : Sx.Small e.attrs
 ex : Sx.Small e.ex
def rnS : List U → Out SV
 | [.a l,.c (.v (.int .i64 r))]=>match asNum l with
  | some e=>.need (e.Typ ∧ -1 ≤ r ∧ r ≤ 30000) (left (r - 20) e.Small)
  | none=>.fail
 | _=>.fail
theorem roomNum_ok : Ok G 32 rnS:=by
 have hS : AllSound (B [(58,.pure (normG (B []) [3,3] takeS)),(57,.pure (normG (B []) [30,3,3] (rkS 100))),(56,.pure (normG (B []) [32,3] reS))]) G:=.cons _ take_ok (.cons _ roomKeys_ok' (.cons _ roomExemplars_ok noneS))
 refine okP hS Tryz.func32 rfl (by decide) fun K us hk=>?_
 unfold rnS at hk
 split at hk
 ·rename_i l r
  split at hk
  ·rename_i e he
   rw [asNum_eq he]
   refine ⟨by show 2 ≤ _; decide,?_⟩
   obtain ⟨⟨hT,hr1,hr2⟩,hk⟩:=hk
   have hk : ∀ z : Int,(-1 ≤ z ∧ (0 ≤ z → z ≤ r - 20 ∧ e.Small)) → K (.u (.c (I64 z))):=hk
   have t1:=tk_spec (r:=r) (n:=(e.unk.size : Nat)) hr1 (Int.natCast_nonneg _)
   conv=>whnf
   refine ⟨mixed,[],[],[],by kernel_rfl,?_⟩;conv=>whnf
   refine ⟨⟨hr1,by omega,Int.natCast_nonneg _⟩,?_⟩;conv=>whnf
   refine ⟨⟨hT.attrs,by decide,by decide,by decide,t1.1,by show tk r (e.unk.size : Nat) ≤ 30000; omega⟩,?_⟩;conv=>whnf
   rintro z ⟨z1,z2⟩
   have z2 : 0 ≤ z → z ≤ tk r (e.unk.size : Nat) ∧ Small e.attrs:=z2;conv=>whnf
   refine ⟨⟨hT.ex,z1,?_⟩,?_⟩
   ·by_cases h0 : 0 ≤ z
    ·have:=z2 h0; omega
    omega
   conv=>whnf
   rintro v ⟨v1,v2⟩
   have v2 : 0 ≤ v → v ≤ z ∧ Small e.ex:=v2;conv=>whnf
   refine hk v ⟨v1,fun h0=>?_⟩
   obtain ⟨a1,a2⟩:=v2 h0
   obtain ⟨b1,b2⟩:=z2 (by omega)
   have q1:=t1.2.2 (by omega)
   exact ⟨by omega,b2,a2⟩
  exact hk.elim
 exact hk.elim
def NGood (k : Nat) (e : NumD) : Prop:=Typ TB (.sl 30) e.attrs ∧ Dp k e.attrs ∧ Typ TB (.sl 32) e.ex ∧ Dp k e.ex
def twNS (k : Nat) : List U → Out SV
 | [.a l]=>match asNum l with
  | some e=>.need (NGood k e) (agg e.cells)
  | none=>.fail
 | _=>.fail
theorem twNum_ok {k : Nat} : Ok G 62 (twNS k):=by
 have hS : AllSound (B [(97,.pure (normG (B []) [30] (keysS k))),(98,.pure (normG (B []) [32,176] (eachXS k)))]) G:=.cons _ (keys_all k) (.cons _ (eachX_ok k fun m _=>ex_ok) noneS)
 refine okP hS Tryz.func62 rfl (by decide) fun K us hk=>?_
 unfold twNS at hk
 split at hk
 ·rename_i l
  split at hk
  ·rename_i e he
   rw [asNum_eq he]
   refine ⟨by show 1 ≤ _; decide,?_⟩
   obtain ⟨⟨h1,h2,h3,h4⟩,hk⟩:=hk
   conv=>whnf
   refine ⟨mixed,[(7,[1]),(9,[1])],[(1,[]),(2,[]),(4,[]),(5,[])],[],by kernel_rfl,?_⟩;conv=>whnf
   refine ⟨⟨h1,h2⟩,?_⟩;conv=>whnf
   refine ⟨⟨h3,h4⟩,?_⟩;conv=>whnf
   exact hk
  exact hk.elim
 exact hk.elim
def noNum : NumD:=⟨.rows [],0,0,0,0,.rows [],0,nos⟩
def sumBad (x y : Int) : Bool:=decide (w64 (w64 x + w64 y) > w64 x) != decide (w64 y > 0)
def difBad (x y : Int) : Bool:=decide (w64 (w64 x - w64 y) < w64 x) != decide (w64 y > 0)
end Sx
namespace Sx
open Go Go.Proofs
set_option maxRecDepth 30000
variable {G : Glob}
def InB (f : Int) (l : List Int) : Prop:=-2147483648 ≤ f ∧ f < 2147483648 ∧ l.length ≤ 3750
def InS (b : Int) : Prop:=0 ≤ b ∧ b ≤ 31
def sideRT : List U → Out SV
 | [.c (.v (.bool h)),.a [.v (.int .i32 f),.d 38 (.ints l),.v (.string s)]]=>agg [I32 (bif h then f else 0),.d 38 (.ints (bif h then l else [])),St (bif h then s else nos)]
 | _=>.fail
theorem sideR_ex : Ok G 125 sideRT:=by
 refine okP noneS Tryz.func125 rfl (by decide) fun K us hk=>?_
 unfold sideRT at hk
 split at hk
 ·rename_i h f l s
  refine ⟨by show 2 ≤ _; decide,?_⟩;conv=>whnf
  refine Ask.i (fun c=>?_) (fun c=>?_)
  ·have c : (!h) = true:=c
   obtain rfl : h = false:=by simpa using c
   conv=>whnf
   exact hk
  have c : (!h) = false:=c
  obtain rfl : h = true:=by simpa using c
  conv=>whnf
  exact hk
 exact hk.elim
def atX (f b : Int) (i : Nat) : Int:=(w64 (w64 f + (i : Int))).fdiv (2 ^ min (x64 b).toNat IntKind.i64.bits)
theorem atX_eq {f b : Int} {i : Nat} (hf : -2147483648 ≤ f ∧ f < 2147483648) (hi : i ≤ 3750) (hb : InS b) : atX f b i = shr (f + i) b.toNat:=by
 obtain ⟨h1,h2⟩:=hb
 have e : x64 b = b:=x64_eq (by omega)
 have m : min b.toNat IntKind.i64.bits = b.toNat:=by simp only [IntKind.bits]; omega
 unfold atX shr
 rw [e,m,w64_eq (n:=f) (by omega),w64_eq (by omega)]
def endsGo (f : Int) (n : Nat) : Nat → List Int → Int × Int × Bool → Int × Int × Bool
 | _,[],s=>s
 | i,x :: l,s=>endsGo f n (i + 1) l (if x = 0 then s else (bif s.2.2 then s.1 else shr (f + i) n,shr (f + i) n,true))
def endsT : List U → Out SV
 | [.a [.v (.int .i32 f),.d 38 (.ints l),.v (.string s)],.c (.v (.int .i64 b))]=>.need (InB f l ∧ InS b) (.ret (.t [.c (I64 (endsGo f b.toNat 0 l (0,0,false)).1),.c (I64 (endsGo f b.toNat 0 l (0,0,false)).2.1),.c (Bo (endsGo f b.toNat 0 l (0,0,false)).2.2)]))
 | _=>.fail
theorem ends_ex : Ok G 183 endsT:=by
 refine okP noneS Tryz.func183 rfl (by decide) fun K us hk=>?_
 unfold endsT at hk
 split at hk
 ·rename_i f l s b
  refine ⟨by show 2 ≤ _; decide,?_⟩
  obtain ⟨⟨⟨f1,f2,f3⟩,hb⟩,hk⟩:=hk
  generalize hv : endsGo f b.toNat 0 l (0,0,false) = v at hk
  conv=>whnf
  refine ⟨[],_,_,rfl,Nat × Int × Int × Bool,(fun y=>([(1,.u (.c (I64 b))),(2,.u (.c (.p 2 0))),(7,.u (.c (I64 y.2.1))),(8,.u (.c (I64 y.2.2.1))),(9,.u (.c (Bo y.2.2.2))),(10,.u (.c (I64 (y.1 : Nat))))],
    [(2,.cells 42 [I32 f,.d 38 (.ints l),St s])])),
   (fun y=>y.1 ≤ l.length ∧ endsGo f b.toNat y.1 (l.drop y.1) y.2 = v),(fun y=>l.length - y.1),fun x _=>rfl,
   ⟨(0,0,0,false),⟨Nat.zero_le _,hv⟩,⟨rfl,rfl,rfl,rfl,rfl,rfl,trivial⟩,⟨rfl,trivial⟩⟩,?_⟩
  rintro ⟨i,lo,hi,g⟩ ⟨p1,p2⟩
  simp only at p1 p2
  conv=>whnf
  refine Ask.i (fun c1=>?_) (fun c1=>?_)
  ·have k1 : (i : Int) < ((l.length : Nat) : Int):=of_decide_eq_true c1
   have hil : i < l.length:=by omega
   have hx : l.drop i = l.getD i 0 :: l.drop (i + 1):=by
    rw [List.drop_eq_getElem_cons hil,List.getD_eq_getElem?_getD,List.getElem?_eq_getElem hil]; rfl
   have hnx : some (SV.u (.c (I64 (w64 ((i : Int) + 1))))) = some (SV.u (.c (I64 ((i + 1 : Nat) : Int)))):=congrArg (fun z : Int=>some (SV.u (.c (I64 z)))) (w64_eq (n:=(i : Int) + 1) (by omega))
   rw [hx,endsGo] at p2
   conv=>whnf
   refine ⟨⟨by omega,k1⟩,?_⟩;conv=>whnf
   refine Ask.i (fun c2=>?_) (fun c2=>?_)
   ·have k2 : l.getD i 0 = 0:=eq_of_beq c2
    rw [if_pos k2] at p2
    conv=>whnf
    exact ⟨(i + 1,lo,hi,g),⟨hil,p2⟩,by show l.length - (i + 1) < l.length - i; omega,⟨rfl,rfl,rfl,rfl,rfl,hnx,trivial⟩,⟨rfl,trivial⟩⟩
   have k2 : ¬ l.getD i 0 = 0:=ne_of_beq_false c2
   rw [if_neg k2,← atX_eq ⟨f1,f2⟩ (by omega) hb] at p2
   conv=>whnf
   refine ⟨(x64_r _).1,?_⟩;conv=>whnf
   refine Ask.i (fun c3=>?_) (fun c3=>?_)
   ·have k3 : (!g) = true:=c3
    obtain rfl : g = false:=by simpa using k3
    conv=>whnf
    exact ⟨(i + 1,atX f b i,atX f b i,true),⟨hil,p2⟩,by show l.length - (i + 1) < l.length - i; omega,⟨rfl,rfl,rfl,rfl,rfl,hnx,trivial⟩,⟨rfl,trivial⟩⟩
   have k3 : (!g) = false:=c3
   obtain rfl : g = true:=by simpa using k3
   conv=>whnf
   exact ⟨(i + 1,lo,atX f b i,true),⟨hil,p2⟩,by show l.length - (i + 1) < l.length - i; omega,⟨rfl,rfl,rfl,rfl,rfl,hnx,trivial⟩,⟨rfl,trivial⟩⟩
  have k1 : ¬ (i : Int) < ((l.length : Nat) : Int):=of_decide_eq_false c1
  have hil : i = l.length:=by omega
  rw [hil,List.drop_length,endsGo] at p2
  subst p2
  conv=>whnf
  exact hk
 exact hk.elim
def wideR (u v : Int × Int × Bool) : Int:=bif u.2.2 then (bif v.2.2 then w64 (w64 ((if v.2.1 > u.2.1 then v.2.1 else u.2.1) - (if v.1 < u.1 then v.1 else u.1)) + 1) else w64 (w64 (u.2.1 - u.1) + 1)) else (bif v.2.2 then w64 (w64 (v.2.1 - v.1) + 1) else 0)
def wideT : List U → Out SV
 | [.a [.v (.int .i32 f),.d 38 (.ints l),.v (.string s)],.a [.v (.int .i32 f'),.d 38 (.ints l'),.v (.string s')],.c (.v (.int .i64 x)),.c (.v (.int .i64 y))] =>
  .need ((InB f l ∧ InS x) ∧ InB f' l' ∧ InS y) (one (I64 (wideR (endsGo f x.toNat 0 l (0,0,false)) (endsGo f' y.toNat 0 l' (0,0,false)))))
 | _=>.fail
theorem wideR_ex : Ok G 160 wideT:=by
 have hS : AllSound (B [(183,.pure (normG (B []) [42,3] endsT))]) G:=.cons _ ends_ex noneS
 refine okP hS Tryz.func160 rfl (by decide) fun K us hk=>?_
 unfold wideT at hk
 split at hk
 ·rename_i f l s f' l' s' x y
  refine ⟨by show 4 ≤ _; decide,?_⟩
  obtain ⟨⟨h1,h2⟩,hk⟩:=hk
  conv=>whnf
  refine ⟨h1,?_⟩;conv=>whnf
  refine ⟨h2,?_⟩
  generalize endsGo f x.toNat 0 l (0,0,false) = u at *
  generalize endsGo f' y.toNat 0 l' (0,0,false) = v at *
  obtain ⟨u1,u2,u3⟩:=u
  obtain ⟨v1,v2,v3⟩:=v
  conv=>whnf
  cases u3 with
  | true =>
   cases v3 with
   | true =>
    conv=>whnf
    exact hk
   | false =>
    conv=>whnf
    exact hk
  | false =>
   cases v3 with
   | true =>
    conv=>whnf
    exact hk
   | false =>
    conv=>whnf
    exact hk
 exact hk.elim
end Sx
namespace Sx
open Go Go.Proofs
set_option maxRecDepth 30000
variable {G : Glob}
abbrev Pl:=Int × Int
def rowP (p : Pl) : List D:=[.int p.1,.int p.2]
def rowsP (l : List Pl) : List (List D):=l.map rowP
theorem rowsP_getD {l : List Pl} {j : Nat} (h : j < l.length) : (rowsP l).getD j [] = rowP (l.getD j (0,0)):=by
 unfold rowsP
 rw [List.getD_eq_getElem?_getD,List.getD_eq_getElem?_getD,List.getElem?_map,List.getElem?_eq_getElem h]; rfl
theorem rowsP_app (l : List Pl) (p : Pl) : rowsP l ++ [rowP p] = rowsP (l ++ [p]):=by unfold rowsP; rw [List.map_append]; rfl
theorem rowsP_set (l : List Pl) (j : Nat) (p : Pl) : (rowsP l).set j (rowP p) = rowsP (l.set j p):=by unfold rowsP; rw [List.map_set]
theorem rowsP_len (l : List Pl) : (rowsP l).length = l.length:=List.length_map _
def plGo (f : Int) (n : Nat) : Nat → List Int → List Pl → Option (List Pl)
 | _,[],acc=>some acc
 | i,x :: l,acc=>if x = 0 then plGo f n (i + 1) l acc else
  if acc ≠ [] ∧ (acc.getD (acc.length - 1) (0,0)).1 = shr (f + i) n then
   (if x64 ((acc.getD (acc.length - 1) (0,0)).2 + x) ≥ (acc.getD (acc.length - 1) (0,0)).2 then plGo f n (i + 1) l (acc.set (acc.length - 1) (shr (f + i) n,x64 ((acc.getD (acc.length - 1) (0,0)).2 + x))) else none)
  else plGo f n (i + 1) l (acc ++ [(shr (f + i) n,x)])
def plOut (o : Option (List Pl)) : Out SV:=match o with
 | some L=>.ret (.t [.c (.d 244 (.rows (rowsP L))),.c (Bo true)])
 | none=>.ret (.t [.c (.d 244 (.rows [])),.c (Bo false)])
def placesT : List U → Out SV
 | [.a [.v (.int .i32 f),.d 38 (.ints l),.v (.string s)],.c (.v (.int .i64 b))]=>.need (InB f l ∧ InS b) (.all (Option (List Pl)) (fun o=>plGo f b.toNat 0 l [] = o) ⟨_,rfl⟩ plOut)
 | _=>.fail
theorem places_ex : Ok G 161 placesT:=by
 have hS : AllSound (B [(126,.pure (normG (B []) [31,31] rsumT))]) G:=.cons _ rsum_ex noneS
 refine okP hS Tryz.func161 rfl (by decide) fun K us hk=>?_
 unfold placesT at hk
 split at hk
 ·rename_i f l s b
  refine ⟨by show 2 ≤ _; decide,?_⟩
  obtain ⟨⟨⟨f1,f2,f3⟩,hb⟩,hk⟩:=hk
  have hk:=hk _ rfl
  generalize hv : plGo f b.toNat 0 l [] = v at hk
  conv=>whnf
  refine ⟨[(6,77,244)],_,_,rfl,Nat × List Pl,(fun y=>([(1,.u (.c (I64 b))),(2,.u (.c (.p 2 0))),(6,.u (.c (.r 77 244))),(7,.u (.c (I64 (y.1 : Nat))))],
    [(2,.cells 42 [I32 f,.d 38 (.ints l),St s]),(77,.row 244 (.rows (rowsP y.2)))])),
   (fun y=>y.1 ≤ l.length ∧ y.2.length ≤ y.1 ∧ plGo f b.toNat y.1 (l.drop y.1) y.2 = v),(fun y=>l.length - y.1),fun x _=>rfl,
   ⟨(0,[]),⟨Nat.zero_le _,Nat.le_refl _,hv⟩,⟨rfl,rfl,rfl,rfl,trivial⟩,⟨rfl,rfl,trivial⟩⟩,?_⟩
  rintro ⟨i,acc⟩ ⟨p1,p3,p2⟩
  simp only at p1 p2 p3
  conv=>whnf
  refine Ask.i (fun c1=>?_) (fun c1=>?_)
  ·have k1 : (i : Int) < ((l.length : Nat) : Int):=of_decide_eq_true c1
   have hil : i < l.length:=by omega
   have hx : l.drop i = l.getD i 0 :: l.drop (i + 1):=by
    rw [List.drop_eq_getElem_cons hil,List.getD_eq_getElem?_getD,List.getElem?_eq_getElem hil]; rfl
   have hnx : some (SV.u (.c (I64 (w64 ((i : Int) + 1))))) = some (SV.u (.c (I64 ((i + 1 : Nat) : Int)))):=congrArg (fun z : Int=>some (SV.u (.c (I64 z)))) (w64_eq (n:=(i : Int) + 1) (by omega))
   rw [hx,plGo] at p2
   conv=>whnf
   refine ⟨⟨by omega,k1⟩,?_⟩;conv=>whnf
   refine Ask.i (fun c2=>?_) (fun c2=>?_)
   ·have k2 : l.getD i 0 = 0:=eq_of_beq c2
    rw [if_pos k2] at p2
    conv=>whnf
    exact ⟨(i + 1,acc),⟨hil,by show acc.length ≤ i + 1; omega,p2⟩,by show l.length - (i + 1) < l.length - i; omega,⟨rfl,rfl,rfl,hnx,trivial⟩,⟨rfl,rfl,trivial⟩⟩
   have k2 : ¬ l.getD i 0 = 0:=ne_of_beq_false c2
   rw [if_neg k2,← atX_eq ⟨f1,f2⟩ (by omega) hb] at p2
   conv=>whnf
   refine ⟨(x64_r _).1,?_⟩;conv=>whnf
   have hwl : w64 (((rowsP acc).length : Nat) - 1) = ((acc.length : Nat) : Int) - 1:=by rw [rowsP_len,w64_eq (by omega)]
   refine Ask.i (fun c3=>?_) (fun c3=>?_)
   ·have k3 : w64 (((rowsP acc).length : Nat) - 1) ≥ 0:=of_decide_eq_true c3
    conv=>whnf
    have hne : 0 < acc.length:=by rw [hwl] at k3; omega
    have hlt : w64 (((rowsP acc).length : Nat) - 1) < ((rowsP acc).length : Nat):=by rw [hwl,rowsP_len]; omega
    refine ⟨⟨k3,hlt⟩,?_⟩;conv=>whnf
    refine Ask.i (fun c4=>?_) (fun c4=>?_)
    ·conv=>whnf
     refine ⟨mixed,[],[],[],by kernel_rfl,?_⟩;conv=>whnf
     refine ⟨⟨k3,hlt⟩,?_⟩;conv=>whnf
     refine ⟨⟨by omega,k1⟩,?_⟩;conv=>whnf
     have hj : (w64 (((rowsP acc).length : Nat) - 1)).toNat = acc.length - 1:=by rw [hwl]; omega
     have hr : (rowsP acc).getD (w64 (((rowsP acc).length : Nat) - 1)).toNat [] = rowP (acc.getD (acc.length - 1) (0,0)):=by rw [hj]; exact rowsP_getD (by omega)
     have k4 : (cellD ((rowsP acc).getD (w64 (((rowsP acc).length : Nat) - 1)).toNat []) 0).toInt = atX f b i:=eq_of_beq c4
     rw [hr] at k4
     have k4 : (acc.getD (acc.length - 1) (0,0)).1 = atX f b i:=k4
     rw [if_pos ⟨by rintro rfl; simp at hne,k4⟩] at p2
     refine Ask.i (fun c5=>?_) (fun c5=>?_)
     ·have k5 : (!decide (x64 ((cellD ((rowsP acc).getD (w64 (((rowsP acc).length : Nat) - 1)).toNat []) 1).toInt + l.getD i 0) ≥ (cellD ((rowsP acc).getD (w64 (((rowsP acc).length : Nat) - 1)).toNat []) 1).toInt)) = true:=c5
      rw [hr] at k5
      have k5 : (!decide (x64 ((acc.getD (acc.length - 1) (0,0)).2 + l.getD i 0) ≥ (acc.getD (acc.length - 1) (0,0)).2)) = true:=k5
      rw [if_neg (by simpa using k5)] at p2
      subst p2
      conv=>whnf
      exact hk
     have k5 : (!decide (x64 ((cellD ((rowsP acc).getD (w64 (((rowsP acc).length : Nat) - 1)).toNat []) 1).toInt + l.getD i 0) ≥ (cellD ((rowsP acc).getD (w64 (((rowsP acc).length : Nat) - 1)).toNat []) 1).toInt)) = false:=c5
     rw [hr] at k5
     have k5 : (!decide (x64 ((acc.getD (acc.length - 1) (0,0)).2 + l.getD i 0) ≥ (acc.getD (acc.length - 1) (0,0)).2)) = false:=k5
     rw [if_pos (by simpa using k5)] at p2
     conv=>whnf
     refine ⟨⟨k3,hlt⟩,?_⟩;conv=>whnf
     refine ⟨(i + 1,_),⟨hil,by show (acc.set _ _).length ≤ i + 1; rw [List.length_set]; omega,p2⟩,by show l.length - (i + 1) < l.length - i; omega,⟨rfl,rfl,rfl,hnx,trivial⟩,⟨rfl,?_,trivial⟩⟩
     show some (Blk.row 244 (.rows ((rowsP acc).set (w64 (((rowsP acc).length : Nat) - 1)).toNat ((((rowsP acc).getD (w64 (((rowsP acc).length : Nat) - 1)).toNat []).take 1 ++ [.int (x64 ((cellD ((rowsP acc).getD (w64 (((rowsP acc).length : Nat) - 1)).toNat []) 1).toInt + l.getD i 0))]) ++ ((rowsP acc).getD (w64 (((rowsP acc).length : Nat) - 1)).toNat []).drop 2)))) = _
     rw [hr,hj]
     refine congrArg (fun z=>some (Blk.row 244 (.rows z))) ((?_ : _ = (rowsP acc).set (acc.length - 1) (rowP (atX f b i,x64 ((acc.getD (acc.length - 1) (0,0)).2 + l.getD i 0)))).trans (rowsP_set ..))
     rw [← k4]; rfl
    have hj : (w64 (((rowsP acc).length : Nat) - 1)).toNat = acc.length - 1:=by rw [hwl]; omega
    have hr : (rowsP acc).getD (w64 (((rowsP acc).length : Nat) - 1)).toNat [] = rowP (acc.getD (acc.length - 1) (0,0)):=by rw [hj]; exact rowsP_getD (by omega)
    have k4 : ¬ (cellD ((rowsP acc).getD (w64 (((rowsP acc).length : Nat) - 1)).toNat []) 0).toInt = atX f b i:=ne_of_beq_false c4
    rw [hr] at k4
    have k4 : ¬ (acc.getD (acc.length - 1) (0,0)).1 = atX f b i:=k4
    rw [if_neg (fun h=>k4 h.2)] at p2
    conv=>whnf
    refine ⟨⟨by omega,k1⟩,?_⟩;conv=>whnf
    refine ⟨by show (rowsP acc).length + 1 ≤ 137438953472; rw [rowsP_len]; omega,?_⟩;conv=>whnf
    refine ⟨(i + 1,_),⟨hil,by show (acc ++ [_]).length ≤ i + 1; simp; omega,p2⟩,by show l.length - (i + 1) < l.length - i; omega,⟨rfl,rfl,rfl,hnx,trivial⟩,⟨rfl,?_,trivial⟩⟩
    exact congrArg (fun z=>some (Blk.row 244 (.rows z))) (rowsP_app acc (atX f b i,l.getD i 0))
   have k3 : ¬ w64 (((rowsP acc).length : Nat) - 1) ≥ 0:=of_decide_eq_false c3
   have h0 : acc = []:=List.length_eq_zero_iff.1 (by rw [hwl] at k3; omega)
   rw [if_neg (fun h=>h.1 h0)] at p2
   conv=>whnf
   refine ⟨⟨by omega,k1⟩,?_⟩;conv=>whnf
   refine ⟨by show (rowsP acc).length + 1 ≤ 137438953472; rw [rowsP_len]; omega,?_⟩;conv=>whnf
   refine ⟨(i + 1,_),⟨hil,by show (acc ++ [_]).length ≤ i + 1; simp; omega,p2⟩,by show l.length - (i + 1) < l.length - i; omega,⟨rfl,rfl,rfl,hnx,trivial⟩,⟨rfl,?_,trivial⟩⟩
   exact congrArg (fun z=>some (Blk.row 244 (.rows z))) (rowsP_app acc (atX f b i,l.getD i 0))
  have k1 : ¬ (i : Int) < ((l.length : Nat) : Int):=of_decide_eq_false c1
  have hil : i = l.length:=by omega
  rw [hil,List.drop_length,plGo] at p2
  subst p2
  conv=>whnf
  exact hk
 exact hk.elim
end Sx
