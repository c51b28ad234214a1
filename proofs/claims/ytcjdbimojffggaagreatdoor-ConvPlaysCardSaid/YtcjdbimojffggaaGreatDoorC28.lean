/- Part of the proof: a machine of states for walks, and contracts of functions over it. Conditions: those that each theorem names. -/
import Derived.Test.YtcjdbimojffggaaGreatDoorC27
import Derived.Test.YtcjdbimojffggaaGreatDoorC25
set_option linter.unusedVariables false
set_option linter.unusedSimpArgs false
namespace Sx
open Go Go.Proofs
set_option maxRecDepth 30000
variable {G : Glob}
def unR (r : List D) : Pl:=((cellD r 0).toInt,(cellD r 1).toInt)
def unP (R : List (List D)) : List Pl:=R.map unR
theorem unP_rowsP (l : List Pl) : unP (rowsP l) = l:=by
 unfold unP rowsP
 rw [List.map_map]
 exact List.map_id' l |> fun h=>(List.map_congr_left (fun p _=>rfl)).trans h
theorem unP_len (R : List (List D)) : (unP R).length = R.length:=List.length_map _
theorem unP_drop {R : List (List D)} {i : Nat} (h : i < R.length) : (unP R).drop i = unR (R.getD i []) :: (unP R).drop (i + 1):=by
 rw [List.drop_eq_getElem_cons (by rw [unP_len]; exact h)]
 congr 1
 unfold unP
 rw [List.getElem_map,List.getD_eq_getElem?_getD,List.getElem?_eq_getElem h]; rfl
def bothGo : Nat → List Pl → List Pl → List Pl → Option (List Pl)
 | 0,_,_,acc=>some acc
 | k + 1,a,b,acc=>match a,b with
  | [],[]=>some acc
  | x :: a,[]=>bothGo k a [] (acc ++ [x])
  | [],y :: b=>bothGo k [] b (acc ++ [y])
  | x :: a,y :: b=>if x.1 < y.1 then bothGo k a (y :: b) (acc ++ [x]) else if y.1 < x.1 then bothGo k (x :: a) b (acc ++ [y]) else if x64 (x.2 + y.2) ≥ x.2 then bothGo k a b (acc ++ [(x.1,x64 (x.2 + y.2))]) else none
theorem bothGo_nil : ∀ (k : Nat) (acc : List Pl),bothGo k [] [] acc = some acc
 | 0,_=>rfl
 | _ + 1,_=>rfl
inductive W3 where | a | b | c
def W3.n : W3 → Nat | .a=>81 | .b=>108 | .c=>46
def bothT2 : List U → Out SV
 | [.c (.d 244 (.rows A)),.c (.d 244 (.rows B))]=>.need (A.length ≤ 3750 ∧ B.length ≤ 3750) (.all (Option (List Pl)) (fun o=>bothGo (A.length + B.length) (unP A) (unP B) [] = o) ⟨_,rfl⟩ plOut)
 | _=>.fail
set_option maxHeartbeats 2000000 in
theorem bothR_ex : Ok G 162 bothT2:=by
 have hS : AllSound (B [(126,.pure (normG (B []) [31,31] rsumT))]) G:=.cons _ rsum_ex noneS
 refine okP hS Tryz.func162 rfl (by decide) fun K us hk=>?_
 unfold bothT2 at hk
 split at hk
 ·rename_i A B
  refine ⟨by show 2 ≤ _; decide,?_⟩
  obtain ⟨⟨lA,lB⟩,hk⟩:=hk
  have hk:=hk _ rfl
  generalize hv : bothGo (A.length + B.length) (unP A) (unP B) [] = v at hk
  conv=>whnf
  refine ⟨[(6,81,244)],_,_,rfl,W3 × Nat × Nat × Nat × List Pl,(fun y=>([(0,.u (.c (.d 244 (.rows A)))),(1,.u (.c (.d 244 (.rows B)))),(6,.u (.c (.r y.1.n 244))),(7,.u (.c (I64 (y.2.2.1 : Nat)))),(8,.u (.c (I64 (y.2.2.2.1 : Nat))))],
    [(y.1.n,.row 244 (.rows (rowsP y.2.2.2.2)))])),
   (fun y=>y.2.2.1 ≤ A.length ∧ y.2.2.2.1 ≤ B.length ∧ (y.2.2.2.2.length ≤ y.2.2.1 + y.2.2.2.1 ∧ (A.length - y.2.2.1) + (B.length - y.2.2.2.1) ≤ y.2.1) ∧ bothGo y.2.1 ((unP A).drop y.2.2.1) ((unP B).drop y.2.2.2.1) y.2.2.2.2 = v),(fun y=>(A.length - y.2.2.1) + (B.length - y.2.2.2.1)),fun x _=>(by obtain ⟨w,_⟩:=x; cases w <;> rfl),
   ⟨(.a,A.length + B.length,0,0,[]),⟨Nat.zero_le _,Nat.zero_le _,⟨Nat.le_refl _,Nat.le_refl _⟩,hv⟩,⟨rfl,rfl,rfl,rfl,rfl,trivial⟩,⟨rfl,trivial⟩⟩,?_⟩
  rintro ⟨w,k,i,j,acc⟩ ⟨p1,p2,⟨p3,p5⟩,p4⟩
  simp only at p1 p2 p3 p4 p5
  cases w
  all_goals
   have nxi : some (SV.u (.c (I64 (w64 ((i : Int) + 1))))) = some (SV.u (.c (I64 ((i + 1 : Nat) : Int)))):=congrArg (fun z : Int=>some (SV.u (.c (I64 z)))) (w64_eq (n:=(i : Int) + 1) (by omega))
   have nxj : some (SV.u (.c (I64 (w64 ((j : Int) + 1))))) = some (SV.u (.c (I64 ((j + 1 : Nat) : Int)))):=congrArg (fun z : Int=>some (SV.u (.c (I64 z)))) (w64_eq (n:=(j : Int) + 1) (by omega))
   by_cases hi : i < A.length
   ·by_cases hj : j < B.length
    ·obtain ⟨k,rfl⟩ : ∃ z,k = z + 1:=⟨k - 1,by omega⟩
     rw [unP_drop hi,unP_drop hj,bothGo] at p4
     conv=>whnf
     refine Ask.i (fun c0=>?_) (fun c0=>?_)
     ·have c0 : (i : Int) < ((A.length : Nat) : Int):=of_decide_eq_true c0
      conv=>whnf
      refine ⟨mixed,[],[],[],by kernel_rfl,?_⟩;conv=>whnf
      refine Ask.i (fun c2=>?_) (fun c2=>?_)
      ·have c2 : (j : Int) = ((B.length : Nat) : Int):=eq_of_beq c2
       exfalso; omega
      have c2 : ¬ ((j : Int) = ((B.length : Nat) : Int)):=ne_of_beq_false c2
      conv=>whnf
      refine Ask.i (fun c3=>?_) (fun c3=>?_)
      ·have c3 : (i : Int) < ((A.length : Nat) : Int):=of_decide_eq_true c3
       conv=>whnf
       refine ⟨⟨by omega,by show (i : Int) < ((A.length : Nat) : Int); omega⟩,?_⟩;conv=>whnf
       refine ⟨⟨by omega,by show (j : Int) < ((B.length : Nat) : Int); omega⟩,?_⟩;conv=>whnf
       refine Ask.i (fun c4=>?_) (fun c4=>?_)
       ·have c4 : (cellD (A.getD i []) 0).toInt < (cellD (B.getD j []) 0).toInt:=of_decide_eq_true c4
        rw [if_pos (show (unR (A.getD i [])).1 < (unR (B.getD j [])).1 from c4)] at p4
        conv=>whnf
        refine ⟨⟨by omega,by show (i : Int) < ((A.length : Nat) : Int); omega⟩,?_⟩;conv=>whnf
        refine ⟨by show (rowsP acc).length + 1 ≤ 137438953472; rw [rowsP_len]; omega,?_⟩;conv=>whnf
        refine ⟨(.a,k,i + 1,j,acc ++ [unR (A.getD i [])]),⟨by show i + 1 ≤ A.length; omega,by show j ≤ B.length; omega,⟨by show (acc ++ [_]).length ≤ i + 1 + j; rw [List.length_append]; show acc.length + 1 ≤ _; omega,by show (A.length - (i + 1)) + (B.length - (j)) ≤ k; omega⟩,?_⟩,by show (A.length - (i + 1)) + (B.length - (j)) < (A.length - i) + (B.length - j); omega,⟨rfl,rfl,rfl,nxi,rfl,trivial⟩,⟨?_,trivial⟩⟩
        ·show bothGo k ((unP A).drop (i + 1)) ((unP B).drop (j)) _ = v
         rw [unP_drop hj]
         exact p4
        exact congrArg (fun z=>some (Blk.row 244 (.rows z))) (rowsP_app acc (unR (A.getD i [])))
       have c4 : ¬ ((cellD (A.getD i []) 0).toInt < (cellD (B.getD j []) 0).toInt):=of_decide_eq_false c4
       rw [if_neg (show ¬ (unR (A.getD i [])).1 < (unR (B.getD j [])).1 from c4)] at p4
       conv=>whnf
       refine ⟨mixed,[],[],[],by kernel_rfl,?_⟩;conv=>whnf
       refine Ask.i (fun c5=>?_) (fun c5=>?_)
       ·have c5 : (i : Int) = ((A.length : Nat) : Int):=eq_of_beq c5
        exfalso; omega
       have c5 : ¬ ((i : Int) = ((A.length : Nat) : Int)):=ne_of_beq_false c5
       conv=>whnf
       refine ⟨⟨by omega,by show (j : Int) < ((B.length : Nat) : Int); omega⟩,?_⟩;conv=>whnf
       refine ⟨⟨by omega,by show (i : Int) < ((A.length : Nat) : Int); omega⟩,?_⟩;conv=>whnf
       refine Ask.i (fun c6=>?_) (fun c6=>?_)
       ·have c6 : (cellD (B.getD j []) 0).toInt < (cellD (A.getD i []) 0).toInt:=of_decide_eq_true c6
        rw [if_pos (show (unR (B.getD j [])).1 < (unR (A.getD i [])).1 from c6)] at p4
        conv=>whnf
        refine ⟨⟨by omega,by show (j : Int) < ((B.length : Nat) : Int); omega⟩,?_⟩;conv=>whnf
        refine ⟨by show (rowsP acc).length + 1 ≤ 137438953472; rw [rowsP_len]; omega,?_⟩;conv=>whnf
        refine ⟨(.b,k,i,j + 1,acc ++ [unR (B.getD j [])]),⟨by show i ≤ A.length; omega,by show j + 1 ≤ B.length; omega,⟨by show (acc ++ [_]).length ≤ i + j + 1; rw [List.length_append]; show acc.length + 1 ≤ _; omega,by show (A.length - (i)) + (B.length - (j + 1)) ≤ k; omega⟩,?_⟩,by show (A.length - (i)) + (B.length - (j + 1)) < (A.length - i) + (B.length - j); omega,⟨rfl,rfl,rfl,rfl,nxj,trivial⟩,⟨?_,trivial⟩⟩
        ·show bothGo k ((unP A).drop (i)) ((unP B).drop (j + 1)) _ = v
         rw [unP_drop hi]
         exact p4
        exact congrArg (fun z=>some (Blk.row 244 (.rows z))) (rowsP_app acc (unR (B.getD j [])))
       have c6 : ¬ ((cellD (B.getD j []) 0).toInt < (cellD (A.getD i []) 0).toInt):=of_decide_eq_false c6
       rw [if_neg (show ¬ (unR (B.getD j [])).1 < (unR (A.getD i [])).1 from c6)] at p4
       conv=>whnf
       refine ⟨mixed,[],[],[],by kernel_rfl,?_⟩;conv=>whnf
       refine ⟨⟨by omega,by show (i : Int) < ((A.length : Nat) : Int); omega⟩,?_⟩;conv=>whnf
       refine ⟨⟨by omega,by show (j : Int) < ((B.length : Nat) : Int); omega⟩,?_⟩;conv=>whnf
       refine Ask.i (fun c7=>?_) (fun c7=>?_)
       ·have c7 : (!decide (x64 ((unR (A.getD i [])).2 + (unR (B.getD j [])).2) ≥ (unR (A.getD i [])).2)) = true:=c7
        rw [if_neg (by simpa using c7)] at p4
        subst p4
        conv=>whnf
        exact hk
       have c7 : (!decide (x64 ((unR (A.getD i [])).2 + (unR (B.getD j [])).2) ≥ (unR (A.getD i [])).2)) = false:=c7
       rw [if_pos (by simpa using c7)] at p4
       conv=>whnf
       refine ⟨⟨by omega,by show (i : Int) < ((A.length : Nat) : Int); omega⟩,?_⟩;conv=>whnf
       refine ⟨by show (rowsP acc).length + 1 ≤ 137438953472; rw [rowsP_len]; omega,?_⟩;conv=>whnf
       refine ⟨(.c,k,i + 1,j + 1,acc ++ [((unR (A.getD i [])).1,x64 ((unR (A.getD i [])).2 + (unR (B.getD j [])).2))]),⟨by show i + 1 ≤ A.length; omega,by show j + 1 ≤ B.length; omega,⟨by show (acc ++ [_]).length ≤ i + 1 + j + 1; rw [List.length_append]; show acc.length + 1 ≤ _; omega,by show (A.length - (i + 1)) + (B.length - (j + 1)) ≤ k; omega⟩,?_⟩,by show (A.length - (i + 1)) + (B.length - (j + 1)) < (A.length - i) + (B.length - j); omega,⟨rfl,rfl,rfl,nxi,nxj,trivial⟩,⟨?_,trivial⟩⟩
       ·show bothGo k ((unP A).drop (i + 1)) ((unP B).drop (j + 1)) _ = v
        exact p4
       exact congrArg (fun z=>some (Blk.row 244 (.rows z))) (rowsP_app acc (((unR (A.getD i [])).1,x64 ((unR (A.getD i [])).2 + (unR (B.getD j [])).2))))
      have c3 : ¬ ((i : Int) < ((A.length : Nat) : Int)):=of_decide_eq_false c3
      exfalso; omega
     have c0 : ¬ ((i : Int) < ((A.length : Nat) : Int)):=of_decide_eq_false c0
     exfalso; omega
    have hB0 : (unP B).drop j = []:=List.drop_eq_nil_of_le (by rw [unP_len]; omega)
    obtain ⟨k,rfl⟩ : ∃ z,k = z + 1:=⟨k - 1,by omega⟩
    rw [unP_drop hi,hB0,bothGo] at p4
    conv=>whnf
    refine Ask.i (fun c0=>?_) (fun c0=>?_)
    ·have c0 : (i : Int) < ((A.length : Nat) : Int):=of_decide_eq_true c0
     conv=>whnf
     refine ⟨mixed,[],[],[],by kernel_rfl,?_⟩;conv=>whnf
     refine Ask.i (fun c2=>?_) (fun c2=>?_)
     ·have c2 : (j : Int) = ((B.length : Nat) : Int):=eq_of_beq c2
      conv=>whnf
      refine ⟨⟨by omega,by show (i : Int) < ((A.length : Nat) : Int); omega⟩,?_⟩;conv=>whnf
      refine ⟨by show (rowsP acc).length + 1 ≤ 137438953472; rw [rowsP_len]; omega,?_⟩;conv=>whnf
      refine ⟨(.a,k,i + 1,j,acc ++ [unR (A.getD i [])]),⟨by show i + 1 ≤ A.length; omega,by show j ≤ B.length; omega,⟨by show (acc ++ [_]).length ≤ i + 1 + j; rw [List.length_append]; show acc.length + 1 ≤ _; omega,by show (A.length - (i + 1)) + (B.length - (j)) ≤ k; omega⟩,?_⟩,by show (A.length - (i + 1)) + (B.length - (j)) < (A.length - i) + (B.length - j); omega,⟨rfl,rfl,rfl,nxi,rfl,trivial⟩,⟨?_,trivial⟩⟩
      ·show bothGo k ((unP A).drop (i + 1)) ((unP B).drop (j)) _ = v
       rw [hB0]
       exact p4
      exact congrArg (fun z=>some (Blk.row 244 (.rows z))) (rowsP_app acc (unR (A.getD i [])))
     have c2 : ¬ ((j : Int) = ((B.length : Nat) : Int)):=ne_of_beq_false c2
     exfalso; omega
    have c0 : ¬ ((i : Int) < ((A.length : Nat) : Int)):=of_decide_eq_false c0
    exfalso; omega
   by_cases hj : j < B.length
   ·have hA0 : (unP A).drop i = []:=List.drop_eq_nil_of_le (by rw [unP_len]; omega)
    obtain ⟨k,rfl⟩ : ∃ z,k = z + 1:=⟨k - 1,by omega⟩
    rw [unP_drop hj,hA0,bothGo] at p4
    conv=>whnf
    refine Ask.i (fun c0=>?_) (fun c0=>?_)
    ·have c0 : (i : Int) < ((A.length : Nat) : Int):=of_decide_eq_true c0
     exfalso; omega
    have c0 : ¬ ((i : Int) < ((A.length : Nat) : Int)):=of_decide_eq_false c0
    conv=>whnf
    refine Ask.i (fun c1=>?_) (fun c1=>?_)
    ·have c1 : (j : Int) < ((B.length : Nat) : Int):=of_decide_eq_true c1
     conv=>whnf
     refine ⟨mixed,[],[],[],by kernel_rfl,?_⟩;conv=>whnf
     refine Ask.i (fun c2=>?_) (fun c2=>?_)
     ·have c2 : (j : Int) = ((B.length : Nat) : Int):=eq_of_beq c2
      exfalso; omega
     have c2 : ¬ ((j : Int) = ((B.length : Nat) : Int)):=ne_of_beq_false c2
     conv=>whnf
     refine Ask.i (fun c3=>?_) (fun c3=>?_)
     ·have c3 : (i : Int) < ((A.length : Nat) : Int):=of_decide_eq_true c3
      exfalso; omega
     have c3 : ¬ ((i : Int) < ((A.length : Nat) : Int)):=of_decide_eq_false c3
     conv=>whnf
     refine ⟨mixed,[],[],[],by kernel_rfl,?_⟩;conv=>whnf
     refine Ask.i (fun c5=>?_) (fun c5=>?_)
     ·have c5 : (i : Int) = ((A.length : Nat) : Int):=eq_of_beq c5
      conv=>whnf
      refine ⟨⟨by omega,by show (j : Int) < ((B.length : Nat) : Int); omega⟩,?_⟩;conv=>whnf
      refine ⟨by show (rowsP acc).length + 1 ≤ 137438953472; rw [rowsP_len]; omega,?_⟩;conv=>whnf
      refine ⟨(.b,k,i,j + 1,acc ++ [unR (B.getD j [])]),⟨by show i ≤ A.length; omega,by show j + 1 ≤ B.length; omega,⟨by show (acc ++ [_]).length ≤ i + j + 1; rw [List.length_append]; show acc.length + 1 ≤ _; omega,by show (A.length - (i)) + (B.length - (j + 1)) ≤ k; omega⟩,?_⟩,by show (A.length - (i)) + (B.length - (j + 1)) < (A.length - i) + (B.length - j); omega,⟨rfl,rfl,rfl,rfl,nxj,trivial⟩,⟨?_,trivial⟩⟩
      ·show bothGo k ((unP A).drop (i)) ((unP B).drop (j + 1)) _ = v
       rw [hA0]
       exact p4
      exact congrArg (fun z=>some (Blk.row 244 (.rows z))) (rowsP_app acc (unR (B.getD j [])))
     have c5 : ¬ ((i : Int) = ((A.length : Nat) : Int)):=ne_of_beq_false c5
     exfalso; omega
    have c1 : ¬ ((j : Int) < ((B.length : Nat) : Int)):=of_decide_eq_false c1
    exfalso; omega
   rw [show (unP A).drop i = [] from List.drop_eq_nil_of_le (by rw [unP_len]; omega),show (unP B).drop j = [] from List.drop_eq_nil_of_le (by rw [unP_len]; omega),bothGo_nil] at p4
   subst p4
   conv=>whnf
   refine Ask.i (fun c0=>?_) (fun c0=>?_)
   ·have c0 : (i : Int) < ((A.length : Nat) : Int):=of_decide_eq_true c0
    exfalso; omega
   have c0 : ¬ ((i : Int) < ((A.length : Nat) : Int)):=of_decide_eq_false c0
   conv=>whnf
   refine Ask.i (fun c1=>?_) (fun c1=>?_)
   ·have c1 : (j : Int) < ((B.length : Nat) : Int):=of_decide_eq_true c1
    exfalso; omega
   have c1 : ¬ ((j : Int) < ((B.length : Nat) : Int)):=of_decide_eq_false c1
   have ei : i = A.length:=by omega
   have ej : j = B.length:=by omega
   conv=>whnf
   exact hk
 exact hk.elim
end Sx
namespace Sx
open Go Go.Proofs
set_option maxRecDepth 30000
variable {G : Glob}
def dnGo (p : Int) : List Pl → List Int → List Int
 | [],c=>c
 | x :: L,c=>dnGo p L (c.set (x.1 - p).toNat x.2)
def endP (L : List Pl) : Int:=(L.getD (L.length - 1) (0,0)).1
def denseV (L : List Pl) : (Int × List Int) × Bool:=match L with
 | []=>((0,[]),true)
 | x :: L=>if x.1 > 2147483647 then ((0,[]),false) else ((x.1,dnGo x.1 (x :: L) (List.replicate (endP (x :: L) - x.1 + 1).toNat 0)),true)
structure DnOk (L : List Pl) : Prop where
 len : L.length ≤ 7500
 lo : ∀ x ∈ L,((L.getD 0 (0,0)).1 ≤ x.1 ∧ x.1 ≤ endP L)
 a : -1099511627776 ≤ (L.getD 0 (0,0)).1
 b : endP L ≤ 1099511627776
 w : endP L - (L.getD 0 (0,0)).1 ≤ 68719476000
def outD (v : (Int × List Int) × Bool) : SV:=.t [.a [I32 (w32 v.1.1),.d 38 (.ints v.1.2),St nos],.c (Bo v.2)]
def denseT : List U → Out SV
 | [.c (.d 244 (.rows R))]=>.need (DnOk (unP R)) (.ret (outD (denseV (unP R))))
 | _=>.fail
theorem unP_getD {R : List (List D)} {i : Nat} (h : i < R.length) : (unP R).getD i (0,0) = unR (R.getD i []):=by
 unfold unP
 rw [List.getD_eq_getElem?_getD,List.getElem?_map,List.getElem?_eq_getElem h,List.getD_eq_getElem?_getD,List.getElem?_eq_getElem h]; rfl
theorem dnGo_len (p : Int) : ∀ (L : List Pl) (c : List Int),(dnGo p L c).length = c.length
 | [],_=>rfl
 | x :: L,c=>by rw [dnGo,dnGo_len p L,List.length_set]
def nX (R : List (List D)) : Int:=w64 (w64 ((cellD (R.getD (w64 (((R.length : Nat) : Int) - 1)).toNat []) 0).toInt - (cellD (R.getD 0 []) 0).toInt) + 1)
def iX (R : List (List D)) (i : Nat) : Int:=w64 ((cellD (R.getD i []) 0).toInt - (cellD (R.getD 0 []) 0).toInt)
theorem dense_ex : Ok G 163 denseT:=by
 refine okP noneS Tryz.func163 rfl (by decide) fun K us hk=>?_
 unfold denseT at hk
 split at hk
 ·rename_i R
  refine ⟨by show 1 ≤ _; decide,?_⟩
  obtain ⟨⟨h1,h2,h3,h4,h5⟩,hk⟩:=hk
  rw [unP_len] at h1
  conv=>whnf
  refine Ask.i (fun c0=>?_) (fun c0=>?_)
  ·have k0 : ((R.length : Nat) : Int) = 0:=eq_of_beq c0
   obtain rfl : R = []:=List.length_eq_zero_iff.1 (by omega)
   conv=>whnf
   exact hk
  have k0 : ¬ ((R.length : Nat) : Int) = 0:=ne_of_beq_false c0
  have h0 : 0 < R.length:=by omega
  have hl : R.length - 1 < R.length:=by omega
  have e0:=unP_getD h0
  have eL : endP (unP R) = (unR (R.getD (R.length - 1) [])).1:=by unfold endP; rw [unP_len,unP_getD hl]
  have hd : unP R = unR (R.getD 0 []) :: (unP R).drop 1:=unP_drop h0
  rw [e0] at h3 h5
  rw [eL] at h4 h5
  conv=>whnf
  refine ⟨⟨by omega,by show (0 : Int) < ((R.length : Nat) : Int); omega⟩,?_⟩;conv=>whnf
  refine Ask.i (fun c1=>?_) (fun c1=>?_)
  ·have k1 : (unR (R.getD 0 [])).1 > 2147483647:=of_decide_eq_true c1
   have hv : denseV (unP R) = ((0,[]),false):=by rw [hd]; exact if_pos k1
   rw [hv] at hk
   conv=>whnf
   exact hk
  have k1 : ¬ (unR (R.getD 0 [])).1 > 2147483647:=of_decide_eq_false c1
  have hv : denseV (unP R) = (((unR (R.getD 0 [])).1,dnGo (unR (R.getD 0 [])).1 (unP R) (List.replicate ((unR (R.getD (R.length - 1) [])).1 - (unR (R.getD 0 [])).1 + 1).toNat 0)),true):=by
   rw [← eL,hd]; exact if_neg k1
  rw [hv] at hk
  conv=>whnf
  have wl : w64 (((R.length : Nat) : Int) - 1) = ((R.length : Nat) : Int) - 1:=w64_eq (by omega)
  refine ⟨⟨by show 0 ≤ w64 (((R.length : Nat) : Int) - 1); rw [wl]; omega,by show w64 (((R.length : Nat) : Int) - 1) < ((R.length : Nat) : Int); rw [wl]; omega⟩,?_⟩;conv=>whnf
  have hN : nX R = (unR (R.getD (R.length - 1) [])).1 - (unR (R.getD 0 [])).1 + 1:=by
   unfold nX
   rw [show (w64 (((R.length : Nat) : Int) - 1)).toNat = R.length - 1 by rw [wl]; omega]
   show w64 (w64 ((unR (R.getD (R.length - 1) [])).1 - (unR (R.getD 0 [])).1) + 1) = _
   have hm:=h2 _ (show unR (R.getD 0 []) ∈ unP R by rw [hd]; exact List.mem_cons_self)
   rw [eL] at hm
   rw [w64_eq (n:=(unR (R.getD (R.length - 1) [])).1 - (unR (R.getD 0 [])).1) (by omega),w64_eq (by omega)]
  have hm:=h2 _ (show unR (R.getD 0 []) ∈ unP R by rw [hd]; exact List.mem_cons_self)
  rw [eL] at hm
  refine ⟨by show 0 ≤ nX R ∧ nX R ≤ nX R ∧ nX R ≤ 1099511627776; rw [hN]; omega,?_⟩;conv=>whnf
  generalize hv : dnGo (unR (R.getD 0 [])).1 (unP R) (List.replicate ((unR (R.getD (R.length - 1) [])).1 - (unR (R.getD 0 [])).1 + 1).toNat 0) = v at hk
  rw [← hN] at hv
  refine ⟨[],_,_,rfl,Nat × List Int,(fun y=>([(0,.u (.c (.d 244 (.rows R)))),(2,.u (.c (.p 2 0))),(4,.u (.c (I64 (unR (R.getD 0 [])).1))),(5,.u (.c (.p 5 0))),(6,.u (.c (I64 (y.1 : Nat))))],
    [(2,.cells 42 [I32 0,.v (.slice none 0 0),St nos]),(5,.cells 42 [I32 (w32 (unR (R.getD 0 [])).1),.r 30 38,St nos]),(30,.row 38 (.ints y.2))])),
   (fun y=>y.1 ≤ R.length ∧ ((y.2.length : Nat) : Int) = nX R ∧ dnGo (unR (R.getD 0 [])).1 ((unP R).drop y.1) y.2 = v),(fun y=>R.length - y.1),fun x _=>rfl,
   ⟨(0,List.replicate (nX R).toNat 0),⟨Nat.zero_le _,by show (((List.replicate (nX R).toNat (0 : Int)).length : Nat) : Int) = nX R; rw [List.length_replicate]; omega,hv⟩,⟨rfl,rfl,rfl,rfl,rfl,trivial⟩,⟨rfl,rfl,rfl,trivial⟩⟩,?_⟩
  rintro ⟨i,c⟩ ⟨p1,p2,p3⟩
  simp only at p1 p2 p3
  conv=>whnf
  refine Ask.i (fun c2=>?_) (fun c2=>?_)
  ·have k2 : (i : Int) < ((R.length : Nat) : Int):=of_decide_eq_true c2
   have hi : i < R.length:=by omega
   have hnx : some (SV.u (.c (I64 (w64 ((i : Int) + 1))))) = some (SV.u (.c (I64 ((i + 1 : Nat) : Int)))):=congrArg (fun z : Int=>some (SV.u (.c (I64 z)))) (w64_eq (n:=(i : Int) + 1) (by omega))
   have hmi:=h2 _ (show unR (R.getD i []) ∈ unP R by
    rw [← unP_getD hi,List.getD_eq_getElem?_getD,List.getElem?_eq_getElem (by rw [unP_len]; exact hi)]
    exact List.getElem_mem _)
   rw [e0,eL] at hmi
   have hI : iX R i = (unR (R.getD i [])).1 - (unR (R.getD 0 [])).1:=w64_eq (n:=(unR (R.getD i [])).1 - (unR (R.getD 0 [])).1) (by omega)
   rw [unP_drop hi,dnGo] at p3
   conv=>whnf
   refine ⟨mixed,[(15,[30])],[(1,[]),(4,[]),(6,[]),(11,[]),(13,[]),(14,[])],[],by kernel_rfl,?_⟩;conv=>whnf
   refine ⟨⟨by omega,k2⟩,?_⟩;conv=>whnf
   refine ⟨⟨by omega,k2⟩,?_⟩;conv=>whnf
   refine ⟨by show 0 ≤ iX R i ∧ iX R i < ((c.length : Nat) : Int); rw [hI,p2,hN]; omega,?_⟩;conv=>whnf
   refine ⟨(i + 1,c.set (iX R i).toNat (unR (R.getD i [])).2),⟨hi,by show (((c.set _ _).length : Nat) : Int) = nX R; rw [List.length_set]; exact p2,?_⟩,by show R.length - (i + 1) < R.length - i; omega,⟨rfl,rfl,rfl,rfl,hnx,trivial⟩,⟨rfl,rfl,rfl,trivial⟩⟩
   show dnGo _ _ (c.set (iX R i).toNat _) = v
   rw [hI]; exact p3
  have k2 : ¬ (i : Int) < ((R.length : Nat) : Int):=of_decide_eq_false c2
  rw [List.drop_eq_nil_of_le (by rw [unP_len]; omega),dnGo] at p3
  subst p3
  conv=>whnf
  exact hk
 exact hk.elim
end Sx
namespace Sx
open Go Go.Proofs
set_option maxRecDepth 30000
def sAt (f : Int) (l : List Int) (p : Int) : Int:=if f ≤ p then l.getD (p - f).toNat 0 else 0
theorem sAt_nil (f p : Int) : sAt f [] p = 0:=by unfold sAt; split <;> simp
theorem sAt_r {l : List Int} (h : R64 l) (f p : Int) : 0 ≤ sAt f l p ∧ sAt f l p < 18446744073709551616:=by
 unfold sAt
 split
 ·exact getD_r h _
 decide
theorem getD_out {l : List Int} {i : Nat} (h : l.length ≤ i) : l.getD i 0 = 0:=by rw [List.getD_eq_getElem?_getD,List.getElem?_eq_none h]; rfl
theorem sAt_out {f p : Int} {l : List Int} (h : ¬ (f ≤ p ∧ p < f + l.length)) : sAt f l p = 0:=by
 unfold sAt
 split
 ·exact getD_out (by omega)
 rfl
theorem sAt_in {f p : Int} {l : List Int} (h : sAt f l p ≠ 0) : f ≤ p ∧ p < f + l.length:=Classical.byContradiction fun hn=>h (sAt_out hn)
theorem sAt_at (f : Int) (l : List Int) (j : Nat) : sAt f l (f + j) = l.getD j 0:=by
 unfold sAt
 rw [if_pos (by omega)]
 congr 1
 omega
theorem getD_rep (k i : Nat) : (List.replicate k (0 : Int)).getD i 0 = 0:=by
 rw [List.getD_eq_getElem?_getD,List.getElem?_replicate]
 split <;> rfl
theorem getD_app (a b : List Int) (i : Nat) : (a ++ b).getD i 0 = if i < a.length then a.getD i 0 else b.getD (i - a.length) 0:=by
 rw [List.getD_eq_getElem?_getD]
 by_cases h : i < a.length
 ·rw [if_pos h,List.getElem?_append_left h,← List.getD_eq_getElem?_getD]
 rw [if_neg h,List.getElem?_append_right (by omega),← List.getD_eq_getElem?_getD]
theorem trim_at {f : Int} {l : List Int} (h1 : -4611686018427387904 ≤ f) (h2 : f + l.length ≤ 4611686018427387904) (p : Int) : sAt (trim f l).1 (trim f l).2 p = sAt f l p:=by
 rcases trim_spec l f h1 h2 with ⟨h,h0⟩ | ⟨k,m,c,h,hc,_,_,hll⟩
 ·rw [h,sAt_nil]
  unfold sAt
  split
  ·by_cases hi : (p - f).toNat < l.length
   ·exact (h0 _ (getD_mem (a:=0) hi)).symm
   exact (getD_out (by omega)).symm
  rfl
 rw [h]
 subst hll
 unfold sAt
 simp only
 by_cases h3 : f + (k : Int) ≤ p
 ·rw [if_pos h3,if_pos (by omega),getD_app,if_neg (by simp; omega),getD_app,List.length_replicate]
  have e : (p - f).toNat - k = (p - (f + k)).toNat:=by omega
  rw [e]
  split
  ·rfl
  rw [getD_rep,getD_out (by omega)]
 rw [if_neg h3]
 split
 ·rw [getD_app,List.length_replicate,if_pos (by omega),getD_rep]
 rfl
theorem tight_le {f g : Int} {l m : List Int} (h1 : l.getD 0 0 ≠ 0) (h2 : l.getD (l.length - 1) 0 ≠ 0) (hl : l ≠ []) (h : ∀ p,sAt f l p = sAt g m p) : g ≤ f ∧ f + l.length ≤ g + m.length:=by
 have a1:=sAt_at f l 0
 have a2:=sAt_at f l (l.length - 1)
 have : 0 < l.length:=List.length_pos_iff.2 hl
 rw [← a1,h] at h1
 rw [← a2,h] at h2
 have b1:=sAt_in h1
 have b2:=sAt_in h2
 omega
theorem canon {s t : Int × List Int} (hs : Tight s) (ht : Tight t) (h : ∀ p,sAt s.1 s.2 p = sAt t.1 t.2 p) : s = t:=by
 obtain ⟨f,l⟩:=s
 obtain ⟨g,m⟩:=t
 simp only at h
 rcases hs with hs | ⟨h1,h2,h3⟩
 ·obtain ⟨rfl,rfl⟩:=Prod.mk.inj hs
  rcases ht with ht | ⟨h4,h5,h6⟩
  ·exact ht.symm
  exfalso
  have:=sAt_at g m 0
  rw [← h,sAt_nil] at this
  exact h5 this.symm
 rcases ht with ht | ⟨h4,h5,h6⟩
 ·exfalso
  obtain ⟨rfl,rfl⟩:=Prod.mk.inj ht
  have:=sAt_at f l 0
  rw [h,sAt_nil] at this
  exact h2 this.symm
 have a:=tight_le h2 h3 h1 h
 have b:=tight_le h5 h6 h4 fun p=>(h p).symm
 simp only at a b
 obtain rfl : f = g:=by omega
 have hl : l.length = m.length:=by omega
 have : l = m:=by
  refine List.ext_getElem hl fun i i1 i2=>?_
  have:=h (f + i)
  rw [sAt_at,sAt_at,List.getD_eq_getElem?_getD,List.getD_eq_getElem?_getD,List.getElem?_eq_getElem i1,List.getElem?_eq_getElem i2] at this
  exact this
 rw [this]
theorem getD_set (c : List Int) (q p : Nat) (v : Int) (hq : q < c.length) : (c.set q v).getD p 0 = if p = q then v else c.getD p 0:=by
 rw [List.getD_eq_getElem?_getD,List.getElem?_set]
 by_cases h : q = p
 ·subst h
  rw [if_pos rfl,if_pos rfl,if_pos hq]; rfl
 rw [if_neg h,if_neg (fun e=>h e.symm),List.getD_eq_getElem?_getD]
theorem addGo_get (o : Nat) : ∀ (l : List Int) (i : Nat) (c : List Int) (bad : Bool) (p : Nat),o + i + l.length ≤ c.length →
  (addGo o i l c bad).1.getD p 0 = if o + i ≤ p ∧ p < o + i + l.length then x64 (c.getD p 0 + l.getD (p - (o + i)) 0) else c.getD p 0
 | [],i,c,bad,p,_=>by
  rw [addGo,if_neg (by simp only [List.length_nil]; omega)]
 | x :: l,i,c,bad,p,h=>by
  simp only [List.length_cons] at h
  rw [addGo,addGo_get o l (i + 1) _ _ p (by simp only [List.length_set]; omega),getD_set _ _ _ _ (by omega)]
  simp only [List.length_cons]
  by_cases h1 : p = o + i
  ·subst h1
   rw [if_neg (by omega),if_pos rfl,if_pos (by omega),Nat.sub_self]; rfl
  rw [if_neg h1]
  by_cases h2 : o + i + 1 ≤ p ∧ p < o + i + 1 + l.length
  ·rw [if_pos (by omega),if_pos (by omega)]
   have e : p - (o + i) = p - (o + (i + 1)) + 1:=by omega
   rw [e,List.getD_cons_succ]
  rw [if_neg (by omega),if_neg (by omega)]
theorem addGo_flag (o : Nat) : ∀ (l : List Int) (i : Nat) (c : List Int) (bad : Bool),o + i + l.length ≤ c.length →
  ((addGo o i l c bad).2 = false ↔ bad = false ∧ ∀ j,j < l.length → ¬ x64 (c.getD (o + i + j) 0 + l.getD j 0) < c.getD (o + i + j) 0)
 | [],i,c,bad,_=>by rw [addGo]; simp
 | x :: l,i,c,bad,h=>by
  simp only [List.length_cons] at h
  rw [addGo,addGo_flag o l (i + 1) _ _ (by simp only [List.length_set]; omega),Bool.or_eq_false_iff,decide_eq_false_iff_not]
  constructor
  ·rintro ⟨⟨h1,h2⟩,h3⟩
   refine ⟨h1,fun j hj=>?_⟩
   cases j with
   | zero=>simpa using h2
   | succ j =>
    have:=h3 j (by simpa using hj)
    rw [getD_set _ _ _ _ (by omega),if_neg (by omega)] at this
    rw [List.getD_cons_succ,show o + i + (j + 1) = o + (i + 1) + j by omega]
    exact this
  rintro ⟨h1,h2⟩
  refine ⟨⟨h1,by simpa using h2 0 (by simp)⟩,fun j hj=>?_⟩
  have:=h2 (j + 1) (by simpa using hj)
  rw [List.getD_cons_succ,show o + i + (j + 1) = o + (i + 1) + j by omega] at this
  rw [getD_set _ _ _ _ (by omega),if_neg (by omega)]
  exact this
theorem wrap_lt {a b : Int} (ha : 0 ≤ a ∧ a < 18446744073709551616) (hb : 0 ≤ b ∧ b < 18446744073709551616) : x64 (a + b) < a ↔ 18446744073709551616 ≤ a + b:=by
 have e : x64 (a + b) = (a + b) % 18446744073709551616:=by
  show IntKind.u64.wrap (a + b) = _
  rw [IntKind.wrap_u64]
 rw [e]; omega
theorem addL_sem {f g : Int} {l m : List Int} (hl : R64 l) (hm : R64 m) (bad : Bool) :
  ((addL (f,l) (g,m) bad).2.2 = false ↔ bad = false ∧ ∀ p,sAt f l p + sAt g m p < 18446744073709551616) ∧
  ((addL (f,l) (g,m) bad).2.2 = false → ∀ p,sAt (addL (f,l) (g,m) bad).1 (addL (f,l) (g,m) bad).2.1 p = sAt f l p + sAt g m p):=by
 cases l with
 | nil =>
  refine ⟨⟨fun h=>⟨h,fun p=>by rw [sAt_nil]; have:=(sAt_r hm g p).2; omega⟩,fun h=>h.1⟩,fun _ p=>?_⟩
  rw [sAt_nil,Int.zero_add]; rfl
 | cons a r =>
  cases m with
  | nil =>
   refine ⟨⟨fun h=>⟨h,fun p=>by rw [sAt_nil]; have:=(sAt_r hl f p).2; omega⟩,fun h=>h.1⟩,fun _ p=>?_⟩
   rw [sAt_nil,Int.add_zero]; rfl
  | cons b q =>
   have lo : lo2 f g ≤ f ∧ lo2 f g ≤ g:=by unfold lo2; split <;> omega
   have hi : f + ((a :: r).length : Nat) ≤ hi2 (f + ((a :: r).length : Nat)) (g + ((b :: q).length : Nat)) ∧ g + ((b :: q).length : Nat) ≤ hi2 (f + ((a :: r).length : Nat)) (g + ((b :: q).length : Nat)):=by unfold hi2; split <;> omega
   simp only [addL]
   have hN : addN f (a :: r) g (b :: q) = hi2 (f + ((a :: r).length : Nat)) (g + ((b :: q).length : Nat)) - lo2 f g:=rfl
   generalize lo2 f g = first at *
   generalize addN f (a :: r) g (b :: q) = N at *
   generalize hL : a :: r = L at *
   generalize hM : b :: q = M at *
   have len1 : (f - first).toNat + 0 + L.length ≤ (List.replicate N.toNat (0 : Int)).length:=by rw [List.length_replicate]; omega
   have flag1 : (addGo (f - first).toNat 0 L (List.replicate N.toNat 0) bad).2 = bad:=by
    cases bad with
    | true=>exact addGo_bad _ _ _ _
    | false =>
     refine (addGo_flag _ _ _ _ _ len1).2 ⟨rfl,fun j hj=>?_⟩
     rw [getD_rep,Int.zero_add,x64_eq (getD_r hl j)]
     have:=(getD_r hl j).1
     omega
   have get1 : ∀ p : Nat,(addGo (f - first).toNat 0 L (List.replicate N.toNat 0) bad).1.getD p 0 = sAt f L (first + p):=by
    intro p
    rw [addGo_get _ _ _ _ _ _ len1,getD_rep]
    split
    ·rw [Int.zero_add,x64_eq (getD_r hl _)]
     unfold sAt
     rw [if_pos (by omega)]
     congr 1
     omega
    exact (sAt_out (by omega)).symm
   rw [flag1]
   have len2 : (g - first).toNat + 0 + M.length ≤ (addGo (f - first).toNat 0 L (List.replicate N.toNat 0) bad).1.length:=by rw [addGo_len,List.length_replicate]; omega
   have fl:=addGo_flag (g - first).toNat M 0 (addGo (f - first).toNat 0 L (List.replicate N.toNat 0) bad).1 bad len2
   have get2 : ∀ p : Nat,(addGo (g - first).toNat 0 M (addGo (f - first).toNat 0 L (List.replicate N.toNat 0) bad).1 bad).1.getD p 0 = if (g - first).toNat ≤ p ∧ p < (g - first).toNat + M.length then x64 (sAt f L (first + p) + sAt g M (first + p)) else sAt f L (first + p):=by
    intro p
    rw [addGo_get _ _ _ _ _ _ len2,get1]
    simp only [Nat.add_zero]
    split
    ·congr 2
     unfold sAt
     rw [if_pos (by omega)]
     congr 1
     omega
    rfl
   have key : (∀ j,j < M.length → ¬ x64 ((addGo (f - first).toNat 0 L (List.replicate N.toNat 0) bad).1.getD ((g - first).toNat + 0 + j) 0 + M.getD j 0) < (addGo (f - first).toNat 0 L (List.replicate N.toNat 0) bad).1.getD ((g - first).toNat + 0 + j) 0) ↔ ∀ p,sAt f L p + sAt g M p < 18446744073709551616:=by
    constructor
    ·intro h p
     by_cases h0 : sAt g M p = 0
     ·rw [h0]; have:=(sAt_r hl f p).2; omega
     have hp:=sAt_in h0
     have:=h (p - g).toNat (by omega)
     rw [get1,← sAt_at g M] at this
     have e1 : first + (((g - first).toNat + 0 + (p - g).toNat : Nat) : Int) = p:=by omega
     have e2 : g + (((p - g).toNat : Nat) : Int) = p:=by omega
     rw [e1,e2,wrap_lt (sAt_r hl f p) (sAt_r hm g p)] at this
     omega
    intro h j hj
    rw [get1,← sAt_at g M]
    have e1 : first + (((g - first).toNat + 0 + j : Nat) : Int) = g + j:=by omega
    rw [e1,wrap_lt (sAt_r hl f _) (sAt_r hm g _)]
    have:=h (g + j)
    omega
   rw [fl,key]
   refine ⟨Iff.rfl,fun h p=>?_⟩
   have hs:=h.2 p
   have r1:=sAt_r hl f p
   have r2:=sAt_r hm g p
   by_cases hp : first ≤ p
   ·have e:=get2 (p - first).toNat
    have e1 : first + (((p - first).toNat : Nat) : Int) = p:=by omega
    rw [e1] at e
    rw [show sAt first (addGo (g - first).toNat 0 M (addGo (f - first).toNat 0 L (List.replicate N.toNat 0) bad).1 bad).1 p = _ from if_pos hp,e]
    split
    ·exact x64_eq (by omega)
    rename_i hx
    have : sAt g M p = 0:=sAt_out (by omega)
    rw [this,Int.add_zero]
   rw [sAt_out (f:=f) (l:=L) (by omega),sAt_out (f:=g) (l:=M) (by omega)]
   unfold sAt
   rw [if_neg hp]; rfl
end Sx
namespace Sx
open Go Go.Proofs
set_option maxRecDepth 30000
def Ds (f : Int) (n : Nat) : Nat → List Int → Int → Int
 | _,[],_=>0
 | i,x :: l,p=>(if shr (f + i) n = p then x else 0) + Ds f n (i + 1) l p
theorem R64.tl {x : Int} {l : List Int} (h : R64 (x :: l)) : R64 l:=fun y hy=>h y (List.mem_cons_of_mem _ hy)
theorem R64.hd {x : Int} {l : List Int} (h : R64 (x :: l)) : 0 ≤ x ∧ x < 18446744073709551616:=h x List.mem_cons_self
theorem Ds_nn (f : Int) (n : Nat) : ∀ (l : List Int) (i : Nat) (p : Int),R64 l → 0 ≤ Ds f n i l p
 | [],_,_,_=>Int.le_refl 0
 | x :: l,i,p,h=>by
  rw [Ds]
  have:=Ds_nn f n l (i + 1) p h.tl
  have:=h.hd
  split <;> omega
structure PlOk (L : List Pl) (F : Int → Int) : Prop where
 st : L.Pairwise (fun a b=>a.1 < b.1)
 val : ∀ x ∈ L,x.2 = F x.1 ∧ 0 < x.2 ∧ x.2 < 18446744073709551616
 all : ∀ p,F p ≠ 0 → ∃ x ∈ L,x.1 = p
theorem PlOk.nil : PlOk [] (fun _=>0):=⟨List.Pairwise.nil,fun x h=>(by cases h),fun p h=>absurd rfl h⟩
theorem PlOk.congr {L : List Pl} {F F' : Int → Int} (h : PlOk L F) (e : ∀ p,F p = F' p) : PlOk L F':=(funext e : F = F') ▸ h
theorem PlOk.zero {L : List Pl} {F : Int → Int} (h : PlOk L F) {p : Int} (hp : ∀ x ∈ L,x.1 ≠ p) : F p = 0:=Classical.byContradiction fun hn=>by
 obtain ⟨x,hx,e⟩:=h.all p hn
 exact hp x hx e
theorem PlOk.range {L : List Pl} {F : Int → Int} (h : PlOk L F) (p : Int) : 0 ≤ F p ∧ F p < 18446744073709551616:=by
 by_cases hp : F p = 0
 ·omega
 obtain ⟨x,hx,rfl⟩:=h.all p hp
 have:=h.val x hx
 omega
theorem PlOk.snoc {L : List Pl} {F : Int → Int} (h : PlOk L F) {q x : Int} (hq : ∀ y ∈ L,y.1 < q) (hx : 0 < x ∧ x < 18446744073709551616) : PlOk (L ++ [(q,x)]) (fun p=>F p + if q = p then x else 0):=by
 have h0 : F q = 0:=h.zero fun y hy e=>by have:=hq y hy; omega
 refine ⟨List.pairwise_append.2 ⟨h.st,List.pairwise_singleton _ _,fun a ha b hb=>?_⟩,fun y hy=>?_,fun p hp=>?_⟩
 ·obtain rfl:=List.mem_singleton.1 hb; exact hq a ha
 ·rcases List.mem_append.1 hy with hy | hy
  ·have:=h.val y hy
   have:=hq y hy
   rw [if_neg (by omega)]; omega
  obtain rfl:=List.mem_singleton.1 hy
  simp only [if_true,h0]; omega
 by_cases e : q = p
 ·exact ⟨(q,x),List.mem_append_right _ List.mem_cons_self,e⟩
 rw [if_neg e] at hp
 obtain ⟨y,hy,e⟩:=h.all p (by omega)
 exact ⟨y,List.mem_append_left _ hy,e⟩
theorem PlOk.more {L : List Pl} {F : Int → Int} {q m x : Int} (h : PlOk (L ++ [(q,m)]) F) (hx : 0 ≤ x ∧ m + x < 18446744073709551616) : PlOk (L ++ [(q,m + x)]) (fun p=>F p + if q = p then x else 0):=by
 have hs:=List.pairwise_append.1 h.st
 have hm:=h.val (q,m) (List.mem_append_right _ List.mem_cons_self)
 refine ⟨List.pairwise_append.2 ⟨hs.1,List.pairwise_singleton _ _,fun a ha b hb=>?_⟩,fun y hy=>?_,fun p hp=>?_⟩
 ·obtain rfl:=List.mem_singleton.1 hb; exact hs.2.2 a ha (q,m) List.mem_cons_self
 ·rcases List.mem_append.1 hy with hy | hy
  ·have h1:=h.val y (List.mem_append_left _ hy)
   have h2:=hs.2.2 y hy (q,m) List.mem_cons_self
   simp only at h2
   rw [if_neg (by omega)]; omega
  obtain rfl:=List.mem_singleton.1 hy
  simp only at hm
  simp only [if_true]; omega
 by_cases e : q = p
 ·exact ⟨(q,m + x),List.mem_append_right _ List.mem_cons_self,e⟩
 rw [if_neg e] at hp
 obtain ⟨y,hy,e'⟩:=h.all p (by omega)
 rcases List.mem_append.1 hy with hy | hy
 ·exact ⟨y,List.mem_append_left _ hy,e'⟩
 obtain rfl:=List.mem_singleton.1 hy; exact absurd e' e
theorem snoc_of {L : List Pl} (h : L ≠ []) : ∃ I q,L = I ++ [q]:=⟨L.dropLast,L.getLast h,(List.dropLast_concat_getLast h).symm⟩
theorem getD_snoc (I : List Pl) (q : Pl) : (I ++ [q]).getD ((I ++ [q]).length - 1) (0,0) = q:=by simp
theorem set_snoc (I : List Pl) (q r : Pl) : (I ++ [q]).set ((I ++ [q]).length - 1) r = I ++ [r]:=by simp
theorem ge_iff {m x : Int} (hm : 0 ≤ m ∧ m < 18446744073709551616) (hx : 0 ≤ x ∧ x < 18446744073709551616) : x64 (m + x) ≥ m ↔ m + x < 18446744073709551616:=by
 have:=wrap_lt hm hx
 omega
theorem plGo_sem (f : Int) (n : Nat) : ∀ (l : List Int) (i : Nat) (acc : List Pl) (F : Int → Int),R64 l → PlOk acc F → (∀ y ∈ acc,y.1 ≤ shr (f + i) n) →
  (plGo f n i l acc = none ∧ ∃ p,18446744073709551616 ≤ F p + Ds f n i l p) ∨ (∃ L,plGo f n i l acc = some L ∧ L.length ≤ acc.length + l.length ∧ PlOk L (fun p=>F p + Ds f n i l p))
 | [],i,acc,F,_,h,_=>.inr ⟨acc,rfl,Nat.le_refl _,h.congr fun p=>by rw [Ds]; omega⟩
 | x :: l,i,acc,F,hl,h,hq=>by
  have hm : shr (f + i) n ≤ shr (f + ((i + 1 : Nat) : Int)) n:=shr_mono n (by omega)
  have hx:=hl.hd
  rw [plGo]
  by_cases h0 : x = 0
  ·rw [if_pos h0]
   have ih:=plGo_sem f n l (i + 1) acc F hl.tl h fun y hy=>Int.le_trans (hq y hy) hm
   have e : ∀ p,Ds f n i (x :: l) p = Ds f n (i + 1) l p:=fun p=>by rw [Ds,h0]; simp
   rcases ih with ⟨a,p,b⟩ | ⟨L,a,b,c⟩
   ·exact .inl ⟨a,p,by rw [e]; exact b⟩
   exact .inr ⟨L,a,by simp; omega,c.congr fun p=>by rw [e]⟩
  rw [if_neg h0]
  have e : ∀ p,Ds f n i (x :: l) p = (if shr (f + i) n = p then x else 0) + Ds f n (i + 1) l p:=fun p=>rfl
  generalize hat : shr (f + i) n = at' at *
  by_cases hc : acc ≠ [] ∧ (acc.getD (acc.length - 1) (0,0)).1 = at'
  ·rw [if_pos hc]
   obtain ⟨I,q,rfl⟩:=snoc_of hc.1
   rw [getD_snoc] at hc ⊢
   rw [set_snoc]
   have hv:=h.val q (List.mem_append_right _ List.mem_cons_self)
   obtain ⟨q1,q2⟩:=q
   obtain ⟨_,rfl⟩:=hc
   simp only at hv ⊢
   have gi:=ge_iff (m:=q2) (x:=x) ⟨by omega,hv.2.2⟩ hx
   by_cases g : x64 (q2 + x) ≥ q2
   ·rw [if_pos g,x64_eq (by have:=gi.1 g; omega)]
    have ih:=plGo_sem f n l (i + 1) (I ++ [(q1,q2 + x)]) _ hl.tl (h.more ⟨hx.1,gi.1 g⟩) fun y hy=>by
     rcases List.mem_append.1 hy with hy | hy
     ·exact Int.le_trans (hq y (List.mem_append_left _ hy)) hm
     obtain rfl:=List.mem_singleton.1 hy; exact hm
    rcases ih with ⟨a,p,b⟩ | ⟨L,a,b,c⟩
    ·exact .inl ⟨a,p,by rw [e]; omega⟩
    exact .inr ⟨L,a,by simp at b ⊢; omega,c.congr fun p=>by rw [e]; omega⟩
   rw [if_neg g]
   refine .inl ⟨rfl,q1,?_⟩
   have:=Ds_nn f n l (i + 1) q1 hl.tl
   have g' : ¬ q2 + x < 18446744073709551616:=fun hh=>g (gi.2 hh)
   rw [e,if_pos rfl]; omega
  rw [if_neg hc]
  have hlt : ∀ y ∈ acc,y.1 < at':=by
   intro y hy
   have hne : acc ≠ []:=by rintro rfl; cases hy
   obtain ⟨I,q,rfl⟩:=snoc_of hne
   rw [getD_snoc] at hc
   have h1:=hq q (List.mem_append_right _ List.mem_cons_self)
   have h2 : ¬ q.1 = at':=fun hh=>hc ⟨hne,hh⟩
   rcases List.mem_append.1 hy with hy | hy
   ·have:=(List.pairwise_append.1 h.st).2.2 y hy q List.mem_cons_self
    omega
   obtain rfl:=List.mem_singleton.1 hy; omega
  have ih:=plGo_sem f n l (i + 1) (acc ++ [(at',x)]) _ hl.tl (h.snoc hlt ⟨by omega,hx.2⟩) fun y hy=>by
   rcases List.mem_append.1 hy with hy | hy
   ·exact Int.le_trans (hq y hy) hm
   obtain rfl:=List.mem_singleton.1 hy; exact hm
  rcases ih with ⟨a,p,b⟩ | ⟨L,a,b,c⟩
  ·exact .inl ⟨a,p,by rw [e]; omega⟩
  exact .inr ⟨L,a,by simp at b ⊢; omega,c.congr fun p=>by rw [e]; omega⟩
theorem Ds_in (f : Int) (n : Nat) : ∀ (l : List Int) (i : Nat) (p : Int),Ds f n i l p ≠ 0 → ∃ j,j < l.length ∧ shr (f + ((i + j : Nat) : Int)) n = p
 | [],_,_,h=>absurd rfl h
 | x :: l,i,p,h=>by
  rw [Ds] at h
  by_cases e : shr (f + i) n = p
  ·exact ⟨0,by simp,e⟩
  rw [if_neg e,Int.zero_add] at h
  obtain ⟨j,h1,h2⟩:=Ds_in f n l (i + 1) p h
  exact ⟨j + 1,by simp; omega,by rw [← h2]; congr 2; omega⟩
theorem PlOk.tl {x : Pl} {L : List Pl} {F : Int → Int} (h : PlOk (x :: L) F) : PlOk L (fun p=>if p = x.1 then 0 else F p):=by
 have hs:=List.pairwise_cons.1 h.st
 refine ⟨hs.2,fun y hy=>?_,fun p hp=>?_⟩
 ·have:=hs.1 y hy
  rw [if_neg (by omega)]
  exact h.val y (List.mem_cons_of_mem _ hy)
 by_cases e : p = x.1
 ·rw [if_pos e] at hp; exact absurd rfl hp
 rw [if_neg e] at hp
 obtain ⟨y,hy,e'⟩:=h.all p hp
 rcases List.mem_cons.1 hy with rfl | hy
 ·exact absurd e'.symm e
 exact ⟨y,hy,e'⟩
theorem PlOk.hd {x : Pl} {L : List Pl} {F : Int → Int} (h : PlOk (x :: L) F) : x.2 = F x.1 ∧ 0 < x.2 ∧ x.2 < 18446744073709551616 ∧ ∀ p,p < x.1 → F p = 0 :=
 ⟨(h.val x List.mem_cons_self).1,(h.val x List.mem_cons_self).2.1,(h.val x List.mem_cons_self).2.2,fun p hp=>h.zero fun y hy=>by
  rcases List.mem_cons.1 hy with rfl | hy
  ·omega
  have:=(List.pairwise_cons.1 h.st).1 y hy; omega⟩
theorem PlOk.none {F : Int → Int} (h : PlOk [] F) (p : Int) : F p = 0:=h.zero fun x hx=>by cases hx
end Sx
