/- Part of the proof: a machine of states for walks, and contracts of functions over it. Conditions: those that each theorem names. -/
import Derived.Test.YtcjdbimojffggaaGreatDoorC12
set_option linter.unusedVariables false
set_option linter.unusedSimpArgs false
namespace Sx
open Go Go.Proofs
set_option maxRecDepth 30000
variable {G : Glob}
theorem trim_near {f : Int} {l : List Int} (h1 : -4294967296 ≤ f ∧ f ≤ 4294967296) (h2 : l.length ≤ 3750) : Near (trim f l).1 (trim f l).2:=by
 have hl:=trim_len f l
 rcases trim_spec l f (by omega) (by omega) with ⟨h,_⟩ | ⟨k,m,c,h,_,_,_,hll⟩
 ·rw [h]; exact ⟨by decide,by decide,by simp⟩
 rw [h] at hl ⊢
 have:=congrArg List.length hll
 simp only [List.length_append,List.length_replicate] at this
 exact ⟨by simp only; omega,by simp only; omega,by simp only at *; omega⟩
theorem sdP_near {e : ExpD} (h : Fits e) : Near (sdP e).1 (sdP e).2:=by
 obtain ⟨h1,h2,h3,h4,h5,h6,_⟩:=h
 refine trim_near ?_ (Nat.le_trans (side_len _ _) h1)
 cases e.hasP
 ·exact ⟨by simp,by simp⟩
 show -4294967296 ≤ w64 e.offP ∧ w64 e.offP ≤ 4294967296
 rw [w64_eq (by omega)]; omega
theorem sdN_near {e : ExpD} (h : Fits e) : Near (sdN e).1 (sdN e).2:=by
 obtain ⟨h1,h2,h3,h4,h5,h6,_⟩:=h
 refine trim_near ?_ (Nat.le_trans (side_len _ _) h2)
 cases e.hasN
 ·exact ⟨by simp,by simp⟩
 show -4294967296 ≤ w64 e.offN ∧ w64 e.offN ≤ 4294967296
 rw [w64_eq (by omega)]; omega
theorem shifts_ok : Ok G 101 shiftsS:=by
 refine okP t4s_ok Tryz.func101 rfl (by decide) fun K us hk=>?_
 unfold shiftsS at hk
 split at hk
 ·rename_i la lb most
  split at hk
  ·rename_i a b ha hb
   rw [asExp_eq ha,asExp_eq hb]
   refine ⟨by show 3 ≤ _; decide,?_⟩
   obtain ⟨⟨hA,hB⟩,hk⟩:=hk
   have nP1:=sdP_near hA
   have nP2:=sdP_near hB
   have nN1:=sdN_near hA
   have nN2:=sdN_near hB
   have sA : w64 a.scale = a.scale:=w64_eq (by have:=hA.2.2.2.2.2.2; omega)
   have sB : w64 b.scale = b.scale:=w64_eq (by have:=hB.2.2.2.2.2.2; omega)
   have hsA:=hA.2.2.2.2.2.2
   have hsB:=hB.2.2.2.2.2.2
   conv=>whnf
   refine ⟨⟨hA,hB⟩,?_⟩;conv=>whnf
   refine ⟨mixed,[],[],[],by kernel_rfl,?_⟩;conv=>whnf
   refine ⟨[],_,_,rfl,Nat × Int × Int × Int,(fun v=>([(2,.u (.c (I64 most))),(10,.u (.c (.p 10 0))),(11,.u (.c (.p 11 0))),(12,.u (.c (I64 v.2.2.2))),(13,.u (.c (I64 v.2.1))),(14,.u (.c (I64 v.2.2.1))),(15,.u (.c (I64 ((40 : Int) - (v.1 : Nat)))))],
     [(10,.cells 191 [I64 (sdP a).1,.d 38 (.ints (sdP a).2),I64 (sdP b).1,.d 38 (.ints (sdP b).2)]),(11,.cells 191 [I64 (sdN a).1,.d 38 (.ints (sdN a).2),I64 (sdN b).1,.d 38 (.ints (sdN b).2)])])),
    (fun v=>v.1 ≤ 40 ∧ 0 ≤ v.2.1 ∧ 0 ≤ v.2.2.1 ∧ 40 ≤ v.2.1 + v.1 ∧ v.2.1 ≤ 8589934592 ∧ v.2.2.1 ≤ 8589934592 ∧ -2147483648 - 40 ≤ v.2.2.2 - v.1 ∧ v.2.2.2 ≤ 2147483648 ∧ shGo (sdP a) (sdP b) (sdN a) (sdN b) most v.1 v.2.1 v.2.2.1 v.2.2.2 (40 - v.1) = shV a b most),(fun v=>v.1),fun x _=>rfl,
    ⟨(40,a.scale - lesser a.scale b.scale,b.scale - lesser a.scale b.scale,lesser a.scale b.scale),?_,⟨rfl,rfl,rfl,?_,?_,?_,rfl,trivial⟩,⟨rfl,rfl,trivial⟩⟩,?_⟩
   ·have hl : lesser a.scale b.scale ≤ a.scale ∧ lesser a.scale b.scale ≤ b.scale ∧ -2147483648 ≤ lesser a.scale b.scale:=by unfold lesser; split <;> omega
    exact ⟨by simp,by simp only; omega,by simp only; omega,by simp only; omega,by simp only; omega,by simp only; omega,by simp only; omega,by simp only; omega,rfl⟩
   ·have e : (if w64 b.scale < w64 a.scale then w64 b.scale else w64 a.scale) = lesser a.scale b.scale:=by rw [sA,sB]; rfl
    exact congrArg (fun z : Int=>some (SV.u (.c (I64 z)))) e
   ·have e : w64 (w64 a.scale - (if w64 b.scale < w64 a.scale then w64 b.scale else w64 a.scale)) = a.scale - lesser a.scale b.scale:=by
     rw [sA,sB]
     show w64 (a.scale - lesser a.scale b.scale) = _
     rw [w64_eq (by unfold lesser; split <;> omega)]
    exact congrArg (fun z : Int=>some (SV.u (.c (I64 z)))) e
   ·have e : w64 (w64 b.scale - (if w64 b.scale < w64 a.scale then w64 b.scale else w64 a.scale)) = b.scale - lesser a.scale b.scale:=by
     rw [sA,sB]
     show w64 (b.scale - lesser a.scale b.scale) = _
     rw [w64_eq (by unfold lesser; split <;> omega)]
    exact congrArg (fun z : Int=>some (SV.u (.c (I64 z)))) e
   rintro ⟨k,x,y,s⟩ ⟨q1,hx,hy,q2,q3,q4,q5,q6,hgo⟩
   simp only at q1 hx hy q2 q3 q4 q5 q6 hgo
   have err : (most < 1 ∨ most > 320 ∨ (if y > x then y else x) > 31 ∨ (0 < 40 - k ∧ s < -10)) → K (.t [.c (I64 0),.c (I64 0),.c (I64 0),.c (errV 9)]):=fun h=>hk none (by
    rw [← hgo]
    cases k with
    | zero=>rfl
    | succ k=>rw [shGo,if_pos h])
   conv=>whnf
   refine Ask.i (fun c1=>?_) (fun c1=>?_)
   ·have c1 : most < 1:=of_decide_eq_true c1
    conv=>whnf
    exact err (.inl c1)
   have c1 : ¬ most < 1:=of_decide_eq_false c1
   conv=>whnf
   refine Ask.i (fun c2=>?_) (fun c2=>?_)
   ·have c2 : most > 320:=of_decide_eq_true c2
    conv=>whnf
    exact err (.inr (.inl c2))
   have c2 : ¬ most > 320:=of_decide_eq_false c2
   conv=>whnf
   refine Ask.i (fun c3=>?_) (fun c3=>?_)
   ·have c3 : (if y > x then y else x) > 31:=of_decide_eq_true c3
    conv=>whnf
    exact err (.inr (.inr (.inl c3)))
   have c3 : ¬ (if y > x then y else x) > 31:=of_decide_eq_false c3
   conv=>whnf
   refine Ask.i (fun c4=>?_) (fun c4=>?_)
   ·have c4 : (40 : Int) - (k : Nat) > 0:=of_decide_eq_true c4
    conv=>whnf
    refine Ask.i (fun c5=>?_) (fun c5=>?_)
    ·have c5 : s < -10:=of_decide_eq_true c5
     conv=>whnf
     exact err (.inr (.inr (.inr ⟨by omega,c5⟩)))
    have c5 : ¬ s < -10:=of_decide_eq_false c5
    have hk1 : 1 ≤ k:=by omega
    obtain ⟨k,rfl⟩ : ∃ j,k = j + 1:=⟨k - 1,by omega⟩
    have hno : ¬ (most < 1 ∨ most > 320 ∨ (if y > x then y else x) > 31 ∨ (0 < 40 - (k + 1) ∧ s < -10)):=by omega
    have hmx : x ≤ 31 ∧ y ≤ 31:=by split at c3 <;> omega
    conv=>whnf
    refine ⟨⟨nP1,nP2,hx,hmx.1,hy,hmx.2⟩,?_⟩;conv=>whnf
    refine Ask.i (fun d1=>?_) (fun d1=>?_)
    ·have d1 : wideV (sdP a) (sdP b) x.toNat y.toNat ≤ most:=of_decide_eq_true d1
     conv=>whnf
     refine ⟨⟨nN1,nN2,hx,hmx.1,hy,hmx.2⟩,?_⟩;conv=>whnf
     refine Ask.i (fun d2=>?_) (fun d2=>?_)
     ·have d2 : wideV (sdN a) (sdN b) x.toNat y.toNat ≤ most:=of_decide_eq_true d2
      rw [shGo,if_neg hno,if_pos ⟨d1,d2⟩] at hgo
      conv=>whnf
      exact hk (some (x,y,s)) hgo.symm
     have d2 : ¬ wideV (sdN a) (sdN b) x.toNat y.toNat ≤ most:=of_decide_eq_false d2
     rw [shGo,if_neg hno,if_neg (fun h=>d2 h.2)] at hgo
     conv=>whnf
     refine ⟨(k,x + 1,y + 1,s - 1),⟨by simp only; omega,by simp only; omega,by simp only; omega,by simp only; omega,by simp only; omega,by simp only; omega,by simp only; omega,by simp only; omega,?_⟩,by simp only; omega,⟨rfl,rfl,rfl,congrArg (fun z : Int=>some (SV.u (.c (I64 z)))) (w64_eq (n:=s - 1) (by omega)),congrArg (fun z : Int=>some (SV.u (.c (I64 z)))) (w64_eq (n:=x + 1) (by omega)),congrArg (fun z : Int=>some (SV.u (.c (I64 z)))) (w64_eq (n:=y + 1) (by omega)),congrArg (fun z : Int=>some (SV.u (.c (I64 z)))) ((w64_eq (n:=(40 : Int) - ((k + 1 : Nat) : Int) + 1) (by omega)).trans (by omega)),trivial⟩,⟨rfl,rfl,trivial⟩⟩
     have e40 : 40 - (k + 1) + 1 = 40 - k:=by omega
     rw [e40] at hgo
     exact hgo
    have d1 : ¬ wideV (sdP a) (sdP b) x.toNat y.toNat ≤ most:=of_decide_eq_false d1
    rw [shGo,if_neg hno,if_neg (fun h=>d1 h.1)] at hgo
    conv=>whnf
    refine ⟨(k,x + 1,y + 1,s - 1),⟨by simp only; omega,by simp only; omega,by simp only; omega,by simp only; omega,by simp only; omega,by simp only; omega,by simp only; omega,by simp only; omega,?_⟩,by simp only; omega,⟨rfl,rfl,rfl,congrArg (fun z : Int=>some (SV.u (.c (I64 z)))) (w64_eq (n:=s - 1) (by omega)),congrArg (fun z : Int=>some (SV.u (.c (I64 z)))) (w64_eq (n:=x + 1) (by omega)),congrArg (fun z : Int=>some (SV.u (.c (I64 z)))) (w64_eq (n:=y + 1) (by omega)),congrArg (fun z : Int=>some (SV.u (.c (I64 z)))) ((w64_eq (n:=(40 : Int) - ((k + 1 : Nat) : Int) + 1) (by omega)).trans (by omega)),trivial⟩,⟨rfl,rfl,trivial⟩⟩
    have e40 : 40 - (k + 1) + 1 = 40 - k:=by omega
    rw [e40] at hgo
    exact hgo
   have c4 : ¬ (40 : Int) - (k : Nat) > 0:=of_decide_eq_false c4
   have hk1 : 1 ≤ k:=by omega
   obtain ⟨k,rfl⟩ : ∃ j,k = j + 1:=⟨k - 1,by omega⟩
   have hno : ¬ (most < 1 ∨ most > 320 ∨ (if y > x then y else x) > 31 ∨ (0 < 40 - (k + 1) ∧ s < -10)):=by omega
   have hmx : x ≤ 31 ∧ y ≤ 31:=by split at c3 <;> omega
   conv=>whnf
   refine ⟨⟨nP1,nP2,hx,hmx.1,hy,hmx.2⟩,?_⟩;conv=>whnf
   refine Ask.i (fun d1=>?_) (fun d1=>?_)
   ·have d1 : wideV (sdP a) (sdP b) x.toNat y.toNat ≤ most:=of_decide_eq_true d1
    conv=>whnf
    refine ⟨⟨nN1,nN2,hx,hmx.1,hy,hmx.2⟩,?_⟩;conv=>whnf
    refine Ask.i (fun d2=>?_) (fun d2=>?_)
    ·have d2 : wideV (sdN a) (sdN b) x.toNat y.toNat ≤ most:=of_decide_eq_true d2
     rw [shGo,if_neg hno,if_pos ⟨d1,d2⟩] at hgo
     conv=>whnf
     exact hk (some (x,y,s)) hgo.symm
    have d2 : ¬ wideV (sdN a) (sdN b) x.toNat y.toNat ≤ most:=of_decide_eq_false d2
    rw [shGo,if_neg hno,if_neg (fun h=>d2 h.2)] at hgo
    conv=>whnf
    refine ⟨(k,x + 1,y + 1,s - 1),⟨by simp only; omega,by simp only; omega,by simp only; omega,by simp only; omega,by simp only; omega,by simp only; omega,by simp only; omega,by simp only; omega,?_⟩,by simp only; omega,⟨rfl,rfl,rfl,congrArg (fun z : Int=>some (SV.u (.c (I64 z)))) (w64_eq (n:=s - 1) (by omega)),congrArg (fun z : Int=>some (SV.u (.c (I64 z)))) (w64_eq (n:=x + 1) (by omega)),congrArg (fun z : Int=>some (SV.u (.c (I64 z)))) (w64_eq (n:=y + 1) (by omega)),congrArg (fun z : Int=>some (SV.u (.c (I64 z)))) ((w64_eq (n:=(40 : Int) - ((k + 1 : Nat) : Int) + 1) (by omega)).trans (by omega)),trivial⟩,⟨rfl,rfl,trivial⟩⟩
    have e40 : 40 - (k + 1) + 1 = 40 - k:=by omega
    rw [e40] at hgo
    exact hgo
   have d1 : ¬ wideV (sdP a) (sdP b) x.toNat y.toNat ≤ most:=of_decide_eq_false d1
   rw [shGo,if_neg hno,if_neg (fun h=>d1 h.1)] at hgo
   conv=>whnf
   refine ⟨(k,x + 1,y + 1,s - 1),⟨by simp only; omega,by simp only; omega,by simp only; omega,by simp only; omega,by simp only; omega,by simp only; omega,by simp only; omega,by simp only; omega,?_⟩,by simp only; omega,⟨rfl,rfl,rfl,congrArg (fun z : Int=>some (SV.u (.c (I64 z)))) (w64_eq (n:=s - 1) (by omega)),congrArg (fun z : Int=>some (SV.u (.c (I64 z)))) (w64_eq (n:=x + 1) (by omega)),congrArg (fun z : Int=>some (SV.u (.c (I64 z)))) (w64_eq (n:=y + 1) (by omega)),congrArg (fun z : Int=>some (SV.u (.c (I64 z)))) ((w64_eq (n:=(40 : Int) - ((k + 1 : Nat) : Int) + 1) (by omega)).trans (by omega)),trivial⟩,⟨rfl,rfl,trivial⟩⟩
   have e40 : 40 - (k + 1) + 1 = 40 - k:=by omega
   rw [e40] at hgo
   exact hgo
  exact hk.elim
 exact hk.elim
end Sx
namespace Sx
open Go Go.Proofs
set_option maxRecDepth 30000
variable {G : Glob}
def cloneS : List U → Out SV
 | [.c (.d 38 (.ints l))]=>.need (l.length ≤ 68719476736) (.ret (.u (.c (.d 38 (.ints l)))))
 | _=>.fail
theorem clone_ok : Ok G 100 cloneS:=by
 refine okP noneS Tryz.func100 rfl (by decide) fun K us hk=>?_
 unfold cloneS at hk
 split at hk
 ·rename_i l
  refine ⟨by show 1 ≤ _; decide,?_⟩
  obtain ⟨hl,hk⟩:=hk
  conv=>whnf
  intro b hb
  cases b
  ·conv=>whnf
   refine ⟨by show l.length ≤ 137438953472; omega,?_⟩;conv=>whnf
   exact hk
  have : l = []:=List.length_eq_zero_iff.1 (hb rfl)
  subst this
  conv=>whnf
  exact hk
 exact hk.elim
inductive Dp : Nat → D → Prop
 | int {k : Nat} {n : Int} : Dp k (.int n)
 | bool {k : Nat} {b : Bool} : Dp k (.bool b)
 | str {k : Nat} {s : ByteArray} : Dp k (.str s)
 | ints {k : Nat} {l : List Int} : Dp k (.ints l)
 | rows {k : Nat} {l : List (List D)} (h : l.length ≤ 30000) (hd : ∀ r ∈ l,∀ d ∈ r,Dp k d) : Dp (k + 1) (.rows l)
theorem Dp.mono {k : Nat} {d : D} (h : Dp k d) : ∀ {m : Nat},k ≤ m → Dp m d:=by
 induction h with
 | int=>intro m _; exact .int
 | bool=>intro m _; exact .bool
 | str=>intro m _; exact .str
 | ints=>intro m _; exact .ints
 | rows h hd ih =>
  intro m hm
  cases m with
  | zero=>omega
  | succ m=>exact .rows h fun r hr d hd'=>ih r hr d hd' (by omega)
theorem Small.dp {d : D} (h : Small d) : ∃ k,Dp k d:=by
 induction h with
 | int=>exact ⟨0,.int⟩
 | bool=>exact ⟨0,.bool⟩
 | str=>exact ⟨0,.str⟩
 | ints=>exact ⟨0,.ints⟩
 | @rows l h hd ih =>
  have one : ∀ r : List D,(∀ d ∈ r,∃ k,Dp k d) → ∃ k,∀ d ∈ r,Dp k d:=by
   intro r
   induction r with
   | nil=>intro _; exact ⟨0,fun d hd=>by cases hd⟩
   | cons a r ih2 =>
    intro h2
    obtain ⟨k1,e1⟩:=h2 a (List.mem_cons_self ..)
    obtain ⟨k2,e2⟩:=ih2 fun d hd=>h2 d (List.mem_cons_of_mem _ hd)
    refine ⟨max k1 k2,fun d hd=>?_⟩
    rcases List.mem_cons.1 hd with rfl | hd
    ·exact e1.mono (by omega)
    exact (e2 d hd).mono (by omega)
  have all : ∀ l : List (List D),(∀ r ∈ l,∀ d ∈ r,∃ k,Dp k d) → ∃ k,∀ r ∈ l,∀ d ∈ r,Dp k d:=by
   intro l
   induction l with
   | nil=>intro _; exact ⟨0,fun r hr=>by cases hr⟩
   | cons a l ih2 =>
    intro h2
    obtain ⟨k1,e1⟩:=one a (h2 a (List.mem_cons_self ..))
    obtain ⟨k2,e2⟩:=ih2 fun r hr=>h2 r (List.mem_cons_of_mem _ hr)
    refine ⟨max k1 k2,fun r hr d hd=>?_⟩
    rcases List.mem_cons.1 hr with rfl | hr
    ·exact (e1 d hd).mono (by omega)
    exact (e2 r hr d hd).mono (by omega)
  obtain ⟨k,hk⟩:=all l ih
  exact ⟨k + 1,.rows h hk⟩
theorem Dp.sl {k : Nat} {l : List (List D)} (h : Dp k (.rows l)) : ∃ m,k = m + 1 ∧ l.length ≤ 30000 ∧ ∀ r ∈ l,∀ d ∈ r,Dp m d:=by
 cases h with
 | rows h hd=>exact ⟨_,rfl,h,hd⟩
theorem Dp.cell {k : Nat} {row : List D} (h : ∀ d ∈ row,Dp k d) {j : Nat} (hj : j < row.length) : Dp k (cellD row j):=by
 have e : cellD row j = row[j]:=by simp [cellD,List.getD,hj]
 rw [e]
 exact h _ (List.getElem_mem hj)
theorem list11 {row : List D} (h : row.length = 11) : row = [cellD row 0,cellD row 1,cellD row 2,cellD row 3,cellD row 4,cellD row 5,cellD row 6,cellD row 7,cellD row 8,cellD row 9,cellD row 10]:=by
 match row,h with
 | [a,b,c,d,e,f,g,i,j,k,l],_=>rfl
theorem list8 {row : List D} (h : row.length = 8) : row = [cellD row 0,cellD row 1,cellD row 2,cellD row 3,cellD row 4,cellD row 5,cellD row 6,cellD row 7]:=by
 match row,h with
 | [a,b,c,d,e,f,g,i],_=>rfl
theorem list7 {row : List D} (h : row.length = 7) : row = [cellD row 0,cellD row 1,cellD row 2,cellD row 3,cellD row 4,cellD row 5,cellD row 6]:=by
 match row,h with
 | [a,b,c,d,e,f,g],_=>rfl
theorem Typ.eInt {T : Tab} {k : IntKind} {d : D} (h : Typ T (.int k) d) : .int d.toInt = d:=by cases h; rfl
theorem Typ.eBool {T : Tab} {d : D} (h : Typ T .bool d) : .bool d.toBool = d:=by cases h; rfl
theorem Typ.eStr {T : Tab} {d : D} (h : Typ T .str d) : .str d.toStr = d:=by cases h; rfl
end Sx
namespace Sx
open Go Go.Proofs
set_option maxRecDepth 30000
variable {G : Glob}
def VGood (k : Nat) (x m : D) : Prop:=Typ TB (.sl 161) x ∧ Dp k x ∧ Typ TB (.sl 30) m ∧ Dp k m
def valS (k : Nat) : List U → Out SV
 | [.a [.v (.int .i64 kd),.v (.string s),.v (.bool b),.v (.int .u64 n),.d 161 x,.d 30 m,.v (.string i),.v (.string u)]]=>.need (VGood k x m) (agg [I64 kd,St s,Bo b,U64 n,.d 161 x,.d 30 m,St i,St u])
 | _=>.fail
def keyS (k : Nat) : List U → Out SV
 | [.a [.v (.string ky),.v (.bool h),.v (.int .i64 kd),.v (.string s),.v (.bool b),.v (.int .u64 n),.d 161 x,.d 30 m,.v (.string i),.v (.string u),.v (.string w)]]=>.need (VGood k x m) (agg [St ky,Bo h,I64 kd,St s,Bo b,U64 n,.d 161 x,.d 30 m,St i,St u,St w])
 | _=>.fail
def eachVS (k : Nat) : List U → Out SV
 | [.c (.d 161 x),.c (.v (.func (.func 171) p q))]=>bif p.isEmpty && q.isEmpty then .need (Typ TB (.sl 161) x ∧ Dp k x) (.ret (.u (.c (.d 161 x)))) else .fail
 | _=>.fail
theorem eachV_ok (k : Nat) (hF : ∀ m,k = m + 1 → Ok G 171 (valS m)) : Ok G 186 (eachVS k):=by
 cases k with
 | zero =>
  refine okP noneS Tryz.func186 rfl (by decide) fun K us hk=>?_
  unfold eachVS at hk
  split at hk
  ·obtain ⟨_,⟨h1,h2⟩,_⟩:=wp_cond_fail hk
   obtain ⟨l,rfl,_⟩:=h1.sl rfl
   obtain ⟨m,h,_⟩:=h2.sl
   cases h
  exact hk.elim
 | succ m =>
  have hS : AllSound (B [(171,.pure (normG (B []) [163] (valS m)))]) G:=.cons _ (hF m rfl) noneS
  refine okP hS Tryz.func186 rfl (by decide) fun K us hk=>?_
  unfold eachVS at hk
  split at hk
  ·rename_i x p q
   refine ⟨by show 2 ≤ _; decide,?_⟩
   obtain ⟨hpq,⟨hT,hDp⟩,hk2⟩:=wp_cond_fail hk
   simp only [Bool.and_eq_true,Array.isEmpty_iff] at hpq
   obtain ⟨rfl,rfl⟩:=hpq
   obtain ⟨l,rfl,hl,hrow⟩:=hT.sl rfl
   obtain ⟨m',hm',hlen,hdp⟩:=hDp.sl
   obtain rfl : m = m':=by omega
   conv=>whnf
   refine ⟨[(5,19,161)],_,_,rfl,Nat,(fun i=>([(1,.u (.c (.v (.func (.func 171) #[] #[])))),(5,.u (.c (.r 19 161))),(8,.u (.c (.d 161 (.rows l)))),(9,.u (.c (I64 (l.length : Nat)))),(10,.u (.c (I64 (i : Nat))))],[(19,.row 161 (.rows (l.take i)))])),
    (fun i=>i ≤ l.length),(fun i=>l.length - i),fun x _=>rfl,⟨0,Nat.zero_le _,⟨rfl,rfl,rfl,rfl,rfl,trivial⟩,⟨rfl,trivial⟩⟩,?_⟩
   intro i hi0;conv=>whnf
   refine Ask.i (fun c1=>?_) (fun c1=>?_)
   ·have c1 : (i : Int) < ((l.length : Nat) : Int):=of_decide_eq_true c1
    have hi : i < l.length:=by omega
    have hR:=hrow _ (getD_mem (a:=[]) hi)
    have hD:=hdp _ (getD_mem (a:=[]) hi)
    have hl8 : (l.getD i []).length = 8:=hR.1
    conv=>whnf
    refine ⟨⟨by omega,c1⟩,?_⟩;conv=>whnf
    refine ⟨⟨hR.2 4 _ rfl,Dp.cell hD (by rw [hl8]; decide),hR.2 5 _ rfl,Dp.cell hD (by rw [hl8]; decide)⟩,?_⟩;conv=>whnf
    refine ⟨by show (l.take i).length + 1 ≤ 137438953472; simp; omega,?_⟩;conv=>whnf
    have e : l.take i ++ [[.int (cellD (l.getD i []) 0).toInt,.str (cellD (l.getD i []) 1).toStr,.bool (cellD (l.getD i []) 2).toBool,.int (cellD (l.getD i []) 3).toInt,cellD (l.getD i []) 4,cellD (l.getD i []) 5,.str (cellD (l.getD i []) 6).toStr,.str (cellD (l.getD i []) 7).toStr]] = l.take (i + 1):=by
     rw [List.take_succ_eq_append_getElem hi,← getD_get (a:=[]) hi]
     refine congrArg (fun z=>l.take i ++ [z]) ?_
     rw [(hR.2 0 _ rfl).eInt,(hR.2 1 _ rfl).eStr,(hR.2 2 _ rfl).eBool,(hR.2 3 _ rfl).eInt,(hR.2 6 _ rfl).eStr,(hR.2 7 _ rfl).eStr]
     exact (list8 hl8).symm
    refine ⟨i + 1,hi,by show l.length - (i + 1) < l.length - i; omega,⟨rfl,rfl,rfl,rfl,congrArg (fun z : Int=>some (SV.u (.c (I64 z)))) (w64_eq (n:=(i : Int) + 1) (by omega)),trivial⟩,⟨congrArg (fun z=>some (Blk.row 161 (.rows z))) e,trivial⟩⟩
   have c1 : ¬ (i : Int) < ((l.length : Nat) : Int):=of_decide_eq_false c1
   have hi : i = l.length:=by omega
   conv=>whnf
   refine fin hk2 ?_
   exact congrArg (fun z=>SV.u (.c (.d 161 (.rows z)))) (by rw [hi,List.take_length] : l = l.take i)
  exact hk.elim
def eachKS (k : Nat) : List U → Out SV
 | [.c (.d 30 x),.c (.v (.func (.func 138) p q))]=>bif p.isEmpty && q.isEmpty then .need (Typ TB (.sl 30) x ∧ Dp k x) (.ret (.u (.c (.d 30 x)))) else .fail
 | _=>.fail
theorem eachK_ok (k : Nat) (hF : ∀ m,k = m + 1 → Ok G 138 (keyS m)) : Ok G 137 (eachKS k):=by
 cases k with
 | zero =>
  refine okP noneS Tryz.func137 rfl (by decide) fun K us hk=>?_
  unfold eachKS at hk
  split at hk
  ·obtain ⟨_,⟨h1,h2⟩,_⟩:=wp_cond_fail hk
   obtain ⟨l,rfl,_⟩:=h1.sl rfl
   obtain ⟨m,h,_⟩:=h2.sl
   cases h
  exact hk.elim
 | succ m =>
  have hS : AllSound (B [(138,.pure (normG (B []) [165] (keyS m)))]) G:=.cons _ (hF m rfl) noneS
  refine okP hS Tryz.func137 rfl (by decide) fun K us hk=>?_
  unfold eachKS at hk
  split at hk
  ·rename_i x p q
   refine ⟨by show 2 ≤ _; decide,?_⟩
   obtain ⟨hpq,⟨hT,hDp⟩,hk2⟩:=wp_cond_fail hk
   simp only [Bool.and_eq_true,Array.isEmpty_iff] at hpq
   obtain ⟨rfl,rfl⟩:=hpq
   obtain ⟨l,rfl,hl,hrow⟩:=hT.sl rfl
   obtain ⟨m',hm',hlen,hdp⟩:=hDp.sl
   obtain rfl : m = m':=by omega
   conv=>whnf
   refine ⟨[(5,19,30)],_,_,rfl,Nat,(fun i=>([(1,.u (.c (.v (.func (.func 138) #[] #[])))),(5,.u (.c (.r 19 30))),(8,.u (.c (.d 30 (.rows l)))),(9,.u (.c (I64 (l.length : Nat)))),(10,.u (.c (I64 (i : Nat))))],[(19,.row 30 (.rows (l.take i)))])),
    (fun i=>i ≤ l.length),(fun i=>l.length - i),fun x _=>rfl,⟨0,Nat.zero_le _,⟨rfl,rfl,rfl,rfl,rfl,trivial⟩,⟨rfl,trivial⟩⟩,?_⟩
   intro i hi0;conv=>whnf
   refine Ask.i (fun c1=>?_) (fun c1=>?_)
   ·have c1 : (i : Int) < ((l.length : Nat) : Int):=of_decide_eq_true c1
    have hi : i < l.length:=by omega
    have hR:=hrow _ (getD_mem (a:=[]) hi)
    have hD:=hdp _ (getD_mem (a:=[]) hi)
    have hl8 : (l.getD i []).length = 11:=hR.1
    conv=>whnf
    refine ⟨⟨by omega,c1⟩,?_⟩;conv=>whnf
    refine ⟨⟨hR.2 6 _ rfl,Dp.cell hD (by rw [hl8]; decide),hR.2 7 _ rfl,Dp.cell hD (by rw [hl8]; decide)⟩,?_⟩;conv=>whnf
    refine ⟨by show (l.take i).length + 1 ≤ 137438953472; simp; omega,?_⟩;conv=>whnf
    have e : l.take i ++ [[.str (cellD (l.getD i []) 0).toStr,.bool (cellD (l.getD i []) 1).toBool,.int (cellD (l.getD i []) 2).toInt,.str (cellD (l.getD i []) 3).toStr,.bool (cellD (l.getD i []) 4).toBool,.int (cellD (l.getD i []) 5).toInt,cellD (l.getD i []) 6,cellD (l.getD i []) 7,.str (cellD (l.getD i []) 8).toStr,.str (cellD (l.getD i []) 9).toStr,.str (cellD (l.getD i []) 10).toStr]] = l.take (i + 1):=by
     rw [List.take_succ_eq_append_getElem hi,← getD_get (a:=[]) hi]
     refine congrArg (fun z=>l.take i ++ [z]) ?_
     rw [(hR.2 0 _ rfl).eStr,(hR.2 1 _ rfl).eBool,(hR.2 2 _ rfl).eInt,(hR.2 3 _ rfl).eStr,(hR.2 4 _ rfl).eBool,(hR.2 5 _ rfl).eInt,(hR.2 8 _ rfl).eStr,(hR.2 9 _ rfl).eStr,(hR.2 10 _ rfl).eStr]
     exact (list11 hl8).symm
    refine ⟨i + 1,hi,by show l.length - (i + 1) < l.length - i; omega,⟨rfl,rfl,rfl,rfl,congrArg (fun z : Int=>some (SV.u (.c (I64 z)))) (w64_eq (n:=(i : Int) + 1) (by omega)),trivial⟩,⟨congrArg (fun z=>some (Blk.row 30 (.rows z))) e,trivial⟩⟩
   have c1 : ¬ (i : Int) < ((l.length : Nat) : Int):=of_decide_eq_false c1
   have hi : i = l.length:=by omega
   conv=>whnf
   refine fin hk2 ?_
   exact congrArg (fun z=>SV.u (.c (.d 30 (.rows z)))) (by rw [hi,List.take_length] : l = l.take i)
  exact hk.elim
end Sx
namespace Sx
open Go Go.Proofs
set_option maxRecDepth 30000
variable {G : Glob}
def keysS (k : Nat) : List U → Out SV
 | [.c (.d 30 x)]=>.need (Typ TB (.sl 30) x ∧ Dp k x) (.ret (.u (.c (.d 30 x))))
 | _=>.fail
theorem key_ok {k : Nat} (hV : Ok G 171 (valS k)) : Ok G 138 (keyS k):=by
 have hS : AllSound (B [(171,.pure (normG (B []) [163] (valS k)))]) G:=.cons _ hV noneS
 refine okP hS Tryz.func138 rfl (by decide) fun K us hk=>?_
 unfold keyS at hk
 split at hk
 ·rename_i ky h kd s b n x m i u w
  refine ⟨by show 1 ≤ _; decide,?_⟩
  obtain ⟨hg,hk⟩:=hk
  conv=>whnf
  refine ⟨hg,?_⟩;conv=>whnf
  exact hk
 exact hk.elim
theorem keys_ok {k : Nat} (hE : Ok G 137 (eachKS k)) : Ok G 97 (keysS k):=by
 have hS : AllSound (B [(137,.pure (normG (B []) [30,226] (eachKS k)))]) G:=.cons _ hE noneS
 refine okP hS Tryz.func97 rfl (by decide) fun K us hk=>?_
 unfold keysS at hk
 split at hk
 ·rename_i x
  refine ⟨by show 1 ≤ _; decide,?_⟩
  obtain ⟨hg,hk⟩:=hk
  conv=>whnf
  refine ⟨hg,?_⟩;conv=>whnf
  exact hk
 exact hk.elim
theorem val_ok {k : Nat} (hE : Ok G 186 (eachVS k)) (hK : Ok G 97 (keysS k)) : Ok G 171 (valS k):=by
 have hS : AllSound (B [(186,.pure (normG (B []) [161,252] (eachVS k))),(97,.pure (normG (B []) [30] (keysS k)))]) G:=.cons _ hE (.cons _ hK noneS)
 refine okP hS Tryz.func171 rfl (by decide) fun K us hk=>?_
 unfold valS at hk
 split at hk
 ·rename_i kd s b n x m i u
  refine ⟨by show 1 ≤ _; decide,?_⟩
  obtain ⟨⟨h1,h2,h3,h4⟩,hk⟩:=hk
  conv=>whnf
  refine ⟨mixed,[(7,[1]),(9,[1])],[(1,[]),(2,[1]),(4,[]),(5,[1])],[],by kernel_rfl,?_⟩;conv=>whnf
  refine ⟨⟨h1,h2⟩,?_⟩;conv=>whnf
  refine ⟨⟨h3,h4⟩,?_⟩;conv=>whnf
  exact hk
 exact hk.elim
theorem val_all : ∀ k : Nat,Ok G 171 (valS k)
 | 0=>val_ok (eachV_ok 0 fun m h=>by omega) (keys_ok (eachK_ok 0 fun m h=>by omega))
 | k + 1=>val_ok (eachV_ok (k + 1) fun m h=>by cases h; exact val_all k) (keys_ok (eachK_ok (k + 1) fun m h=>by cases h; exact key_ok (val_all k)))
theorem keys_all (k : Nat) : Ok G 97 (keysS k):=keys_ok (eachK_ok k fun m h=>key_ok (val_all m))
end Sx
namespace Sx
open Go Go.Proofs
set_option maxRecDepth 30000
variable {G : Glob}
def exS (k : Nat) : List U → Out SV
 | [.a [.d 30 m,.v (.int .u64 t),.v (.int .i64 kd),.v (.int .u64 n),.v (.string s),.v (.string tr),.v (.string u)]]=>.need (Typ TB (.sl 30) m ∧ Dp k m) (agg [.d 30 m,U64 t,I64 kd,U64 n,St s,St tr,St u])
 | _=>.fail
theorem ex_ok {k : Nat} : Ok G 99 (exS k):=by
 have hS : AllSound (B [(97,.pure (normG (B []) [30] (keysS k)))]) G:=.cons _ (keys_all k) noneS
 refine okP hS Tryz.func99 rfl (by decide) fun K us hk=>?_
 unfold exS at hk
 split at hk
 ·rename_i m t kd n s tr u
  refine ⟨by show 1 ≤ _; decide,?_⟩
  obtain ⟨hg,hk⟩:=hk
  conv=>whnf
  refine ⟨hg,?_⟩;conv=>whnf
  exact hk
 exact hk.elim
def eachXS (k : Nat) : List U → Out SV
 | [.c (.d 32 x),.c (.v (.func (.func 99) p q))]=>bif p.isEmpty && q.isEmpty then .need (Typ TB (.sl 32) x ∧ Dp k x) (.ret (.u (.c (.d 32 x)))) else .fail
 | _=>.fail
theorem eachX_ok (k : Nat) (hF : ∀ m,k = m + 1 → Ok G 99 (exS m)) : Ok G 98 (eachXS k):=by
 cases k with
 | zero =>
  refine okP noneS Tryz.func98 rfl (by decide) fun K us hk=>?_
  unfold eachXS at hk
  split at hk
  ·obtain ⟨_,⟨h1,h2⟩,_⟩:=wp_cond_fail hk
   obtain ⟨l,rfl,_⟩:=h1.sl rfl
   obtain ⟨m,h,_⟩:=h2.sl
   cases h
  exact hk.elim
 | succ m =>
  have hS : AllSound (B [(99,.pure (normG (B []) [160] (exS m)))]) G:=.cons _ (hF m rfl) noneS
  refine okP hS Tryz.func98 rfl (by decide) fun K us hk=>?_
  unfold eachXS at hk
  split at hk
  ·rename_i x p q
   refine ⟨by show 2 ≤ _; decide,?_⟩
   obtain ⟨hpq,⟨hT,hDp⟩,hk2⟩:=wp_cond_fail hk
   simp only [Bool.and_eq_true,Array.isEmpty_iff] at hpq
   obtain ⟨rfl,rfl⟩:=hpq
   obtain ⟨l,rfl,hl,hrow⟩:=hT.sl rfl
   obtain ⟨m',hm',hlen,hdp⟩:=hDp.sl
   obtain rfl : m = m':=by omega
   conv=>whnf
   refine ⟨[(5,19,32)],_,_,rfl,Nat,(fun i=>([(1,.u (.c (.v (.func (.func 99) #[] #[])))),(5,.u (.c (.r 19 32))),(8,.u (.c (.d 32 (.rows l)))),(9,.u (.c (I64 (l.length : Nat)))),(10,.u (.c (I64 (i : Nat))))],[(19,.row 32 (.rows (l.take i)))])),
    (fun i=>i ≤ l.length),(fun i=>l.length - i),fun x _=>rfl,⟨0,Nat.zero_le _,⟨rfl,rfl,rfl,rfl,rfl,trivial⟩,⟨rfl,trivial⟩⟩,?_⟩
   intro i hi0;conv=>whnf
   refine Ask.i (fun c1=>?_) (fun c1=>?_)
   ·have c1 : (i : Int) < ((l.length : Nat) : Int):=of_decide_eq_true c1
    have hi : i < l.length:=by omega
    have hR:=hrow _ (getD_mem (a:=[]) hi)
    have hD:=hdp _ (getD_mem (a:=[]) hi)
    have hl8 : (l.getD i []).length = 7:=hR.1
    conv=>whnf
    refine ⟨⟨by omega,c1⟩,?_⟩;conv=>whnf
    refine ⟨⟨hR.2 0 _ rfl,Dp.cell hD (by rw [hl8]; decide)⟩,?_⟩;conv=>whnf
    refine ⟨by show (l.take i).length + 1 ≤ 137438953472; simp; omega,?_⟩;conv=>whnf
    have e : l.take i ++ [[cellD (l.getD i []) 0,.int (cellD (l.getD i []) 1).toInt,.int (cellD (l.getD i []) 2).toInt,.int (cellD (l.getD i []) 3).toInt,.str (cellD (l.getD i []) 4).toStr,.str (cellD (l.getD i []) 5).toStr,.str (cellD (l.getD i []) 6).toStr]] = l.take (i + 1):=by
     rw [List.take_succ_eq_append_getElem hi,← getD_get (a:=[]) hi]
     refine congrArg (fun z=>l.take i ++ [z]) ?_
     rw [(hR.2 1 _ rfl).eInt,(hR.2 2 _ rfl).eInt,(hR.2 3 _ rfl).eInt,(hR.2 4 _ rfl).eStr,(hR.2 5 _ rfl).eStr,(hR.2 6 _ rfl).eStr]
     exact (list7 hl8).symm
    refine ⟨i + 1,hi,by show l.length - (i + 1) < l.length - i; omega,⟨rfl,rfl,rfl,rfl,congrArg (fun z : Int=>some (SV.u (.c (I64 z)))) (w64_eq (n:=(i : Int) + 1) (by omega)),trivial⟩,⟨congrArg (fun z=>some (Blk.row 32 (.rows z))) e,trivial⟩⟩
   have c1 : ¬ (i : Int) < ((l.length : Nat) : Int):=of_decide_eq_false c1
   have hi : i = l.length:=by omega
   conv=>whnf
   refine fin hk2 ?_
   exact congrArg (fun z=>SV.u (.c (.d 32 (.rows z)))) (by rw [hi,List.take_length] : l = l.take i)
  exact hk.elim
def twS (k : Nat) : List U → Out SV
 | [.a l]=>match asExp l with
  | some e=>.need (Typ TB (.sl 30) e.attrs ∧ Dp k e.attrs ∧ Typ TB (.sl 32) e.ex ∧ Dp k e.ex ∧ e.cP.length ≤ 3750 ∧ e.cN.length ≤ 3750) (agg e.cells)
  | none=>.fail
 | _=>.fail
theorem twExp_ok {k : Nat} : Ok G 64 (twS k):=by
 have hS : AllSound (B [(97,.pure (normG (B []) [30] (keysS k))),(98,.pure (normG (B []) [32,176] (eachXS k))),(100,.pure (normG (B []) [38] cloneS))]) G:=.cons _ (keys_all k) (.cons _ (eachX_ok k fun m _=>ex_ok) (.cons _ clone_ok noneS))
 refine okP hS Tryz.func64 rfl (by decide) fun K us hk=>?_
 unfold twS at hk
 split at hk
 ·rename_i l
  split at hk
  ·rename_i e he
   rw [asExp_eq he]
   refine ⟨by show 1 ≤ _; decide,?_⟩
   obtain ⟨⟨h1,h2,h3,h4,h5,h6⟩,hk⟩:=hk
   conv=>whnf
   refine ⟨mixed,[(7,[1]),(9,[1])],[(1,[]),(2,[]),(4,[]),(5,[])],[],by kernel_rfl,?_⟩;conv=>whnf
   refine ⟨⟨h1,h2⟩,?_⟩;conv=>whnf
   refine ⟨⟨h3,h4⟩,?_⟩;conv=>whnf
   refine ⟨mixed,[(10,[1]),(13,[1])],[(2,[]),(3,[]),(6,[]),(7,[])],[],by kernel_rfl,?_⟩;conv=>whnf
   refine ⟨by show e.cP.length ≤ 68719476736; omega,?_⟩;conv=>whnf
   refine ⟨by show e.cN.length ≤ 68719476736; omega,?_⟩;conv=>whnf
   exact hk
  exact hk.elim
 exact hk.elim
end Sx
namespace Sx
open Go Go.Proofs
set_option maxRecDepth 30000
variable {G : Glob}
def bigS (f : Int) (l : List Int) : Bool:=decide ((trim f l).1 > 2147483647)
def ExpD.lay (e : ExpD) (p n : Int × List Int) : ExpD:={ e with offP:=w32 p.1,cP:=p.2,unkP:=nos,offN:=w32 n.1,cN:=n.2,unkN:=nos }
def laysS : List U → List Blk → Out RF
 | [.c (.p 50000 0),.c (.p 50001 0),.a [.v (.int .i64 f),.d 38 (.ints l)],.a [.v (.int .i64 g),.d 38 (.ints m)]],[.cells 181 [.v (.bool bad)],.cells 44 xc]=>match asExp xc with
  | some e=>.need (l.length ≤ 68719476736 ∧ m.length ≤ 68719476736) (wp1 (bad || (bigS f l || bigS g m)) fun c =>
   bif c then .ret (.u (.c (errV 9)),[some (.cells 181 [Bo bad]),some (.cells 44 e.cells)],[]) else .ret (.u (.c nilV),[some (.cells 181 [Bo bad]),some (.cells 44 (e.lay (trim f l) (trim g m)).cells)],[]))
  | none=>.fail
 | _,_=>.fail
theorem lays_ok : OkF G 102 laysS:=by
 have hS : AllSound (B [(140,.pure (normG (B []) [185] bucketsS)),(112,.full (normF (B []) [228] errS))]) G:=.cons _ buckets_ok (.consF _ err_ok noneS)
 refine okF false hS Tryz.func102 rfl (by decide) fun K us lent hk=>?_
 unfold laysS at hk
 split at hk
 ·rename_i f l g m bad xc
  split at hk
  ·rename_i e he
   rw [asExp_eq he]
   refine ⟨by show 4 ≤ _; decide,?_⟩
   obtain ⟨⟨h1,h2⟩,hk⟩:=hk
   have hk:=hk _ rfl
   have err : (bad || (bigS f l || bigS g m)) = true → K (.u (.c (errV 9)),[some (.cells 181 [Bo bad]),some (.cells 44 e.cells)],[]):=fun h=>by rw [h] at hk; exact hk
   conv=>whnf
   refine ⟨h1,?_⟩;conv=>whnf
   intro c1 hc1
   have hc1 : bigS f l = c1:=hc1
   cases c1
   ·conv=>whnf
    refine ⟨h2,?_⟩;conv=>whnf
    intro c2 hc2
    have hc2 : bigS g m = c2:=hc2
    cases c2
    ·conv=>whnf
     intro c3 hc3
     subst hc3
     cases bad
     ·rw [hc1,hc2] at hk
      conv=>whnf
      refine ⟨mixed,[(6,[50001]),(9,[50001])],[],[],by kernel_rfl,?_⟩;conv=>whnf
      exact hk
     conv=>whnf
     intro c4 hc4
     subst hc4
     conv=>whnf
     exact err rfl
    conv=>whnf
    intro c3 hc3
    subst hc3
    cases bad
    ·conv=>whnf
     exact err (by rw [hc1,hc2]; rfl)
    conv=>whnf
    intro c4 hc4
    subst hc4
    conv=>whnf
    exact err rfl
   conv=>whnf
   refine ⟨h2,?_⟩;conv=>whnf
   intro c2 hc2
   cases c2
   ·conv=>whnf
    intro c3 hc3
    subst hc3
    cases bad
    ·conv=>whnf
     exact err (by rw [hc1]; rfl)
    conv=>whnf
    intro c4 hc4
    subst hc4
    conv=>whnf
    exact err rfl
   conv=>whnf
   intro c3 hc3
   subst hc3
   cases bad
   ·conv=>whnf
    exact err (by rw [hc1]; rfl)
   conv=>whnf
   intro c4 hc4
   subst hc4
   conv=>whnf
   exact err rfl
  exact hk.elim
 exact hk.elim
end Sx
namespace Sx
open Go Go.Proofs
set_option maxRecDepth 30000
variable {G : Glob}
def noE (s : Int) : ExpD:=⟨.rows [],0,0,0,false,0,false,0,false,0,s,0,false,0,[],nos,false,0,[],nos,.rows [],0,0,nos⟩
def rawP (e : ExpD) (n : Nat) (bad : Bool) : Int × List Int × Bool:=downL (bif e.hasP then w64 e.offP else 0) (bif e.hasP then e.cP else []) n bad
def rawN (e : ExpD) (n : Nat) (bad : Bool) : Int × List Int × Bool:=downL (bif e.hasN then w64 e.offN else 0) (bif e.hasN then e.cN else []) n bad
def fitBad (e : ExpD) (n : Nat) : Bool:=(rawN e n (rawP e n false).2.2).2.2 || (bigS (rawP e n false).1 (rawP e n false).2.1 || bigS (rawN e n (rawP e n false).2.2).1 (rawN e n (rawP e n false).2.2).2.1)
def fitE (e : ExpD) (n : Nat) (s : Int) : ExpD:=({ e with scale:=w32 s }).lay (trim (rawP e n false).1 (rawP e n false).2.1) (trim (rawN e n (rawP e n false).2.2).1 (rawN e n (rawP e n false).2.2).2.1)
def fitS (k : Nat) : List U → Out SV
 | [.a l,.c (.v (.int .i64 most))]=>match asExp l with
  | some e=>.need (Fits e ∧ Typ TB (.sl 30) e.attrs ∧ Dp k e.attrs ∧ Typ TB (.sl 32) e.ex ∧ Dp k e.ex) (.all (Option (Int × Int × Int)) (fun o=>shV e (noE e.scale) most = o) ⟨_,rfl⟩ fun o=>match o with
   | none=>.ret (.t [.a (noE 0).cells,.c (errV 9)])
   | some r=>.need (0 ≤ r.1 ∧ r.1 ≤ 31) (wp1 (fitBad e r.1.toNat) fun c=>bif c then .ret (.t [.a (noE 0).cells,.c (errV 9)]) else .ret (.t [.a (fitE e r.1.toNat r.2.2).cells,.c nilV])))
  | none=>.fail
 | _=>.fail
theorem fit_ok {k : Nat} : Ok G 65 (fitS k):=by
 have hS : AllSound (B [(101,.pure (normG (B []) [44,44,3] shiftsS)),(64,.pure (normG (B []) [44] (twS k))),(104,.pure (normG (B []) [4,42] sideOfS)),(103,.full (normF (B []) [228,185,3] downS)),(102,.full (normF (B []) [228,183,185,185] laysS))]) G :=
  .cons _ shifts_ok (.cons _ twExp_ok (.cons _ sideOf_ok (.consF _ down_ok (.consF _ lays_ok noneS))))
 refine okP hS Tryz.func65 rfl (by decide) fun K us hk=>?_
 unfold fitS at hk
 split at hk
 ·rename_i l most
  split at hk
  ·rename_i e he
   rw [asExp_eq he]
   refine ⟨by show 2 ≤ _; decide,?_⟩
   obtain ⟨⟨hF,h1,h2,h3,h4⟩,hk⟩:=hk
   have hk:=hk _ rfl
   conv=>whnf
   refine ⟨⟨hF,by show Fits (noE e.scale); exact ⟨by simp [noE],by simp [noE],by simp [noE],by simp [noE],by simp [noE],by simp [noE],hF.2.2.2.2.2.2⟩⟩,?_⟩;conv=>whnf
   intro o ho
   have ho : shV e (noE e.scale) most = o:=ho
   rw [ho] at hk
   cases o with
   | none =>
    conv=>whnf
    exact hk
   | some r =>
    obtain ⟨⟨hr1,hr2⟩,hk⟩:=hk
    have hk:=hk _ rfl
    have oP : -1099511627776 ≤ (bif e.hasP then w64 e.offP else 0) ∧ (bif e.hasP then w64 e.offP else 0) ≤ 1099511627776:=by
     obtain ⟨_,_,q1,q2,_⟩:=hF
     cases e.hasP
     ·exact ⟨by simp,by simp⟩
     show -1099511627776 ≤ w64 e.offP ∧ w64 e.offP ≤ 1099511627776
     rw [w64_eq (by omega)]; omega
    have oN : -1099511627776 ≤ (bif e.hasN then w64 e.offN else 0) ∧ (bif e.hasN then w64 e.offN else 0) ≤ 1099511627776:=by
     obtain ⟨_,_,_,_,q1,q2,_⟩:=hF
     cases e.hasN
     ·exact ⟨by simp,by simp⟩
     show -1099511627776 ≤ w64 e.offN ∧ w64 e.offN ≤ 1099511627776
     rw [w64_eq (by omega)]; omega
    have lP:=Nat.le_trans (side_len e.hasP e.cP) hF.1
    have lN:=Nat.le_trans (side_len e.hasN e.cN) hF.2.1
    conv=>whnf
    refine ⟨⟨h1,h2,h3,h4,hF.1,hF.2.1⟩,?_⟩;conv=>whnf
    refine ⟨mixed,[(6,[10]),(13,[10]),(14,[10,11])],[],[],by kernel_rfl,?_⟩;conv=>whnf
    refine ⟨⟨Nat.le_trans lP (by decide),oP.1,oP.2,hr1,hr2⟩,?_⟩;conv=>whnf
    refine ⟨⟨Nat.le_trans lN (by decide),oN.1,oN.2,hr1,hr2⟩,?_⟩;conv=>whnf
    refine ⟨⟨Nat.le_trans (downL_len _ _ _ _) (Nat.le_trans lP (by decide)),Nat.le_trans (downL_len _ _ _ _) (Nat.le_trans lN (by decide))⟩,?_⟩;conv=>whnf
    intro c hc
    have hc : fitBad e r.1.toNat = c:=hc
    rw [hc] at hk
    cases c
    ·conv=>whnf
     exact hk
    conv=>whnf
    exact hk
  exact hk.elim
 exact hk.elim
end Sx
namespace Sx
open Go Go.Proofs
set_option maxRecDepth 30000
variable {G : Glob}
def bufEqS : List U → Out SV
 | [.a [.v (.int .i32 f),.d 38 (.ints l),.v (.string s)],.a [.v (.int .i32 g),.d 38 (.ints m),.v (.string t)]]=>.need (l.length ≤ 68719476736 ∧ f = g ∧ l = m ∧ s = t) (one (Bo true))
 | _=>.fail
noncomputable def u1s : List (FuncId × Spec):=[(72,.pure (normG (B []) [38,38] numsS))]
theorem u1s_ok : AllSound (B u1s) G:=.cons _ nums_ok noneS
theorem bufEq_ok : Ok G 73 bufEqS:=by
 refine okP u1s_ok Tryz.func73 rfl (by decide) fun K us hk=>?_
 unfold bufEqS at hk
 split at hk
 ·rename_i f l s g m t
  refine ⟨by show 2 ≤ _; decide,?_⟩
  obtain ⟨⟨h1,rfl,rfl,rfl⟩,hk⟩:=hk
  conv=>whnf
  refine Ask.i (fun c1=>?_) (fun c1=>?_)
  ·conv=>whnf
   refine ⟨⟨h1,h1⟩,?_⟩;conv=>whnf
   refine Ask.i (fun c2=>?_) (fun c2=>?_)
   ·conv=>whnf
    refine fin hk ?_
    have e : (s.toList == s.toList) = true:=by simp
    exact congrArg (fun z=>SV.u (.c (Bo z))) e.symm
   have c2 : decide (l = l) = false:=c2
   simp at c2
  have c1 : (f == f) = false:=c1
  simp at c1
 exact hk.elim
end Sx
namespace Sx
open Go Go.Proofs
set_option maxRecDepth 30000
variable {G : Glob}
def valEqS (k : Nat) : List U → Out SV
 | [.a [.v (.int .i64 kd),.v (.string s),.v (.bool b),.v (.int .u64 n),.d 161 x,.d 30 m,.v (.string i),.v (.string u)],.a [.v (.int .i64 kd'),.v (.string s'),.v (.bool b'),.v (.int .u64 n'),.d 161 x',.d 30 m',.v (.string i'),.v (.string u')]] =>
  .need (VGood k x m ∧ kd = kd' ∧ s = s' ∧ b = b' ∧ n = n' ∧ x = x' ∧ m = m' ∧ i = i' ∧ u = u') (one (Bo true))
 | _=>.fail
def keyEqS (k : Nat) : List U → Out SV
 | [.a [.v (.string ky),.v (.bool h),.v (.int .i64 kd),.v (.string s),.v (.bool b),.v (.int .u64 n),.d 161 x,.d 30 m,.v (.string i),.v (.string u),.v (.string w)],.a [.v (.string ky'),.v (.bool h'),.v (.int .i64 kd'),.v (.string s'),.v (.bool b'),.v (.int .u64 n'),.d 161 x',.d 30 m',.v (.string i'),.v (.string u'),.v (.string w')]] =>
  .need (VGood k x m ∧ ky = ky' ∧ h = h' ∧ kd = kd' ∧ s = s' ∧ b = b' ∧ n = n' ∧ x = x' ∧ m = m' ∧ i = i' ∧ u = u' ∧ w = w') (one (Bo true))
 | _=>.fail
def keysEqS (k : Nat) : List U → Out SV
 | [.c (.d 30 x),.c (.d 30 y)]=>.need (Typ TB (.sl 30) x ∧ Dp k x ∧ x = y) (one (Bo true))
 | _=>.fail
theorem keyEq_ok {k : Nat} (hV : Ok G 148 (valEqS k)) : Ok G 115 (keyEqS k):=by
 have hS : AllSound (B [(148,.pure (normG (B []) [163,163] (valEqS k)))]) G:=.cons _ hV noneS
 refine okP hS Tryz.func115 rfl (by decide) fun K us hk=>?_
 unfold keyEqS at hk
 split at hk
 ·rename_i ky h kd s b n x m i u w ky' h' kd' s' b' n' x' m' i' u' w'
  refine ⟨by show 2 ≤ _; decide,?_⟩
  obtain ⟨⟨hg,rfl,rfl,rfl,rfl,rfl,rfl,rfl,rfl,rfl,rfl,rfl⟩,hk⟩:=hk
  conv=>whnf
  refine Ask.i (fun c1=>?_) (fun c1=>?_)
  ·conv=>whnf
   refine Ask.i (fun c2=>?_) (fun c2=>?_)
   ·conv=>whnf
    refine Ask.i (fun c3=>?_) (fun c3=>?_)
    ·conv=>whnf
     refine ⟨⟨hg,rfl,rfl,rfl,rfl,rfl,rfl,rfl,rfl⟩,?_⟩;conv=>whnf
     exact hk
    have c3 : (w.toList == w.toList) = false:=c3
    simp at c3
   have c2 : (h == h) = false:=c2
   simp at c2
  have c1 : (ky.toList == ky.toList) = false:=c1
  simp at c1
 exact hk.elim
theorem keysEq_ok (k : Nat) (hK : ∀ m,k = m + 1 → Ok G 115 (keyEqS m)) : Ok G 69 (keysEqS k):=by
 cases k with
 | zero =>
  refine okP noneS Tryz.func69 rfl (by decide) fun K us hk=>?_
  unfold keysEqS at hk
  split at hk
  ·obtain ⟨⟨h1,h2,_⟩,_⟩:=hk
   obtain ⟨l,rfl,_⟩:=h1.sl rfl
   obtain ⟨m,h,_⟩:=h2.sl
   cases h
  exact hk.elim
 | succ m =>
  have hS : AllSound (B [(115,.pure (normG (B []) [165,165] (keyEqS m)))]) G:=.cons _ (hK m rfl) noneS
  refine okP hS Tryz.func69 rfl (by decide) fun K us hk=>?_
  unfold keysEqS at hk
  split at hk
  ·rename_i x y
   refine ⟨by show 2 ≤ _; decide,?_⟩
   obtain ⟨⟨hT,hDp,rfl⟩,hk⟩:=hk
   obtain ⟨l,rfl,hl,hrow⟩:=hT.sl rfl
   obtain ⟨m',hm',hlen,hdp⟩:=hDp.sl
   obtain rfl : m = m':=by omega
   conv=>whnf
   refine Ask.i (fun c1=>?_) (fun c1=>?_)
   ·have c1 : (((l.length : Nat) : Int) != ((l.length : Nat) : Int)) = true:=c1
    simp at c1
   conv=>whnf
   refine ⟨[],_,_,rfl,Nat,(fun i=>([(0,.u (.c (.d 30 (.rows l)))),(1,.u (.c (.d 30 (.rows l)))),(5,.u (.c (I64 (i : Nat))))],[])),
    (fun i=>i ≤ l.length),(fun i=>l.length - i),fun x _=>rfl,⟨0,Nat.zero_le _,⟨rfl,rfl,rfl,trivial⟩,trivial⟩,?_⟩
   intro i hi0;conv=>whnf
   refine Ask.i (fun c2=>?_) (fun c2=>?_)
   ·have c2 : (i : Int) < ((l.length : Nat) : Int):=of_decide_eq_true c2
    have hi : i < l.length:=by omega
    have hR:=hrow _ (getD_mem (a:=[]) hi)
    have hD:=hdp _ (getD_mem (a:=[]) hi)
    have hl11 : (l.getD i []).length = 11:=hR.1
    conv=>whnf
    refine ⟨mixed,[],[],[],by kernel_rfl,?_⟩;conv=>whnf
    refine ⟨⟨by omega,c2⟩,?_⟩;conv=>whnf
    refine ⟨⟨by omega,c2⟩,?_⟩;conv=>whnf
    refine ⟨⟨⟨hR.2 6 _ rfl,Dp.cell hD (by rw [hl11]; decide),hR.2 7 _ rfl,Dp.cell hD (by rw [hl11]; decide)⟩,rfl,rfl,rfl,rfl,rfl,rfl,rfl,rfl,rfl,rfl,rfl⟩,?_⟩;conv=>whnf
    refine ⟨i + 1,hi,by show l.length - (i + 1) < l.length - i; omega,⟨rfl,rfl,congrArg (fun z : Int=>some (SV.u (.c (I64 z)))) (w64_eq (n:=(i : Int) + 1) (by omega)),trivial⟩,trivial⟩
   conv=>whnf
   exact hk
  exact hk.elim
end Sx
