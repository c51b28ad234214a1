/- Part of the proof: a machine of states for walks, and contracts of functions over it. Conditions: those that each theorem names. -/
import Derived.Test.YtcjdbimojffggaaGreatDoorC28
import Derived.Test.YtcjdbimojffggaaGreatDoorC24
import Derived.Test.YtcjdbimojffggaaGreatDoorC30
import Derived.Test.YtcjdbimojffggaaGreatDoorC25
set_option linter.unusedVariables false
set_option linter.unusedSimpArgs false
namespace Sx
open Go Go.Proofs
set_option maxRecDepth 30000
variable {G : Glob}
def takeGo (d : Int) : Nat → List Int → List Int → Bool → List Int × Bool
 | _,[],c,bad=>(c,bad)
 | i,n :: r,c,bad=>if 0 ≤ d + (i : Int) ∧ d + (i : Int) < (c.length : Int) then takeGo d (i + 1) r (c.set (d + (i : Int)).toNat (x64 (c.getD (d + (i : Int)).toNat 0 - n))) (bad || decide (c.getD (d + (i : Int)).toNat 0 < n)) else takeGo d (i + 1) r c (bad || decide (n > 0))
theorem takeGo_len (d : Int) : ∀ (l : List Int) (i : Nat) (c : List Int) (bad : Bool),(takeGo d i l c bad).1.length = c.length
 | [],_,_,_=>rfl
 | x :: l,i,c,bad=>by
  rw [takeGo]
  split
  ·rw [takeGo_len d l]; simp
  rw [takeGo_len d l]
def takeL (s t : Int × List Int) (bad : Bool) : List Int × Bool:=takeGo ((trim t.1 t.2).1 - s.1) 0 (trim t.1 t.2).2 s.2 bad
def takeS2 : List U → List Blk → Out RF
 | [.c (.p 50000 0),.a [.v (.int .i64 f),.d 38 (.ints l)],.a [.v (.int .i64 g),.d 38 (.ints m)]],[.cells 181 [.v (.bool bad)]] =>
  .need (-4294967296 ≤ f ∧ f ≤ 4294967296 ∧ l.length ≤ 3750 ∧ -4294967296 ≤ g ∧ g ≤ 4294967296 ∧ m.length ≤ 3750)
   (.ret (.u (.a [I64 f,.d 38 (.ints (takeL (f,l) (g,m) bad).1)]),[some (.cells 181 [Bo (takeL (f,l) (g,m) bad).2])],[]))
 | _,_=>.fail
theorem takeSide_ok : OkF G 131 takeS2:=by
 have hS : AllSound (B [(141,.pure (normG (B []) [185] trimS)),(130,.full (normF (B []) [228,31,31] lessS))]) G:=.cons _ trim_ok (.consF _ less_ok noneS)
 refine okF false hS Tryz.func131 rfl (by decide) fun K us lent hk=>?_
 unfold takeS2 at hk
 split at hk
 ·rename_i f l g m bad
  refine ⟨by show 3 ≤ _; decide,?_⟩
  obtain ⟨⟨f1,f2,f3,g1,g2,g3⟩,hk⟩:=hk
  have hts:=trim_near (f:=g) (l:=m) ⟨g1,g2⟩ g3
  have htl:=Nat.le_trans (trim_len g m) g3
  have hsp:=trim_spec m g (by omega) (by omega)
  have hg : -4294967296 ≤ (trim g m).1 ∧ (trim g m).1 ≤ 4294971046:=by
   rcases hsp with ⟨h,_⟩ | ⟨k,j,c,h,_,_,_,hll⟩
   ·rw [h]; decide
   have:=congrArg List.length hll
   simp only [List.length_append,List.length_replicate] at this
   rw [h]; simp only; omega
  conv=>whnf
  refine ⟨by show m.length ≤ 68719476736; omega,?_⟩
  simp only [takeL] at hk
  generalize trim g m = t at *
  obtain ⟨h,q⟩:=t
  simp only at hg htl hk
  conv=>whnf
  refine ⟨mixed,[(7,[7])],[(1,[]),(3,[]),(4,[])],[],by kernel_rfl,?_⟩;conv=>whnf
  first | refine ⟨by show l.length ≤ 137438953472; omega,?_⟩ | skip
  first | (conv=>whnf) | skip
  refine ⟨[],_,_,rfl,Nat × List Int × Bool,(fun y=>([(0,.u (.c (.p 50000 0))),(4,.u (.c (.p 4 0))),(5,.u (.c (.p 5 0))),(6,.u (.c (.p 6 0))),(7,.u (.c (.p 7 0))),(20,.u (.c (.d 38 (.ints q)))),(21,.u (.c (I64 (q.length : Nat)))),(22,.u (.c (I64 (y.1 : Nat))))],
    [(50000,.cells 181 [Bo y.2.2]),(4,.cells 185 [I64 f,.d 38 (.ints l)]),(5,.cells 185 [I64 h,.d 38 (.ints q)]),(6,.cells 185 [I64 0,.v (.slice none 0 0)]),(7,.cells 185 [I64 f,.r 17 38]),(17,.row 38 (.ints y.2.1))])),
   (fun y=>y.1 ≤ q.length ∧ y.2.1.length = l.length ∧ takeGo (h - f) y.1 (q.drop y.1) y.2.1 y.2.2 = takeGo (h - f) 0 q l bad),(fun y=>q.length - y.1),fun x _=>rfl,
   ⟨(0,_,bad),⟨Nat.zero_le _,?_,?_⟩,⟨rfl,rfl,rfl,rfl,rfl,rfl,rfl,rfl,trivial⟩,⟨rfl,rfl,rfl,rfl,rfl,rfl,trivial⟩⟩,?_⟩
  ·rfl
  ·rfl
  rintro ⟨i,c,bd⟩ ⟨p1,p2,p3⟩
  simp only at p1 p2 p3
  conv=>whnf
  refine Ask.i (fun c1=>?_) (fun c1=>?_)
  ·have c1 : (i : Int) < ((q.length : Nat) : Int):=of_decide_eq_true c1
   have hi : i < q.length:=by omega
   have hw : w64 (w64 (h + (i : Int)) - f) = h - f + i:=by rw [w64_eq (n:=h + (i : Int)) (by omega),w64_eq (by omega)]; omega
   have he : q.drop i = q.getD i 0 :: q.drop (i + 1):=by
    rw [List.drop_eq_getElem_cons hi,List.getD_eq_getElem?_getD,List.getElem?_eq_getElem hi]; rfl
   have hnx : some (SV.u (.c (I64 (w64 ((i : Int) + 1))))) = some (SV.u (.c (I64 ((i + 1 : Nat) : Int)))):=congrArg (fun z : Int=>some (SV.u (.c (I64 z)))) (w64_eq (n:=(i : Int) + 1) (by omega))
   rw [he,takeGo] at p3
   conv=>whnf
   refine ⟨⟨by omega,c1⟩,?_⟩;conv=>whnf
   refine Ask.i (fun c2=>?_) (fun c2=>?_)
   ·have c2 : w64 (w64 (h + (i : Int)) - f) ≥ 0:=of_decide_eq_true c2
    conv=>whnf
    refine Ask.i (fun c3=>?_) (fun c3=>?_)
    ·have c3 : w64 (w64 (h + (i : Int)) - f) < ((c.length : Nat) : Int):=of_decide_eq_true c3
     rw [if_pos (by rw [← hw]; exact ⟨c2,c3⟩),← hw] at p3
     conv=>whnf
     refine ⟨mixed,[(10,[50000]),(12,[17])],[(1,[50000]),(5,[]),(7,[]),(8,[]),(11,[50000])],[],by kernel_rfl,?_⟩;conv=>whnf
     refine ⟨⟨c2,c3⟩,?_⟩;conv=>whnf
     refine ⟨⟨c2,c3⟩,?_⟩;conv=>whnf
     refine ⟨(i + 1,_,_),⟨hi,?_,p3⟩,?_,⟨rfl,rfl,rfl,rfl,rfl,rfl,rfl,hnx,trivial⟩,⟨rfl,rfl,rfl,rfl,rfl,rfl,trivial⟩⟩
     ·simp only [List.length_set]; exact p2
     show q.length - (i + 1) < q.length - i; omega
    have c3 : ¬ w64 (w64 (h + (i : Int)) - f) < ((c.length : Nat) : Int):=of_decide_eq_false c3
    rw [if_neg (by rw [← hw]; exact fun h=>c3 h.2)] at p3
    conv=>whnf
    refine Ask.i (fun c4=>?_) (fun c4=>?_)
    ·have c4 : decide (q.getD i 0 > 0) = true:=c4
     rw [c4,Bool.or_true] at p3
     conv=>whnf
     exact ⟨(i + 1,c,true),⟨hi,p2,p3⟩,by show q.length - (i + 1) < q.length - i; omega,⟨rfl,rfl,rfl,rfl,rfl,rfl,rfl,hnx,trivial⟩,⟨rfl,rfl,rfl,rfl,rfl,rfl,trivial⟩⟩
    have c4 : decide (q.getD i 0 > 0) = false:=c4
    rw [c4,Bool.or_false] at p3
    conv=>whnf
    exact ⟨(i + 1,c,bd),⟨hi,p2,p3⟩,by show q.length - (i + 1) < q.length - i; omega,⟨rfl,rfl,rfl,rfl,rfl,rfl,rfl,hnx,trivial⟩,⟨rfl,rfl,rfl,rfl,rfl,rfl,trivial⟩⟩
   have c2 : ¬ w64 (w64 (h + (i : Int)) - f) ≥ 0:=of_decide_eq_false c2
   rw [if_neg (by rw [← hw]; exact fun h=>c2 h.1)] at p3
   conv=>whnf
   refine Ask.i (fun c4=>?_) (fun c4=>?_)
   ·have c4 : decide (q.getD i 0 > 0) = true:=c4
    rw [c4,Bool.or_true] at p3
    conv=>whnf
    exact ⟨(i + 1,c,true),⟨hi,p2,p3⟩,by show q.length - (i + 1) < q.length - i; omega,⟨rfl,rfl,rfl,rfl,rfl,rfl,rfl,hnx,trivial⟩,⟨rfl,rfl,rfl,rfl,rfl,rfl,trivial⟩⟩
   have c4 : decide (q.getD i 0 > 0) = false:=c4
   rw [c4,Bool.or_false] at p3
   conv=>whnf
   exact ⟨(i + 1,c,bd),⟨hi,p2,p3⟩,by show q.length - (i + 1) < q.length - i; omega,⟨rfl,rfl,rfl,rfl,rfl,rfl,rfl,hnx,trivial⟩,⟨rfl,rfl,rfl,rfl,rfl,rfl,trivial⟩⟩
  have c1 : ¬ (i : Int) < ((q.length : Nat) : Int):=of_decide_eq_false c1
  have hi : i = q.length:=by omega
  rw [hi,List.drop_length,takeGo] at p3
  simp only [← p3] at hk
  conv=>whnf
  exact hk
 exact hk.elim
end Sx
namespace Sx
open Go Go.Proofs
set_option maxRecDepth 30000
variable {G : Glob}
def rsP (e : ExpD) : Int × List Int:=(bif e.hasP then w64 e.offP else 0,bif e.hasP then e.cP else [])
def rsN (e : ExpD) : Int × List Int:=(bif e.hasN then w64 e.offN else 0,bif e.hasN then e.cN else [])
def lexCnt (a b : ExpD) : Bool:=(false || decide (a.count < b.count)) || decide (a.zero < b.zero)
def lexP (a b : ExpD) : List Int × Bool:=takeL (rsP a) (rsP b) (lexCnt a b)
def lexN (a b : ExpD) : List Int × Bool:=takeL (rsN a) (rsN b) (lexP a b).2
def lexBad (a b : ExpD) : Bool:=(lexN a b).2 || (bigS (rsP a).1 (lexP a b).1 || bigS (rsN a).1 (lexN a b).1)
def lexE (a b : ExpD) (z : Int) : ExpD :=
 ({ a with start:=b.time,count:=x64 (a.count - b.count),zero:=x64 (a.zero - b.zero),sumH:=a.sumH && b.sumH,sum:=z,minH:=false,min:=0,maxH:=false,max:=0 }).lay (trim (rsP a).1 (lexP a b).1) (trim (rsN a).1 (lexN a b).1)
theorem rs_near {h : Bool} {f : Int} {l : List Int} (h1 : -2147483648 ≤ f ∧ f < 2147483648) (h2 : l.length ≤ 3750) : -4294967296 ≤ (bif h then w64 f else 0) ∧ (bif h then w64 f else 0) ≤ 4294967296 ∧ (bif h then l else []).length ≤ 3750:=by
 have:=bifoff h h1
 have:=Nat.le_trans (side_len h l) h2
 omega
end Sx
namespace Sx
open Go Go.Proofs
set_option maxRecDepth 30000
theorem Ds0 (f : Int) : ∀ (l : List Int) (i : Nat) (p : Int),Ds f 0 i l p = sAt (f + i) l p
 | [],i,p=>(sAt_nil _ _).symm
 | x :: l,i,p=>by
  rw [Ds,Ds0 f l (i + 1) p,shr_zero]
  unfold sAt
  by_cases h : f + (i : Int) = p
  ·rw [if_pos h,if_neg (by omega),if_pos (by omega),show (p - (f + (i : Int))).toNat = 0 by omega]; simp
  rw [if_neg h]
  by_cases h2 : f + ((i + 1 : Nat) : Int) ≤ p
  ·rw [if_pos h2,if_pos (by omega),show (p - (f + (i : Int))).toNat = (p - (f + ((i + 1 : Nat) : Int))).toNat + 1 by omega,List.getD_cons_succ]; omega
  rw [if_neg h2,if_neg (by omega)]; omega
theorem sAtX_cons (h n : Int) (r : List Int) (p : Int) : sAt h (n :: r) p = if p = h then n else sAt (h + 1) r p:=by
 unfold sAt
 by_cases e : p = h
 ·subst e; rw [if_pos (by omega),if_pos rfl,Int.sub_self]; rfl
 rw [if_neg e]
 by_cases g : h + 1 ≤ p
 ·rw [if_pos (by omega),if_pos g,show (p - h).toNat = (p - (h + 1)).toNat + 1 by omega,List.getD_cons_succ]
 rw [if_neg (by omega),if_neg g]
theorem sAtX_set {f : Int} {c : List Int} {k : Nat} {v : Int} (hk : k < c.length) (p : Int) : sAt f (c.set k v) p = if p = f + k then v else sAt f c p:=by
 unfold sAt
 by_cases h : f ≤ p
 ·rw [if_pos h,getD_set _ _ _ _ hk,if_pos h]
  by_cases e : p = f + k
  ·rw [if_pos (by omega),if_pos e]
  rw [if_neg (by omega),if_neg e]
 rw [if_neg h,if_neg (by omega),if_neg h]
theorem takeGo_flag (d : Int) : ∀ (l : List Int) (i : Nat) (c : List Int) (bad : Bool),takeGo d i l c bad = ((takeGo d i l c false).1,bad || (takeGo d i l c false).2)
 | [],i,c,bad=>by rw [takeGo,takeGo]; simp
 | x :: l,i,c,bad=>by
  rw [takeGo,takeGo]
  split
  ·rw [takeGo_flag d l _ _ (bad || _),takeGo_flag d l _ _ (false || _)]; simp only [Bool.false_or,Bool.or_assoc]
  rw [takeGo_flag d l _ _ (bad || _),takeGo_flag d l _ _ (false || _)]; simp only [Bool.false_or,Bool.or_assoc]
theorem takeGo_full {f h : Int} : ∀ (q : List Int) (i : Nat) (c : List Int),R64 q → R64 c →
  ((takeGo (h - f) i q c false).2 = false ↔ ∀ p,sAt (h + i) q p ≤ sAt f c p) ∧ ((takeGo (h - f) i q c false).2 = false → ∀ p,sAt f (takeGo (h - f) i q c false).1 p = sAt f c p - sAt (h + i) q p)
 | [],i,c,hq,hc=>by
  rw [takeGo]
  exact ⟨⟨fun _ p=>by rw [sAt_nil]; exact (sAt_r hc f p).1,fun _=>rfl⟩,fun _ p=>by rw [sAt_nil]; show sAt f c p = _; omega⟩
 | n :: r,i,c,hq,hc=>by
  have hn:=hq.hd
  have e1 : ∀ p,sAt (h + (i : Int)) (n :: r) p = if p = h + i then n else sAt (h + ((i + 1 : Nat) : Int)) r p:=fun p=>by
   rw [sAtX_cons]; congr 2; omega
  have e0 : sAt (h + ((i + 1 : Nat) : Int)) r (h + i) = 0:=sAt_out (by omega)
  rw [takeGo]
  by_cases g : 0 ≤ h - f + (i : Int) ∧ h - f + (i : Int) < (c.length : Int)
  ·rw [if_pos g,Bool.false_or]
   have hk : (h - f + (i : Int)).toNat < c.length:=by omega
   have ev : sAt f c (h + i) = c.getD (h - f + (i : Int)).toNat 0:=by
    unfold sAt; rw [if_pos (by omega)]; congr 1; omega
   have hv:=getD_r hc (h - f + (i : Int)).toNat
   by_cases b : c.getD (h - f + (i : Int)).toNat 0 < n
   ·rw [decide_eq_true b,takeGo_flag]
    refine ⟨⟨fun hh=>(by simp at hh),fun hh=>?_⟩,fun hh=>by simp at hh⟩
    have:=hh (h + i)
    rw [e1,if_pos rfl,ev] at this
    omega
   rw [decide_eq_false b,x64_eq (by omega)]
   have ih:=takeGo_full (f:=f) (h:=h) r (i + 1) (c.set (h - f + (i : Int)).toNat (c.getD (h - f + (i : Int)).toNat 0 - n)) hq.tl (fun y hy=>by
    rcases List.mem_or_eq_of_mem_set hy with hy | rfl
    ·exact hc y hy
    omega)
   have es : ∀ p,sAt f (c.set (h - f + (i : Int)).toNat (c.getD (h - f + (i : Int)).toNat 0 - n)) p = if p = h + i then c.getD (h - f + (i : Int)).toNat 0 - n else sAt f c p:=fun p=>by
    rw [sAtX_set hk]
    by_cases e : p = h + i
    ·rw [if_pos (by omega),if_pos e]
    rw [if_neg (by omega),if_neg e]
   refine ⟨⟨fun hh p=>?_,fun hh=>ih.1.2 fun p=>?_⟩,fun hh p=>?_⟩
   ·have:=ih.1.1 hh p
    rw [es] at this
    rw [e1]
    by_cases e : p = h + i
    ·subst e; rw [if_pos rfl,ev]; omega
    rw [if_neg e] at this ⊢; exact this
   ·have:=hh p
    rw [e1] at this
    rw [es]
    by_cases e : p = h + i
    ·subst e; rw [if_pos rfl,e0]; omega
    rw [if_neg e] at this ⊢; exact this
   rw [ih.2 hh,es,e1]
   by_cases e : p = h + i
   ·subst e; rw [if_pos rfl,if_pos rfl,ev,e0]; omega
   rw [if_neg e,if_neg e]
  rw [if_neg g,Bool.false_or]
  have ev : sAt f c (h + i) = 0:=sAt_out (by omega)
  by_cases b : n > 0
  ·rw [decide_eq_true b,takeGo_flag]
   refine ⟨⟨fun hh=>(by simp at hh),fun hh=>?_⟩,fun hh=>by simp at hh⟩
   have:=hh (h + i)
   rw [e1,if_pos rfl,ev] at this
   omega
  rw [decide_eq_false b]
  have ih:=takeGo_full (f:=f) (h:=h) r (i + 1) c hq.tl hc
  have e2 : ∀ p,sAt (h + (i : Int)) (n :: r) p = sAt (h + ((i + 1 : Nat) : Int)) r p:=fun p=>by
   rw [e1]
   by_cases e : p = h + i
   ·subst e; rw [if_pos rfl,e0]; omega
   rw [if_neg e]
  exact ⟨⟨fun hh p=>by rw [e2]; exact ih.1.1 hh p,fun hh=>ih.1.2 fun p=>by rw [← e2]; exact hh p⟩,fun hh p=>by rw [e2]; exact ih.2 hh p⟩
def push (acc : List Pl) (p n : Int) : List Pl:=if n > 0 then acc ++ [(p,n)] else acc
def lsGo : List Pl → List Pl → List Pl → Option (List Pl)
 | [],[],acc=>some acc
 | [],_ :: _,_=>none
 | x :: L,[],acc=>lsGo L [] (push acc x.1 x.2)
 | x :: L,y :: M,acc=>if y.1 < x.1 then none else if y.1 = x.1 then (if y.2 > x.2 then none else lsGo L M (push acc x.1 (x64 (x.2 - y.2)))) else lsGo L (y :: M) (push acc x.1 x.2)
theorem push_ok {acc : List Pl} {F : Int → Int} {q n : Int} (h : PlOk acc F) (hq : ∀ y ∈ acc,y.1 < q) (hn : 0 ≤ n ∧ n < 18446744073709551616) : PlOk (push acc q n) (fun p=>F p + if q = p then n else 0) ∧ (push acc q n).length ≤ acc.length + 1 ∧ ∀ y ∈ push acc q n,y ∈ acc ∨ y.1 = q:=by
 unfold push
 by_cases c : n > 0
 ·rw [if_pos c]
  refine ⟨h.snoc hq ⟨c,hn.2⟩,by simp,fun y hy=>?_⟩
  rcases List.mem_append.1 hy with hy | hy
  ·exact .inl hy
  obtain rfl:=List.mem_singleton.1 hy; exact .inr rfl
 rw [if_neg c]
 refine ⟨h.congr fun p=>?_,by omega,fun y hy=>.inl hy⟩
 split <;> omega
theorem lsGo_sem : ∀ (L M acc : List Pl) (F A B : Int → Int),PlOk acc F → PlOk L A → PlOk M B → (∀ y ∈ acc,∀ z ∈ L,y.1 < z.1) →
  (lsGo L M acc = none ∧ ∃ p,A p < B p) ∨ (∃ N,lsGo L M acc = some N ∧ N.length ≤ acc.length + L.length ∧ PlOk N (fun p=>F p + (A p - B p)) ∧ ∀ p,B p ≤ A p)
 | [],[],acc,F,A,B,hF,hA,hB,hl=>.inr ⟨acc,rfl,by simp,hF.congr fun p=>by rw [hA.none,hB.none]; omega,fun p=>by rw [hA.none,hB.none]; exact Int.le_refl _⟩
 | [],y :: M,acc,F,A,B,hF,hA,hB,hl=>.inl ⟨rfl,y.1,by rw [hA.none,← hB.hd.1]; exact hB.hd.2.1⟩
 | x :: L,[],acc,F,A,B,hF,hA,hB,hl=>by
  have hx:=hA.hd
  have sa:=(List.pairwise_cons.1 hA.st).1
  obtain ⟨p1,p2,p3⟩:=push_ok (q:=x.1) (n:=x.2) hF (fun y hy=>hl y hy x List.mem_cons_self) ⟨by omega,hx.2.2.1⟩
  rw [lsGo]
  rcases lsGo_sem L [] _ _ _ B p1 hA.tl hB (fun y hy z hz=>by
    rcases p3 y hy with h | h
    ·exact hl y h z (List.mem_cons_of_mem _ hz)
    have:=sa z hz; omega) with ⟨e,p,h⟩ | ⟨N,e,h1,h2,h3⟩
  ·refine .inl ⟨e,p,?_⟩
   have:=hB.none p
   have:=hA.range p
   split at h <;> omega
  refine .inr ⟨N,e,by simp; omega,h2.congr fun p=>?_,fun p=>?_⟩
  ·have:=tl_le hA p
   omega
  have:=hB.none p
  have:=hA.range p
  omega
 | x :: L,y :: M,acc,F,A,B,hF,hA,hB,hl=>by
  have hx:=hA.hd
  have hy:=hB.hd
  have sa:=(List.pairwise_cons.1 hA.st).1
  have sb:=(List.pairwise_cons.1 hB.st).1
  rw [lsGo]
  by_cases c1 : y.1 < x.1
  ·rw [if_pos c1]
   exact .inl ⟨rfl,y.1,by rw [hx.2.2.2 y.1 c1,← hy.1]; exact hy.2.1⟩
  rw [if_neg c1]
  by_cases c2 : y.1 = x.1
  ·rw [if_pos c2]
   have hyB:=hy.1
   rw [c2] at hyB
   by_cases c3 : y.2 > x.2
   ·rw [if_pos c3]
    exact .inl ⟨rfl,x.1,by omega⟩
   rw [if_neg c3,x64_eq (by omega)]
   obtain ⟨p1,p2,p3⟩:=push_ok (q:=x.1) (n:=x.2 - y.2) hF (fun z hz=>hl z hz x List.mem_cons_self) ⟨by omega,by omega⟩
   have tA:=tl_le hA
   have tB:=tl_le hB
   rw [c2] at tB
   have hBt:=hB.tl
   rw [c2] at hBt
   rcases lsGo_sem L M _ _ _ _ p1 hA.tl hBt (fun z hz w hw=>by
     rcases p3 z hz with h | h
     ·exact hl z h w (List.mem_cons_of_mem _ hw)
     have:=sa w hw; omega) with ⟨e,p,h⟩ | ⟨N,e,h1,h2,h3⟩
   ·refine .inl ⟨e,p,?_⟩
    by_cases e : p = x.1
    ·simp only [if_pos e] at h; omega
    simp only [if_neg e] at h; exact h
   refine .inr ⟨N,e,by simp; omega,h2.congr fun p=>?_,fun p=>?_⟩
   ·have a1:=tA p
    have a2:=tB p
    by_cases e : p = x.1
    ·have e' : x.1 = p:=e.symm
     simp only [if_pos e,if_pos e'] at a1 a2 ⊢; omega
    have e' : ¬ x.1 = p:=fun h=>e h.symm
    simp only [if_neg e,if_neg e'] at a1 a2 ⊢; omega
   have:=h3 p
   by_cases e : p = x.1
   ·subst e; omega
   simp only [if_neg e] at this; exact this
  rw [if_neg c2]
  obtain ⟨p1,p2,p3⟩:=push_ok (q:=x.1) (n:=x.2) hF (fun z hz=>hl z hz x List.mem_cons_self) ⟨by omega,hx.2.2.1⟩
  have hB0:=hy.2.2.2 x.1 (by omega)
  rcases lsGo_sem L (y :: M) _ _ _ _ p1 hA.tl hB (fun z hz w hw=>by
    rcases p3 z hz with h | h
    ·exact hl z h w (List.mem_cons_of_mem _ hw)
    have:=sa w hw; omega) with ⟨e,p,h⟩ | ⟨N,e,h1,h2,h3⟩
  ·refine .inl ⟨e,p,?_⟩
   by_cases e : p = x.1
   ·subst e; simp only [if_true] at h; omega
   simp only [if_neg e] at h; exact h
  refine .inr ⟨N,e,by simp; omega,h2.congr fun p=>?_,fun p=>?_⟩
  ·have:=tl_le hA p
   omega
  have h4:=h3 p
  have h5:=hA.range p
  split at h4 <;> omega
end Sx
namespace Sx
open Go Go.Proofs
set_option maxRecDepth 30000
theorem Ds00 (f : Int) (l : List Int) (p : Int) : Ds f 0 0 l p = sAt f l p:=by rw [Ds0]; congr 1; omega
theorem pl0_some {f : Int} {l : List Int} (hl : R64 l) : ∃ L,plGo f 0 0 l [] = some L ∧ PlOk L (sAt f l) ∧ L.length ≤ l.length:=by
 cases h : plGo f 0 0 l [] with
 | none =>
  obtain ⟨p,hp⟩:=pl_none hl h
  rw [Ds00] at hp
  have:=(sAt_r hl f p).2
  omega
 | some L =>
  obtain ⟨a,b⟩:=pl_ok hl h
  exact ⟨L,rfl,a.congr (Ds00 f l),b⟩
def lessV2 (f : Int) (l : List Int) (g : Int) (m : List Int) : Option (Int × List Int):=match plGo f 0 0 l [],plGo g 0 0 m [] with
 | some L,some M=>match lsGo L M [] with
  | some N=>if (denseV N).2 = true then some (denseV N).1 else none
  | none=>none
 | _,_=>none
def ourL (f : Int) (l : List Int) (g : Int) (m : List Int) : Option (Int × List Int) :=
 bif (takeL (f,l) (g,m) false).2 || bigS f (takeL (f,l) (g,m) false).1 then none else some (trim f (takeL (f,l) (g,m) false).1)
theorem takeL_full {f g : Int} {l m : List Int} (hg : InB g m) (rl : R64 l) (rm : R64 m) :
  ((takeL (f,l) (g,m) false).2 = false ↔ ∀ p,sAt g m p ≤ sAt f l p) ∧ ((takeL (f,l) (g,m) false).2 = false → ∀ p,sAt f (takeL (f,l) (g,m) false).1 p = sAt f l p - sAt g m p) ∧ (takeL (f,l) (g,m) false).1.length = l.length:=by
 have ht:=takeGo_full (f:=f) (h:=(trim g m).1) (trim g m).2 0 l (fun x hx=>rm x (trim_mem hx)) rl
 have e : ∀ p,sAt ((trim g m).1 + ((0 : Nat) : Int)) (trim g m).2 p = sAt g m p:=fun p=>by
  rw [show (trim g m).1 + ((0 : Nat) : Int) = (trim g m).1 by omega]
  exact trim_at (by have:=hg.1; omega) (by obtain ⟨_,a,b⟩:=hg; omega) p
 refine ⟨⟨fun h p=>by rw [← e]; exact ht.1.1 h p,fun h=>ht.1.2 fun p=>by rw [e]; exact h p⟩,fun h p=>by rw [← e]; exact ht.2 h p,takeGo_len _ _ _ _ _⟩
theorem ls_ok {L M N : List Pl} {A B : Int → Int} (hL : PlOk L A) (hM : PlOk M B) (h : lsGo L M [] = some N) : PlOk N (fun p=>A p - B p) ∧ N.length ≤ L.length ∧ ∀ p,B p ≤ A p:=by
 rcases lsGo_sem L M [] _ A B PlOk.nil hL hM (fun y hy=>by cases hy) with ⟨e,_⟩ | ⟨N',e,a,b,c⟩
 ·rw [e] at h; cases h
 rw [e] at h
 obtain rfl:=Option.some.inj h
 exact ⟨b.congr fun p=>by omega,by simpa using a,c⟩
theorem ls_none {L M : List Pl} {A B : Int → Int} (hL : PlOk L A) (hM : PlOk M B) (h : lsGo L M [] = none) : ∃ p,A p < B p:=by
 rcases lsGo_sem L M [] _ A B PlOk.nil hL hM (fun y hy=>by cases hy) with ⟨e,h⟩ | ⟨N',e,a,b,c⟩
 ·exact h
 rw [e] at h; cases h
theorem less_eq {f g : Int} {l m : List Int} (hf : InB f l) (hg : InB g m) (rl : R64 l) (rm : R64 m) : lessV2 f l g m = ourL f l g m:=by
 obtain ⟨L,eL,oL,lL⟩:=pl0_some (f:=f) rl
 obtain ⟨M,eM,oM,lM⟩:=pl0_some (f:=g) rm
 obtain ⟨t1,t2,t3⟩:=takeL_full (f:=f) hg rl rm
 unfold lessV2 ourL
 rw [eL,eM]
 simp only
 generalize takeL (f,l) (g,m) false = T at t1 t2 t3
 obtain ⟨c,bd⟩:=T
 simp only at t1 t2 t3 ⊢
 cases hN : lsGo L M [] with
 | none =>
  obtain ⟨p,hp⟩:=ls_none oL oM hN
  cases bd with
  | true=>rfl
  | false=>have:=t1.1 rfl p; omega
 | some N =>
  obtain ⟨oN,lN,hle⟩:=ls_ok oL oM hN
  have hbd : bd = false:=t1.2 hle
  subst hbd
  have hv:=t2 rfl
  have tT:=trim_tight (f:=f) (l:=c) (by have:=hf.1; omega) (by obtain ⟨_,a,b⟩:=hf; omega)
  have tv:=trim_at (f:=f) (l:=c) (by have:=hf.1; omega) (by obtain ⟨_,a,b⟩:=hf; omega)
  simp only [Bool.false_or]
  cases N with
  | nil =>
   have e : trim f c = (0,[]):=canon tT (.inl rfl) fun p=>by rw [tv,hv,sAt_nil]; exact oN.none p
   unfold bigS
   rw [e]
   rfl
  | cons z Z =>
   obtain ⟨s1,s2,_⟩:=dense_sem oN (c:=_) rfl
   have e:=canon tT s1 fun p=>by rw [tv,hv]; exact (s2 p).symm
   unfold bigS
   rw [e]
   by_cases hz : z.1 > 2147483647
   ·rw [decide_eq_true hz]
    have : denseV (z :: Z) = ((0,[]),false):=if_pos hz
    rw [this]; rfl
   rw [decide_eq_false hz]
   have : denseV (z :: Z) = ((z.1,dnGo z.1 (z :: Z) (List.replicate (endP (z :: Z) - z.1 + 1).toNat 0)),true):=if_neg hz
   rw [this]; rfl
end Sx
namespace Sx
open Go Go.Proofs
set_option maxRecDepth 30000
variable {G : Glob}
def lessSideT : List U → Out SV
 | [.a [.v (.int .i32 f),.d 38 (.ints l),.v (.string s)],.a [.v (.int .i32 g),.d 38 (.ints m),.v (.string t)]] =>
  .need ((InB f l ∧ R64 l) ∧ InB g m ∧ R64 m) (.all (Option (Int × List Int)) (fun o=>ourL f l g m = o) ⟨_,rfl⟩ outS)
 | _=>.fail
set_option maxHeartbeats 2000000 in
theorem lessSide_ex : Ok G 136 lessSideT:=by
 have hS : AllSound (B [(161,.pure (normG (B []) [42,3] placesT)),(163,.pure (normG (B []) [244] denseT))]) G:=.cons _ places_ex (.cons _ dense_ex noneS)
 refine okP hS Tryz.func136 rfl (by decide) fun K us hk=>?_
 unfold lessSideT at hk
 split at hk
 ·rename_i f l s g m t
  refine ⟨by show 2 ≤ _; decide,?_⟩
  obtain ⟨⟨⟨f1,rl⟩,g1,rm⟩,hk⟩:=hk
  have hk:=hk _ rfl
  rw [← less_eq f1 g1 rl rm] at hk
  obtain ⟨L,eL,oL,lL⟩:=pl0_some (f:=f) rl
  obtain ⟨M,eM,oM,lM⟩:=pl0_some (f:=g) rm
  have lf:=f1.2.2
  have lg:=g1.2.2
  unfold lessV2 at hk
  rw [eL,eM] at hk
  have hk : (outS (match lsGo L M [] with | some N=>if (denseV N).2 = true then some (denseV N).1 else none | none=>none)).wp K:=hk
  have s0 : InS 0:=⟨by decide,by decide⟩
  conv=>whnf
  refine ⟨⟨f1,s0⟩,?_⟩;conv=>whnf
  intro oL' hL
  have hL : plGo f 0 0 l [] = oL':=hL
  rw [eL] at hL
  subst hL
  conv=>whnf
  refine ⟨⟨g1,s0⟩,?_⟩;conv=>whnf
  intro oM' hM
  have hM : plGo g 0 0 m [] = oM':=hM
  rw [eM] at hM
  subst hM
  conv=>whnf
  obtain ⟨R,hR⟩ : ∃ R,rowsP L = R:=⟨_,rfl⟩
  obtain ⟨Q,hQ⟩ : ∃ Q,rowsP M = Q:=⟨_,rfl⟩
  have uR : unP R = L:=by rw [← hR,unP_rowsP]
  have uQ : unP Q = M:=by rw [← hQ,unP_rowsP]
  have lR : R.length ≤ 3750:=by rw [← hR,rowsP_len]; omega
  have lQ : Q.length ≤ 3750:=by rw [← hQ,rowsP_len]; omega
  rw [hR,hQ]
  generalize hv : lsGo L M [] = v at hk
  have hv0:=hv
  rw [← uR,← uQ] at hv
  refine ⟨[(10,98,244)],_,_,rfl,Nat × Nat × List Pl,(fun y=>([(4,.u (.c (.p 4 0))),(6,.u (.c (.d 244 (.rows R)))),(8,.u (.c (.d 244 (.rows Q)))),(10,.u (.c (.r 98 244))),(11,.u (.c (I64 (y.2.1 : Nat)))),(12,.u (.c (I64 (y.1 : Nat))))],
    [(4,.cells 42 [I32 0,.v (.slice none 0 0),St nos]),(98,.row 244 (.rows (rowsP y.2.2)))])),
   (fun y=>y.1 ≤ R.length ∧ y.2.1 ≤ Q.length ∧ y.2.2.length ≤ y.1 ∧ lsGo ((unP R).drop y.1) ((unP Q).drop y.2.1) y.2.2 = v),(fun y=>R.length - y.1),fun x _=>rfl,
   ⟨(0,0,[]),⟨Nat.zero_le _,Nat.zero_le _,Nat.le_refl _,hv⟩,⟨rfl,rfl,rfl,rfl,rfl,rfl,trivial⟩,⟨rfl,rfl,trivial⟩⟩,?_⟩
  rintro ⟨i,j,acc⟩ ⟨p1,p2,p3,p4⟩
  simp only at p1 p2 p3 p4
  have nxi : some (SV.u (.c (I64 (w64 ((i : Int) + 1))))) = some (SV.u (.c (I64 ((i + 1 : Nat) : Int)))):=congrArg (fun z : Int=>some (SV.u (.c (I64 z)))) (w64_eq (n:=(i : Int) + 1) (by omega))
  have nxj : some (SV.u (.c (I64 (w64 ((j : Int) + 1))))) = some (SV.u (.c (I64 ((j + 1 : Nat) : Int)))):=congrArg (fun z : Int=>some (SV.u (.c (I64 z)))) (w64_eq (n:=(j : Int) + 1) (by omega))
  conv=>whnf
  refine Ask.i (fun c0=>?_) (fun c0=>?_)
  ·have c0 : (i : Int) < ((R.length : Nat) : Int):=of_decide_eq_true c0
   have hi : i < R.length:=by omega
   rw [unP_drop hi] at p4
   conv=>whnf
   refine ⟨⟨by omega,by show (i : Int) < ((R.length : Nat) : Int); omega⟩,?_⟩;conv=>whnf
   by_cases hj : j < Q.length
   ·rw [unP_drop hj,lsGo] at p4
    refine ⟨mixed,[],[],[],by kernel_rfl,?_⟩;conv=>whnf
    refine Ask.i (fun c1=>?_) (fun c1=>?_)
    ·have c1 : (j : Int) < ((Q.length : Nat) : Int):=of_decide_eq_true c1
     conv=>whnf
     refine ⟨⟨by omega,by show (j : Int) < ((Q.length : Nat) : Int); omega⟩,?_⟩;conv=>whnf
     refine ⟨⟨by omega,by show (i : Int) < ((R.length : Nat) : Int); omega⟩,?_⟩;conv=>whnf
     refine Ask.i (fun c2=>?_) (fun c2=>?_)
     ·have c2 : (unR (Q.getD j [])).1 < (unR (R.getD i [])).1:=of_decide_eq_true c2
      rw [if_pos (show (unR (Q.getD j [])).1 < (unR (R.getD i [])).1 from c2)] at p4
      subst p4
      conv=>whnf
      exact hk
     have c2 : ¬ ((unR (Q.getD j [])).1 < (unR (R.getD i [])).1):=of_decide_eq_false c2
     rw [if_neg (show ¬ (unR (Q.getD j [])).1 < (unR (R.getD i [])).1 from c2)] at p4
     conv=>whnf
     refine ⟨mixed,[],[],[],by kernel_rfl,?_⟩;conv=>whnf
     refine Ask.i (fun c3=>?_) (fun c3=>?_)
     ·have c3 : (j : Int) < ((Q.length : Nat) : Int):=of_decide_eq_true c3
      conv=>whnf
      refine ⟨⟨by omega,by show (j : Int) < ((Q.length : Nat) : Int); omega⟩,?_⟩;conv=>whnf
      refine ⟨⟨by omega,by show (i : Int) < ((R.length : Nat) : Int); omega⟩,?_⟩;conv=>whnf
      refine Ask.i (fun c4=>?_) (fun c4=>?_)
      ·have c4 : (unR (Q.getD j [])).1 = (unR (R.getD i [])).1:=eq_of_beq c4
       rw [if_pos (show (unR (Q.getD j [])).1 = (unR (R.getD i [])).1 from c4)] at p4
       conv=>whnf
       refine ⟨⟨by omega,by show (j : Int) < ((Q.length : Nat) : Int); omega⟩,?_⟩;conv=>whnf
       refine Ask.i (fun c5=>?_) (fun c5=>?_)
       ·have c5 : (unR (Q.getD j [])).2 > (unR (R.getD i [])).2:=of_decide_eq_true c5
        rw [if_pos (show (unR (Q.getD j [])).2 > (unR (R.getD i [])).2 from c5)] at p4
        subst p4
        conv=>whnf
        exact hk
       have c5 : ¬ ((unR (Q.getD j [])).2 > (unR (R.getD i [])).2):=of_decide_eq_false c5
       rw [if_neg (show ¬ (unR (Q.getD j [])).2 > (unR (R.getD i [])).2 from c5)] at p4
       conv=>whnf
       refine ⟨⟨by omega,by show (j : Int) < ((Q.length : Nat) : Int); omega⟩,?_⟩;conv=>whnf;conv=>whnf
       refine Ask.i (fun c9=>?_) (fun c9=>?_)
       ·have c9 : x64 ((unR (R.getD i [])).2 - (unR (Q.getD j [])).2) > 0:=of_decide_eq_true c9
        rw [show push acc (unR (R.getD i [])).1 (x64 ((unR (R.getD i [])).2 - (unR (Q.getD j [])).2)) = acc ++ [((unR (R.getD i [])).1,x64 ((unR (R.getD i [])).2 - (unR (Q.getD j [])).2))] from if_pos c9] at p4
        conv=>whnf
        refine ⟨⟨by omega,by show (i : Int) < ((R.length : Nat) : Int); omega⟩,?_⟩;conv=>whnf
        refine ⟨by show (rowsP acc).length + 1 ≤ 137438953472; rw [rowsP_len]; omega,?_⟩;conv=>whnf
        refine ⟨(i + 1,j + 1,acc ++ [((unR (R.getD i [])).1,x64 ((unR (R.getD i [])).2 - (unR (Q.getD j [])).2))]),⟨by show i + 1 ≤ R.length; omega,by show j + 1 ≤ Q.length; omega,by show (acc ++ [((unR (R.getD i [])).1,x64 ((unR (R.getD i [])).2 - (unR (Q.getD j [])).2))]).length ≤ i + 1; rw [List.length_append]; show acc.length + 1 ≤ _; omega,?_⟩,by show R.length - (i + 1) < R.length - i; omega,⟨rfl,rfl,rfl,rfl,nxj,nxi,trivial⟩,⟨rfl,?_,trivial⟩⟩
        ·show lsGo ((unP R).drop (i + 1)) ((unP Q).drop (j + 1)) (acc ++ [((unR (R.getD i [])).1,x64 ((unR (R.getD i [])).2 - (unR (Q.getD j [])).2))]) = v
         exact p4
        exact congrArg (fun z=>some (Blk.row 244 (.rows z))) (rowsP_app acc (((unR (R.getD i [])).1,x64 ((unR (R.getD i [])).2 - (unR (Q.getD j [])).2))))
       have c9 : ¬ (x64 ((unR (R.getD i [])).2 - (unR (Q.getD j [])).2) > 0):=of_decide_eq_false c9
       rw [show push acc (unR (R.getD i [])).1 (x64 ((unR (R.getD i [])).2 - (unR (Q.getD j [])).2)) = acc from if_neg c9] at p4
       conv=>whnf
       refine ⟨(i + 1,j + 1,acc),⟨by show i + 1 ≤ R.length; omega,by show j + 1 ≤ Q.length; omega,by show (acc).length ≤ i + 1; omega,?_⟩,by show R.length - (i + 1) < R.length - i; omega,⟨rfl,rfl,rfl,rfl,nxj,nxi,trivial⟩,⟨rfl,rfl,trivial⟩⟩
       show lsGo ((unP R).drop (i + 1)) ((unP Q).drop (j + 1)) (acc) = v
       exact p4
      have c4 : ¬ ((unR (Q.getD j [])).1 = (unR (R.getD i [])).1):=ne_of_beq_false c4
      rw [if_neg (show ¬ (unR (Q.getD j [])).1 = (unR (R.getD i [])).1 from c4)] at p4
      conv=>whnf
      refine Ask.i (fun c9=>?_) (fun c9=>?_)
      ·have c9 : (unR (R.getD i [])).2 > 0:=of_decide_eq_true c9
       rw [show push acc (unR (R.getD i [])).1 ((unR (R.getD i [])).2) = acc ++ [((unR (R.getD i [])).1,(unR (R.getD i [])).2)] from if_pos c9] at p4
       conv=>whnf
       refine ⟨⟨by omega,by show (i : Int) < ((R.length : Nat) : Int); omega⟩,?_⟩;conv=>whnf
       refine ⟨by show (rowsP acc).length + 1 ≤ 137438953472; rw [rowsP_len]; omega,?_⟩;conv=>whnf
       refine ⟨(i + 1,j,acc ++ [((unR (R.getD i [])).1,(unR (R.getD i [])).2)]),⟨by show i + 1 ≤ R.length; omega,by show j ≤ Q.length; omega,by show (acc ++ [((unR (R.getD i [])).1,(unR (R.getD i [])).2)]).length ≤ i + 1; rw [List.length_append]; show acc.length + 1 ≤ _; omega,?_⟩,by show R.length - (i + 1) < R.length - i; omega,⟨rfl,rfl,rfl,rfl,rfl,nxi,trivial⟩,⟨rfl,?_,trivial⟩⟩
       ·show lsGo ((unP R).drop (i + 1)) ((unP Q).drop (j)) (acc ++ [((unR (R.getD i [])).1,(unR (R.getD i [])).2)]) = v
        rw [unP_drop hj]
        exact p4
       exact congrArg (fun z=>some (Blk.row 244 (.rows z))) (rowsP_app acc (((unR (R.getD i [])).1,(unR (R.getD i [])).2)))
      have c9 : ¬ ((unR (R.getD i [])).2 > 0):=of_decide_eq_false c9
      rw [show push acc (unR (R.getD i [])).1 ((unR (R.getD i [])).2) = acc from if_neg c9] at p4
      conv=>whnf
      refine ⟨(i + 1,j,acc),⟨by show i + 1 ≤ R.length; omega,by show j ≤ Q.length; omega,by show (acc).length ≤ i + 1; omega,?_⟩,by show R.length - (i + 1) < R.length - i; omega,⟨rfl,rfl,rfl,rfl,rfl,nxi,trivial⟩,⟨rfl,rfl,trivial⟩⟩
      show lsGo ((unP R).drop (i + 1)) ((unP Q).drop (j)) (acc) = v
      rw [unP_drop hj]
      exact p4
     have c3 : ¬ ((j : Int) < ((Q.length : Nat) : Int)):=of_decide_eq_false c3
     exfalso; omega
    have c1 : ¬ ((j : Int) < ((Q.length : Nat) : Int)):=of_decide_eq_false c1
    exfalso; omega
   have hQ0 : (unP Q).drop j = []:=List.drop_eq_nil_of_le (by rw [unP_len]; omega)
   rw [hQ0,lsGo] at p4
   refine ⟨mixed,[],[],[],by kernel_rfl,?_⟩;conv=>whnf
   refine Ask.i (fun c1=>?_) (fun c1=>?_)
   ·have c1 : (j : Int) < ((Q.length : Nat) : Int):=of_decide_eq_true c1
    exfalso; omega
   have c1 : ¬ ((j : Int) < ((Q.length : Nat) : Int)):=of_decide_eq_false c1
   conv=>whnf
   refine ⟨mixed,[],[],[],by kernel_rfl,?_⟩;conv=>whnf
   refine Ask.i (fun c3=>?_) (fun c3=>?_)
   ·have c3 : (j : Int) < ((Q.length : Nat) : Int):=of_decide_eq_true c3
    exfalso; omega
   have c3 : ¬ ((j : Int) < ((Q.length : Nat) : Int)):=of_decide_eq_false c3
   conv=>whnf
   refine Ask.i (fun c9=>?_) (fun c9=>?_)
   ·have c9 : (unR (R.getD i [])).2 > 0:=of_decide_eq_true c9
    rw [show push acc (unR (R.getD i [])).1 ((unR (R.getD i [])).2) = acc ++ [((unR (R.getD i [])).1,(unR (R.getD i [])).2)] from if_pos c9] at p4
    conv=>whnf
    refine ⟨⟨by omega,by show (i : Int) < ((R.length : Nat) : Int); omega⟩,?_⟩;conv=>whnf
    refine ⟨by show (rowsP acc).length + 1 ≤ 137438953472; rw [rowsP_len]; omega,?_⟩;conv=>whnf
    refine ⟨(i + 1,j,acc ++ [((unR (R.getD i [])).1,(unR (R.getD i [])).2)]),⟨by show i + 1 ≤ R.length; omega,by show j ≤ Q.length; omega,by show (acc ++ [((unR (R.getD i [])).1,(unR (R.getD i [])).2)]).length ≤ i + 1; rw [List.length_append]; show acc.length + 1 ≤ _; omega,?_⟩,by show R.length - (i + 1) < R.length - i; omega,⟨rfl,rfl,rfl,rfl,rfl,nxi,trivial⟩,⟨rfl,?_,trivial⟩⟩
    ·show lsGo ((unP R).drop (i + 1)) ((unP Q).drop (j)) (acc ++ [((unR (R.getD i [])).1,(unR (R.getD i [])).2)]) = v
     rw [hQ0]
     exact p4
    exact congrArg (fun z=>some (Blk.row 244 (.rows z))) (rowsP_app acc (((unR (R.getD i [])).1,(unR (R.getD i [])).2)))
   have c9 : ¬ ((unR (R.getD i [])).2 > 0):=of_decide_eq_false c9
   rw [show push acc (unR (R.getD i [])).1 ((unR (R.getD i [])).2) = acc from if_neg c9] at p4
   conv=>whnf
   refine ⟨(i + 1,j,acc),⟨by show i + 1 ≤ R.length; omega,by show j ≤ Q.length; omega,by show (acc).length ≤ i + 1; omega,?_⟩,by show R.length - (i + 1) < R.length - i; omega,⟨rfl,rfl,rfl,rfl,rfl,nxi,trivial⟩,⟨rfl,rfl,trivial⟩⟩
   show lsGo ((unP R).drop (i + 1)) ((unP Q).drop (j)) (acc) = v
   rw [hQ0]
   exact p4
  have c0 : ¬ ((i : Int) < ((R.length : Nat) : Int)):=of_decide_eq_false c0
  rw [show (unP R).drop i = [] from List.drop_eq_nil_of_le (by rw [unP_len]; omega)] at p4
  conv=>whnf
  refine Ask.i (fun c1=>?_) (fun c1=>?_)
  ·have c1 : (j : Int) < ((Q.length : Nat) : Int):=of_decide_eq_true c1
   rw [unP_drop (show j < Q.length by omega),lsGo] at p4
   subst p4
   conv=>whnf
   exact hk
  have c1 : ¬ ((j : Int) < ((Q.length : Nat) : Int)):=of_decide_eq_false c1
  rw [show (unP Q).drop j = [] from List.drop_eq_nil_of_le (by rw [unP_len]; omega),lsGo] at p4
  subst p4
  obtain ⟨oN,lN,_⟩:=ls_ok oL oM hv0
  have hd : DnOk acc:=DnOk_of oN (by omega) fun p hp=>by
   by_cases h0 : sAt f l p = 0
   ·exact Ds_near g1 (n:=0) (fun h1=>hp (by rw [Ds00] at h1; rw [h0,h1]; rfl))
   exact Ds_near f1 (n:=0) (by rw [Ds00]; exact h0)
  conv=>whnf
  refine ⟨by show DnOk (unP (rowsP acc)); rw [unP_rowsP]; exact hd,?_⟩;conv=>whnf
  have e : outD (denseV (unP (rowsP acc))) = outD (denseV acc):=by rw [unP_rowsP]
  refine fin (?_ : K (outD (denseV acc))) e.symm
  cases hb : (denseV acc).2 with
  | true =>
   simp only [hb,if_true] at hk
   refine fin hk (?_ : _ = outD (denseV acc))
   unfold outD
   rw [hb]
  | false =>
   simp only [hb] at hk
   rw [dense_false hb]
   exact hk
 exact hk.elim
end Sx
namespace Sx
open Go Go.Proofs
open Go.Proofs.SxPu (addV subV)
set_option maxRecDepth 30000
variable {G : Glob}
def zL (a b : ExpD) : Int:=bif a.sumH && b.sumH then subV a.sum b.sum else 0
def lexpT (k : Nat) : List U → Out SV
 | [.a la,.a lb]=>match asExp la,asExp lb with
  | some a,some b=>.need (UU a.sum ∧ UU b.sum ∧ Fits a ∧ Fits b ∧ Typ TB (.sl 30) a.attrs ∧ Dp k a.attrs ∧ Typ TB (.sl 32) a.ex ∧ Dp k a.ex) (wp1 (a.scale != b.scale || a.thr != b.thr) fun c=>bif c then .ret (.t [.a (noE 0).cells,.c (errV 13)]) else
   wp1 (lexBad a b) fun c=>bif c then .ret (.t [.a (noE 0).cells,.c (errV 9)]) else .ret (.t [.a (lexE a b (zL a b)).cells,.c nilV]))
  | _,_=>.fail
 | _=>.fail
theorem lexp_ex {k : Nat} : Ok G 86 (lexpT k):=by
 have hS : AllSound (B [(64,.pure (normG (B []) [44] (twS k))),(130,.full (normF (B []) [228,31,31] lessS)),(109,.pure (normG (B []) [37,37,118] bothT)),(104,.pure (normG (B []) [4,42] sideOfS)),(131,.full (normF (B []) [228,185,185] takeS2)),(102,.full (normF (B []) [228,183,185,185] laysS))]) G :=
  .cons _ twExp_ok (.consF _ less_ok (.cons _ both_ex (.cons _ sideOf_ok (.consF _ takeSide_ok (.consF _ lays_ok noneS)))))
 refine okP hS Tryz.func86 rfl (by decide) fun K us hk=>?_
 unfold lexpT at hk
 split at hk
 ·split at hk
  ·rename_i la lb _ _ a b ha hb
   rw [asExp_eq ha,asExp_eq hb]
   refine ⟨by show 2 ≤ _; decide,?_⟩
   obtain ⟨⟨us,ut,hA,hB,h1,h2,h3,h4⟩,hk⟩:=hk
   have hk:=hk _ rfl
   have pa:=rs_near (h:=a.hasP) (l:=a.cP) ⟨hA.2.2.1,hA.2.2.2.1⟩ hA.1
   have pb:=rs_near (h:=b.hasP) (l:=b.cP) ⟨hB.2.2.1,hB.2.2.2.1⟩ hB.1
   have na:=rs_near (h:=a.hasN) (l:=a.cN) ⟨hA.2.2.2.2.1,hA.2.2.2.2.2.1⟩ hA.2.1
   have nb:=rs_near (h:=b.hasN) (l:=b.cN) ⟨hB.2.2.2.2.1,hB.2.2.2.2.2.1⟩ hB.2.1
   have bad : (a.scale != b.scale || a.thr != b.thr) = true → K (.t [.a (noE 0).cells,.c (errV 13)]):=fun h=>by rw [h] at hk; exact hk
   conv=>whnf
   refine Ask.i (fun c1=>?_) (fun c1=>?_)
   ·have c1 : (a.scale != b.scale) = true:=c1
    conv=>whnf
    exact bad (by rw [c1]; rfl)
   have c1 : (a.scale != b.scale) = false:=c1;conv=>whnf
   refine Ask.i (fun c2=>?_) (fun c2=>?_)
   ·have c2 : (a.thr != b.thr) = true:=c2
    conv=>whnf
    exact bad (by rw [c1,c2]; rfl)
   have c2 : (a.thr != b.thr) = false:=c2
   rw [c1,c2] at hk
   conv=>whnf
   refine ⟨⟨h1,h2,h3,h4,hA.1,hA.2.1⟩,?_⟩;conv=>whnf
   refine ⟨mixed,[(4,[6]),(9,[6]),(11,[7]),(13,[7])],[],[],by kernel_rfl,?_⟩;conv=>whnf
   refine ⟨⟨us,ut⟩,?_⟩;conv=>whnf
   have hk:=hk _ rfl
   conv=>whnf
   refine ⟨mixed,[(10,[6]),(12,[8])],[],[],by kernel_rfl,?_⟩;conv=>whnf
   refine ⟨⟨pa.1,pa.2.1,pa.2.2,pb.1,pb.2.1,pb.2.2⟩,?_⟩;conv=>whnf
   refine ⟨mixed,[(10,[6]),(12,[9])],[],[],by kernel_rfl,?_⟩;conv=>whnf
   refine ⟨⟨na.1,na.2.1,na.2.2,nb.1,nb.2.1,nb.2.2⟩,?_⟩;conv=>whnf
   refine ⟨⟨?_,?_⟩,?_⟩
   ·show (lexP a b).1.length ≤ 68719476736
    unfold lexP takeL
    rw [takeGo_len]
    exact Nat.le_trans pa.2.2 (by decide)
   ·show (lexN a b).1.length ≤ 68719476736
    unfold lexN takeL
    rw [takeGo_len]
    exact Nat.le_trans na.2.2 (by decide)
   conv=>whnf
   intro c hc
   have hc : lexBad a b = c:=hc
   rw [hc] at hk
   cases c with
   | true =>
    conv=>whnf
    exact hk
   | false =>
    conv=>whnf
    exact hk
  exact hk.elim
 exact hk.elim
end Sx
