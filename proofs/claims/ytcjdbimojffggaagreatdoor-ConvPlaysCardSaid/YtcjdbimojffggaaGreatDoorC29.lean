/- Part of the proof: a machine of states for walks, and contracts of functions over it. Conditions: those that each theorem names. -/
import Derived.Test.YtcjdbimojffggaaGreatDoorC28
import Derived.Test.YtcjdbimojffggaaGreatDoorC26
set_option linter.unusedVariables false
set_option linter.unusedSimpArgs false
namespace Sx
open Go Go.Proofs
set_option maxRecDepth 30000
theorem tl_le {x : Pl} {L : List Pl} {A : Int → Int} (h : PlOk (x :: L) A) (p : Int) : (if p = x.1 then 0 else A p) + (if x.1 = p then x.2 else 0) = A p:=by
 by_cases e : p = x.1
 ·rw [if_pos e,if_pos e.symm,e,h.hd.1]; omega
 rw [if_neg e,if_neg (fun h=>e h.symm)]; omega
theorem bothGo_sem : ∀ (k : Nat) (a b acc : List Pl) (F A B : Int → Int),a.length + b.length ≤ k → PlOk acc F → PlOk a A → PlOk b B → (∀ y ∈ acc,(∀ z ∈ a,y.1 < z.1) ∧ (∀ z ∈ b,y.1 < z.1)) →
  (bothGo k a b acc = none ∧ ∃ p,18446744073709551616 ≤ A p + B p) ∨ (∃ N,bothGo k a b acc = some N ∧ N.length ≤ acc.length + (a.length + b.length) ∧ PlOk N (fun p=>F p + (A p + B p)))
 | k,[],[],acc,F,A,B,hk,hF,hA,hB,hl=>.inr ⟨acc,bothGo_nil _ _,by simp,hF.congr fun p=>by rw [hA.none,hB.none]; omega⟩
 | 0,_ :: _,_,_,_,_,_,hk,_,_,_,_=>by simp at hk
 | 0,[],_ :: _,_,_,_,_,hk,_,_,_,_=>by simp at hk
 | k + 1,x :: a,[],acc,F,A,B,hk,hF,hA,hB,hl=>by
  have hx:=hA.hd
  have ha:=hA.tl
  have hs:=(List.pairwise_cons.1 hA.st).1
  rw [bothGo]
  rcases bothGo_sem k a [] (acc ++ [x]) _ _ _ (by simp at hk ⊢; omega) (hF.snoc (q:=x.1) (x:=x.2) (fun y hy=>(hl y hy).1 x List.mem_cons_self) ⟨hx.2.1,hx.2.2.1⟩) ha hB (fun y hy=>⟨fun z hz=>by
    rcases List.mem_append.1 hy with hy | hy
    ·exact (hl y hy).1 z (List.mem_cons_of_mem _ hz)
    obtain rfl:=List.mem_singleton.1 hy; exact hs z hz,fun z hz=>by cases hz⟩) with ⟨e,p,h⟩ | ⟨N,e,h1,h2⟩
  ·refine .inl ⟨e,p,?_⟩
   have:=tl_le hA p
   have:=hA.range p
   split at h <;> omega
  refine .inr ⟨N,e,by simp at h1 ⊢; omega,h2.congr fun p=>?_⟩
  have:=tl_le hA p
  omega
 | k + 1,[],y :: b,acc,F,A,B,hk,hF,hA,hB,hl=>by
  have hx:=hB.hd
  have ha:=hB.tl
  have hs:=(List.pairwise_cons.1 hB.st).1
  rw [bothGo]
  rcases bothGo_sem k [] b (acc ++ [y]) _ _ _ (by simp at hk ⊢; omega) (hF.snoc (q:=y.1) (x:=y.2) (fun z hz=>(hl z hz).2 y List.mem_cons_self) ⟨hx.2.1,hx.2.2.1⟩) hA ha (fun z hz=>⟨fun w hw=>(by cases hw),fun w hw=>by
    rcases List.mem_append.1 hz with hz | hz
    ·exact (hl z hz).2 w (List.mem_cons_of_mem _ hw)
    obtain rfl:=List.mem_singleton.1 hz; exact hs w hw⟩) with ⟨e,p,h⟩ | ⟨N,e,h1,h2⟩
  ·refine .inl ⟨e,p,?_⟩
   have:=tl_le hB p
   have:=hB.range p
   split at h <;> omega
  refine .inr ⟨N,e,by simp at h1 ⊢; omega,h2.congr fun p=>?_⟩
  have:=tl_le hB p
  omega
 | k + 1,x :: a,y :: b,acc,F,A,B,hk,hF,hA,hB,hl=>by
  have hx:=hA.hd
  have hy:=hB.hd
  have ha:=hA.tl
  have hb:=hB.tl
  have sa:=(List.pairwise_cons.1 hA.st).1
  have sb:=(List.pairwise_cons.1 hB.st).1
  rw [bothGo]
  by_cases c1 : x.1 < y.1
  ·rw [if_pos c1]
   rcases bothGo_sem k a (y :: b) (acc ++ [x]) _ _ _ (by simp at hk ⊢; omega) (hF.snoc (q:=x.1) (x:=x.2) (fun z hz=>(hl z hz).1 x List.mem_cons_self) ⟨hx.2.1,hx.2.2.1⟩) ha hB (fun z hz=>by
     rcases List.mem_append.1 hz with hz | hz
     ·exact ⟨fun w hw=>(hl z hz).1 w (List.mem_cons_of_mem _ hw),(hl z hz).2⟩
     obtain rfl:=List.mem_singleton.1 hz
     refine ⟨sa,fun w hw=>?_⟩
     rcases List.mem_cons.1 hw with rfl | hw
     ·exact c1
     have:=sb w hw; omega) with ⟨e,p,h⟩ | ⟨N,e,h1,h2⟩
   ·refine .inl ⟨e,p,?_⟩
    have:=tl_le hA p
    have:=hA.range p
    split at h <;> omega
   refine .inr ⟨N,e,by simp at h1 ⊢; omega,h2.congr fun p=>?_⟩
   have:=tl_le hA p
   omega
  rw [if_neg c1]
  by_cases c2 : y.1 < x.1
  ·rw [if_pos c2]
   rcases bothGo_sem k (x :: a) b (acc ++ [y]) _ _ _ (by simp at hk ⊢; omega) (hF.snoc (q:=y.1) (x:=y.2) (fun z hz=>(hl z hz).2 y List.mem_cons_self) ⟨hy.2.1,hy.2.2.1⟩) hA hb (fun z hz=>by
     rcases List.mem_append.1 hz with hz | hz
     ·exact ⟨(hl z hz).1,fun w hw=>(hl z hz).2 w (List.mem_cons_of_mem _ hw)⟩
     obtain rfl:=List.mem_singleton.1 hz
     refine ⟨fun w hw=>?_,sb⟩
     rcases List.mem_cons.1 hw with rfl | hw
     ·exact c2
     have:=sa w hw; omega) with ⟨e,p,h⟩ | ⟨N,e,h1,h2⟩
   ·refine .inl ⟨e,p,?_⟩
    have:=tl_le hB p
    have:=hB.range p
    split at h <;> omega
   refine .inr ⟨N,e,by simp at h1 ⊢; omega,h2.congr fun p=>?_⟩
   have:=tl_le hB p
   omega
  rw [if_neg c2]
  have exy : x.1 = y.1:=by omega
  have gi:=ge_iff (m:=x.2) (x:=y.2) ⟨by omega,hx.2.2.1⟩ ⟨by omega,hy.2.2.1⟩
  by_cases g : x64 (x.2 + y.2) ≥ x.2
  ·have g':=gi.1 g
   rw [if_pos g,x64_eq (by omega)]
   rcases bothGo_sem k a b (acc ++ [(x.1,x.2 + y.2)]) _ _ _ (by simp at hk ⊢; omega) (hF.snoc (q:=x.1) (x:=x.2 + y.2) (fun z hz=>(hl z hz).1 x List.mem_cons_self) ⟨by omega,g'⟩) ha hb (fun z hz=>by
     rcases List.mem_append.1 hz with hz | hz
     ·exact ⟨fun w hw=>(hl z hz).1 w (List.mem_cons_of_mem _ hw),fun w hw=>(hl z hz).2 w (List.mem_cons_of_mem _ hw)⟩
     obtain rfl:=List.mem_singleton.1 hz
     exact ⟨sa,fun w hw=>by have:=sb w hw; simp only; omega⟩) with ⟨e,p,h⟩ | ⟨N,e,h1,h2⟩
   ·refine .inl ⟨e,p,?_⟩
    have:=hA.range p
    have:=hB.range p
    split at h <;> split at h <;> omega
   refine .inr ⟨N,e,by simp at h1 ⊢; omega,h2.congr fun p=>?_⟩
   have h3:=tl_le hA p
   have h4:=tl_le hB p
   rw [← exy] at h4
   by_cases e : p = x.1
   ·have e' : x.1 = p:=e.symm
    simp only [if_pos e,if_pos e'] at h3 h4 ⊢; rw [if_pos (by rw [← exy]; exact e)]; omega
   have e' : ¬ x.1 = p:=fun h=>e h.symm
   simp only [if_neg e,if_neg e'] at h3 h4 ⊢; rw [if_neg (by rw [← exy]; exact e)]; omega
  rw [if_neg g]
  refine .inl ⟨rfl,x.1,?_⟩
  have h1:=hx.1
  have h2:=hy.1
  rw [← exy] at h2
  have : ¬ x.2 + y.2 < 18446744073709551616:=fun h=>g (gi.2 h)
  omega
theorem dnGo_get (q : Int) : ∀ (L : List Pl) (c : List Int) (j : Nat),L.Pairwise (fun a b=>a.1 < b.1) → (∀ x ∈ L,q ≤ x.1 ∧ (x.1 - q).toNat < c.length) →
  ((∀ x ∈ L,x.1 ≠ q + j) → (dnGo q L c).getD j 0 = c.getD j 0) ∧ (∀ x ∈ L,x.1 = q + j → (dnGo q L c).getD j 0 = x.2)
 | [],c,j,_,_=>⟨fun _=>rfl,fun x hx=>by cases hx⟩
 | x :: L,c,j,hs,hr=>by
  have hs':=List.pairwise_cons.1 hs
  have ih:=dnGo_get q L (c.set (x.1 - q).toNat x.2) j hs'.2 fun y hy=>by rw [List.length_set]; exact hr y (List.mem_cons_of_mem _ hy)
  have hx:=hr x List.mem_cons_self
  rw [dnGo]
  refine ⟨fun h=>?_,fun y hy e=>?_⟩
  ·rw [ih.1 fun y hy=>h y (List.mem_cons_of_mem _ hy),getD_set _ _ _ _ hx.2,if_neg (by have:=h x List.mem_cons_self; omega)]
  rcases List.mem_cons.1 hy with rfl | hy
  ·rw [ih.1 fun z hz=>by have:=hs'.1 z hz; omega,getD_set _ _ _ _ hx.2,if_pos (by omega)]
  exact ih.2 y hy e
end Sx
namespace Sx
open Go Go.Proofs
set_option maxRecDepth 30000
theorem hZip_r (l m : List Int) : R64 (hZip l m):=by
 intro x hx
 unfold hZip at hx
 obtain ⟨i,hi,rfl⟩:=List.getElem_of_mem hx
 rw [List.getElem_zipWith]
 exact x64_r _
structure HR (a : HistD) : Prop where
 r : R64 a.cs
 ct : 0 ≤ a.count ∧ a.count < 18446744073709551616
theorem HR.add {a b : HistD} (z : Int) : HR (histE a b z):=⟨hZip_r _ _,x64_r _⟩
theorem downGo_flag (f : Int) (n : Nat) : ∀ (l : List Int) (i : Nat) (c : List Int) (bad : Bool),downGo f n i l c bad = ((downGo f n i l c false).1,bad || (downGo f n i l c false).2)
 | [],_,_,bad=>by simp [downGo]
 | x :: l,i,c,bad=>by
  rw [downGo,downGo_flag f n l,downGo,downGo_flag f n l (i + 1) _ (false || _)]
  simp [Bool.or_assoc]
theorem downL_flag (f : Int) (l : List Int) (n : Nat) (bad : Bool) : downL f l n bad = ((downL f l n false).1,(downL f l n false).2.1,bad || (downL f l n false).2.2):=by
 unfold downL
 split
 ·simp
 rw [downGo_flag]
theorem oneSide_sem {s t : Int × List Int} {x y : Nat} {bad : Bool} :
  ((oneSide s t x y bad).2.2 = false ↔ bad = false ∧ (downL s.1 s.2 x false).2.2 = false ∧ (downL t.1 t.2 y false).2.2 = false ∧ ∀ p,sAt (downL s.1 s.2 x false).1 (downL s.1 s.2 x false).2.1 p + sAt (downL t.1 t.2 y false).1 (downL t.1 t.2 y false).2.1 p < 18446744073709551616) ∧
  ((oneSide s t x y bad).2.2 = false → ∀ p,sAt (oneSide s t x y bad).1 (oneSide s t x y bad).2.1 p = sAt (downL s.1 s.2 x false).1 (downL s.1 s.2 x false).2.1 p + sAt (downL t.1 t.2 y false).1 (downL t.1 t.2 y false).2.1 p):=by
 have h:=addL_sem (f:=(downL s.1 s.2 x false).1) (g:=(downL t.1 t.2 y false).1) (downL_r s.1 s.2 x false) (downL_r t.1 t.2 y false) ((bad || (downL s.1 s.2 x false).2.2) || (downL t.1 t.2 y false).2.2)
 unfold oneSide
 rw [downL_flag s.1 s.2 x bad,downL_flag t.1 t.2 y _]
 simp only
 refine ⟨?_,h.2⟩
 rw [h.1,Bool.or_eq_false_iff,Bool.or_eq_false_iff,and_assoc,and_assoc]
theorem addBad_def (a b : ExpD) (x y : Nat) : addBad a b x y = ((addNn a b x y).2.2 || (bigS (addP a b x y).1 (addP a b x y).2.1 || bigS (addNn a b x y).1 (addNn a b x y).2.1)):=rfl
end Sx
namespace Sx
open Go Go.Proofs
set_option maxRecDepth 30000
theorem Ds_app (f : Int) (n : Nat) : ∀ (l m : List Int) (i : Nat) (p : Int),Ds f n i (l ++ m) p = Ds f n i l p + Ds f n (i + l.length) m p
 | [],m,i,p=>by simp [Ds]
 | x :: l,m,i,p=>by
  rw [List.cons_append,Ds,Ds,Ds_app f n l m,List.length_cons,show i + 1 + l.length = i + (l.length + 1) by omega]; omega
theorem Ds_zero (f : Int) (n : Nat) : ∀ (l : List Int) (i : Nat) (p : Int),(∀ x ∈ l,x = 0) → Ds f n i l p = 0
 | [],_,_,_=>rfl
 | x :: l,i,p,h=>by
  rw [Ds,Ds_zero f n l _ _ fun y hy=>h y (List.mem_cons_of_mem _ hy),h x List.mem_cons_self]; simp
theorem Ds_shift (f : Int) (n k : Nat) : ∀ (l : List Int) (i : Nat) (p : Int),Ds f n (k + i) l p = Ds (f + k) n i l p
 | [],_,_=>rfl
 | x :: l,i,p=>by
  rw [Ds,Ds,← Ds_shift f n k l (i + 1) p,show k + i + 1 = k + (i + 1) by omega,show f + ((k + i : Nat) : Int) = f + (k : Int) + (i : Int) by omega]
theorem rep_zero {x : Int} {n : Nat} (h : x ∈ List.replicate n (0 : Int)) : x = 0:=(List.mem_replicate.1 h).2
theorem Ds_trim {f : Int} {l : List Int} (h1 : -4611686018427387904 ≤ f) (h2 : f + l.length ≤ 4611686018427387904) (n : Nat) (p : Int) : Ds (trim f l).1 n 0 (trim f l).2 p = Ds f n 0 l p:=by
 rcases trim_spec l f h1 h2 with ⟨h,h0⟩ | ⟨k,m,c,h,hc,_,_,hll⟩
 ·rw [h,Ds_zero f n l 0 p h0]; rfl
 rw [h]
 subst hll
 rw [Ds_app,Ds_app,Ds_zero f n (List.replicate k 0) 0 p fun x hx=>rep_zero hx,Ds_zero f n (List.replicate m 0) _ p fun x hx=>rep_zero hx,List.length_replicate]
 have:=Ds_shift f n k c 0 p
 rw [show 0 + k = k + 0 by omega,this]; simp
theorem Ds_before {f : Int} {n : Nat} {l : List Int} {p : Int} (h : p < shr f n) : Ds f n 0 l p = 0:=Classical.byContradiction fun hn=>by
 obtain ⟨j,_,e⟩:=Ds_in f n l 0 p hn
 have:=shr_mono (a:=f) (b:=f + ((0 + j : Nat) : Int)) n (by omega)
 omega
theorem downGo_sem (f : Int) (n : Nat) : ∀ (l : List Int) (i : Nat) (c : List Int),R64 l → R64 c → (∀ j,j < l.length → place f n (i + j) < c.length) →
  ((downGo f n i l c false).2 = false ↔ ∀ q : Nat,c.getD q 0 + Ds f n i l (shr f n + q) < 18446744073709551616) ∧
  ((downGo f n i l c false).2 = false → ∀ q : Nat,(downGo f n i l c false).1.getD q 0 = c.getD q 0 + Ds f n i l (shr f n + q))
 | [],i,c,hl,hc,hp=>by
  rw [downGo]
  refine ⟨⟨fun _ q=>by rw [Ds]; have:=(getD_r hc q).2; omega,fun _=>rfl⟩,fun _ q=>by rw [Ds]; show c.getD q 0 = _; omega⟩
 | x :: l,i,c,hl,hc,hp=>by
  have hx:=hl.hd
  have hp0:=hp 0 (by simp)
  rw [Nat.add_zero] at hp0
  have hb:=shr_mono (a:=f) (b:=f + (i : Int)) n (by omega)
  have hpl : shr f n + ((place f n i : Nat) : Int) = shr (f + i) n:=by unfold place; omega
  have hcp:=getD_r hc (place f n i)
  have wl:=wrap_lt hcp hx
  rw [downGo,Bool.false_or]
  by_cases g : c.getD (place f n i) 0 + x < 18446744073709551616
  ·rw [decide_eq_false (by omega),x64_eq (by omega)]
   have ih:=downGo_sem f n l (i + 1) (c.set (place f n i) (c.getD (place f n i) 0 + x)) hl.tl (fun y hy=>by
     rcases List.mem_or_eq_of_mem_set hy with hy | rfl
     ·exact hc y hy
     omega) (fun j hj=>by
    have:=hp (j + 1) (by simp; omega)
    simp only [List.length_set]
    rwa [show i + 1 + j = i + (j + 1) from by omega])
   have e : ∀ q : Nat,(c.set (place f n i) (c.getD (place f n i) 0 + x)).getD q 0 + Ds f n (i + 1) l (shr f n + q) = c.getD q 0 + Ds f n i (x :: l) (shr f n + q):=by
    intro q
    rw [getD_set _ _ _ _ hp0,Ds]
    by_cases e : q = place f n i
    ·subst e; rw [if_pos rfl,if_pos (by omega)]; omega
    rw [if_neg e,if_neg (by omega)]; omega
   refine ⟨⟨fun h q=>by rw [← e]; exact ih.1.1 h q,fun h=>ih.1.2 fun q=>by rw [e]; exact h q⟩,fun h q=>by rw [← e]; exact ih.2 h q⟩
  rw [decide_eq_true (by omega),downGo_bad]
  refine ⟨⟨fun h=>(by cases h),fun h=>?_⟩,fun h=>by cases h⟩
  have:=h (place f n i)
  rw [Ds,if_pos (by omega)] at this
  have:=Ds_nn f n l (i + 1) (shr f n + ((place f n i : Nat) : Int)) hl.tl
  omega
theorem downL_sem {f : Int} {l : List Int} (h1 : -4611686018427387904 ≤ f) (h2 : f + l.length ≤ 4611686018427387904) (hl : R64 l) (n : Nat) :
  ((downL f l n false).2.2 = false ↔ ∀ p,Ds f n 0 l p < 18446744073709551616) ∧
  ((downL f l n false).2.2 = false → ∀ p,sAt (downL f l n false).1 (downL f l n false).2.1 p = Ds f n 0 l p):=by
 have ht : ∀ p,Ds (trim f l).1 n 0 (trim f l).2 p = Ds f n 0 l p:=fun p=>Ds_trim h1 h2 n p
 have hr : R64 (trim f l).2:=fun x hx=>hl x (trim_mem hx)
 unfold downL
 generalize trim f l = t at *
 obtain ⟨g,c⟩:=t
 cases c with
 | nil=>exact ⟨⟨fun _ p=>by rw [← ht]; show (0 : Int) < _; decide,fun _=>rfl⟩,fun _ p=>by rw [← ht,sAt_nil]; rfl⟩
 | cons a r =>
  simp only at ht hr ⊢
  have hs:=downGo_sem g n (a :: r) 0 (List.replicate (wideS g (a :: r) n).toNat 0) hr (rep_r _) (fun j hj=>by rw [List.length_replicate,Nat.zero_add]; exact place_lt hj)
  have e : ∀ q : Nat,(List.replicate (wideS g (a :: r) n).toNat (0 : Int)).getD q 0 + Ds g n 0 (a :: r) (shr g n + q) = Ds f n 0 l (shr g n + q):=fun q=>by rw [getD_rep,ht]; omega
  have out : ∀ p,p < shr g n → Ds f n 0 l p = 0:=fun p hp=>by rw [← ht]; exact Ds_before hp
  refine ⟨⟨fun h p=>?_,fun h=>hs.1.2 fun q=>by rw [e]; exact h _⟩,fun h p=>?_⟩
  ·by_cases hp : p < shr g n
   ·rw [out p hp]; decide
   have:=hs.1.1 h (p - shr g n).toNat
   rw [e,show shr g n + (((p - shr g n).toNat : Nat) : Int) = p by omega] at this
   exact this
  unfold sAt
  by_cases hp : p < shr g n
  ·rw [if_neg (by omega),out p hp]
  rw [if_pos (by omega),hs.2 h,e,show shr g n + (((p - shr g n).toNat : Nat) : Int) = p by omega]
theorem endP_ge {L : List Pl} {F : Int → Int} (h : PlOk L F) (hne : L ≠ []) : (∃ q ∈ L,q.1 = endP L) ∧ ∀ y ∈ L,y.1 ≤ endP L:=by
 obtain ⟨I,q,rfl⟩:=snoc_of hne
 unfold endP
 rw [getD_snoc]
 refine ⟨⟨q,List.mem_append_right _ List.mem_cons_self,rfl⟩,fun y hy=>?_⟩
 rcases List.mem_append.1 hy with hy | hy
 ·have:=(List.pairwise_append.1 h.st).2.2 y hy q List.mem_cons_self; omega
 obtain rfl:=List.mem_singleton.1 hy; exact Int.le_refl _
theorem first_le {x : Pl} {L : List Pl} {F : Int → Int} (h : PlOk (x :: L) F) : ∀ y ∈ x :: L,x.1 ≤ y.1:=fun y hy=>by
 rcases List.mem_cons.1 hy with rfl | hy
 ·exact Int.le_refl _
 have:=(List.pairwise_cons.1 h.st).1 y hy; omega
theorem dense_sem {x : Pl} {L : List Pl} {F : Int → Int} (h : PlOk (x :: L) F) {c : List Int} (hc : c = dnGo x.1 (x :: L) (List.replicate (endP (x :: L) - x.1 + 1).toNat 0)) :
  Tight (x.1,c) ∧ (∀ p,sAt x.1 c p = F p) ∧ ((c.length : Nat) : Int) = endP (x :: L) - x.1 + 1:=by
 obtain ⟨⟨q,hq,eq⟩,hle⟩:=endP_ge h (by simp)
 have hf:=first_le h
 have hx:=hle x List.mem_cons_self
 have hlen : c.length = (endP (x :: L) - x.1 + 1).toNat:=by rw [hc,dnGo_len,List.length_replicate]
 have hg:=fun j=>dnGo_get x.1 (x :: L) (List.replicate (endP (x :: L) - x.1 + 1).toNat 0) j h.st fun y hy=>by
  have:=hf y hy; have:=hle y hy
  rw [List.length_replicate]; omega
 rw [← hc] at hg
 have key : ∀ y ∈ x :: L,c.getD (y.1 - x.1).toNat 0 = y.2:=fun y hy=>(hg _).2 y hy (by have:=hf y hy; omega)
 refine ⟨.inr ⟨?_,?_,?_⟩,fun p=>?_,by omega⟩
 ·intro e; have e : c = []:=e; rw [e] at hlen; simp at hlen; omega
 ·have:=key x List.mem_cons_self
  rw [Int.sub_self] at this
  simp only
  rw [show (0 : Nat) = (0 : Int).toNat from rfl,this]
  have:=(h.val x List.mem_cons_self).2.1; omega
 ·have:=key q hq
  simp only
  rw [show c.length - 1 = (q.1 - x.1).toNat by omega,this]
  have:=(h.val q hq).2.1; omega
 unfold sAt
 by_cases hp : x.1 ≤ p
 ·rw [if_pos hp]
  by_cases hk : ∃ y ∈ x :: L,y.1 = p
  ·obtain ⟨y,hy,rfl⟩:=hk
   rw [key y hy]; exact (h.val y hy).1
  rw [(hg (p - x.1).toNat).1 fun y hy e=>hk ⟨y,hy,by omega⟩,getD_rep]
  exact (h.zero fun y hy e=>hk ⟨y,hy,e⟩).symm
 rw [if_neg hp]
 exact (h.hd.2.2.2 p (by omega)).symm
end Sx
namespace Sx
open Go Go.Proofs
set_option maxRecDepth 30000
theorem pl_ok {f : Int} {n : Nat} {l : List Int} {L : List Pl} (hl : R64 l) (h : plGo f n 0 l [] = some L) : PlOk L (Ds f n 0 l) ∧ L.length ≤ l.length:=by
 rcases plGo_sem f n l 0 [] _ hl PlOk.nil (fun y hy=>by cases hy) with ⟨e,_⟩ | ⟨L',e,a,b⟩
 ·rw [e] at h; cases h
 rw [e] at h
 obtain rfl:=Option.some.inj h
 exact ⟨b.congr fun p=>by omega,by simpa using a⟩
theorem pl_none {f : Int} {n : Nat} {l : List Int} (hl : R64 l) (h : plGo f n 0 l [] = none) : ∃ p,18446744073709551616 ≤ Ds f n 0 l p:=by
 rcases plGo_sem f n l 0 [] _ hl PlOk.nil (fun y hy=>by cases hy) with ⟨e,p,hp⟩ | ⟨L',e,a,b⟩
 ·exact ⟨p,by omega⟩
 rw [e] at h; cases h
theorem bo_ok {L M N : List Pl} {A B : Int → Int} (hL : PlOk L A) (hM : PlOk M B) (h : bothGo (L.length + M.length) L M [] = some N) : PlOk N (fun p=>A p + B p) ∧ N.length ≤ L.length + M.length:=by
 rcases bothGo_sem _ L M [] _ A B (Nat.le_refl _) PlOk.nil hL hM (fun y hy=>by cases hy) with ⟨e,_⟩ | ⟨N',e,a,b⟩
 ·rw [e] at h; cases h
 rw [e] at h
 obtain rfl:=Option.some.inj h
 exact ⟨b.congr fun p=>by omega,by simpa using a⟩
theorem bo_none {L M : List Pl} {A B : Int → Int} (hL : PlOk L A) (hM : PlOk M B) (h : bothGo (L.length + M.length) L M [] = none) : ∃ p,18446744073709551616 ≤ A p + B p:=by
 rcases bothGo_sem _ L M [] _ A B (Nat.le_refl _) PlOk.nil hL hM (fun y hy=>by cases hy) with ⟨e,h⟩ | ⟨N',e,a,b⟩
 ·exact h
 rw [e] at h; cases h
theorem Ds_near {f : Int} {n : Nat} {l : List Int} (h : InB f l) {p : Int} (hp : Ds f n 0 l p ≠ 0) : -2147487398 ≤ p ∧ p ≤ 2147487398:=by
 obtain ⟨j,h1,h2⟩:=Ds_in f n l 0 p hp
 obtain ⟨a,b,c⟩:=h
 have:=shr_bound (a:=f + ((0 + j : Nat) : Int)) n (m:=2147487398) (by omega) (by omega) (by omega)
 omega
theorem DnOk_of {N : List Pl} {F : Int → Int} (h : PlOk N F) (hl : N.length ≤ 7500) (hp : ∀ p,F p ≠ 0 → -2147487398 ≤ p ∧ p ≤ 2147487398) : DnOk N:=by
 have key : ∀ x ∈ N,-2147487398 ≤ x.1 ∧ x.1 ≤ 2147487398:=fun x hx=>hp _ (by have:=h.val x hx; omega)
 cases N with
 | nil=>exact ⟨hl,fun x hx=>(by cases hx),by decide,by decide,by decide⟩
 | cons x L =>
  obtain ⟨⟨q,hq,e⟩,hle⟩:=endP_ge h (by simp)
  have k1:=key x List.mem_cons_self
  have k2:=key q hq
  refine ⟨hl,fun y hy=>⟨first_le h y hy,hle y hy⟩,?_,by omega,?_⟩
  ·show -1099511627776 ≤ x.1; omega
  show endP (x :: L) - x.1 ≤ _; omega
def sidesV (f : Int) (l : List Int) (g : Int) (m : List Int) (x y : Nat) : Option (Int × List Int):=match plGo f x 0 l [],plGo g y 0 m [] with
 | some L,some M=>match bothGo (L.length + M.length) L M [] with
  | some N=>if (denseV N).2 = true then some (denseV N).1 else none
  | none=>none
 | _,_=>none
def oursV (f : Int) (l : List Int) (g : Int) (m : List Int) (x y : Nat) : Option (Int × List Int) :=
 bif (oneSide (trim f l) (trim g m) x y false).2.2 || bigS (oneSide (trim f l) (trim g m) x y false).1 (oneSide (trim f l) (trim g m) x y false).2.1 then none
 else some (trim (oneSide (trim f l) (trim g m) x y false).1 (oneSide (trim f l) (trim g m) x y false).2.1)
theorem down_trim {f : Int} {l : List Int} (h : InB f l) (n : Nat) : downL (trim f l).1 (trim f l).2 n false = downL f l n false:=downL_trim ⟨h.1,h.2.1⟩ h.2.2 n false
theorem one_near {f g : Int} {l m : List Int} (hf : InB f l) (hg : InB g m) (rl : R64 l) (rm : R64 m) {x y : Nat} (h : (oneSide (trim f l) (trim g m) x y false).2.2 = false) :
  -4611686018427387904 ≤ (oneSide (trim f l) (trim g m) x y false).1 ∧ (oneSide (trim f l) (trim g m) x y false).1 + ((oneSide (trim f l) (trim g m) x y false).2.1.length : Nat) ≤ 4611686018427387904:=by
 have so:=side_ok ⟨hf.1,hf.2.1⟩ hf.2.2 ⟨hg.1,hg.2.1⟩ hg.2.2 rl rm h
 have l1:=so.lo
 have l2:=so.hi
 have l3:=so.len
 have w : wideV (trim f l) (trim g m) x y ≤ 68719476736:=by
  have near : ∀ {f : Int} {l : List Int} (n : Nat),InB f l → -2147487398 ≤ (trim f l).1 ∧ (trim f l).1 ≤ 2147487398 ∧ ((trim f l).2.length ≤ 3750):=by
   intro f l n hf
   obtain ⟨a,b,c⟩:=hf
   have hl:=Nat.le_trans (trim_len f l) c
   rcases trim_spec l f (by omega) (by omega) with ⟨e,_⟩ | ⟨k,j,d,e,_,_,_,hll⟩
   ·rw [e]; exact ⟨by decide,by decide,by simp⟩
   have:=congrArg List.length hll
   simp only [List.length_append,List.length_replicate] at this
   rw [e] at hl ⊢
   exact ⟨by simp only; omega,by simp only; omega,hl⟩
  have n1:=near x hf
  have n2:=near y hg
  generalize trim f l = s at n1
  generalize trim g m = t at n2
  obtain ⟨s1,s2⟩:=s
  obtain ⟨t1,t2⟩:=t
  simp only at n1 n2
  have b1:=shr_bound (a:=s1) x (m:=2147491148) (by omega) (by omega) (by omega)
  have b2:=shr_bound (a:=t1) y (m:=2147491148) (by omega) (by omega) (by omega)
  have b3:=shr_bound (a:=s1 + s2.length - 1) x (m:=2147491149) (by omega) (by omega) (by omega)
  have b4:=shr_bound (a:=t1 + t2.length - 1) y (m:=2147491149) (by omega) (by omega) (by omega)
  unfold wideV hiS
  cases s2 with
  | nil=>cases t2 with
   | nil=>simp only; omega
   | cons b q=>simp only at *; omega
  | cons a r=>cases t2 with
   | nil=>simp only at *; omega
   | cons b q=>simp only at *; split <;> split <;> omega
 rw [l3]
 omega
theorem sides_eq {f g : Int} {l m : List Int} (hf : InB f l) (hg : InB g m) (rl : R64 l) (rm : R64 m) (x y : Nat) : sidesV f l g m x y = oursV f l g m x y:=by
 have b1 : -4611686018427387904 ≤ f ∧ f + (l.length : Nat) ≤ 4611686018427387904:=by obtain ⟨a,b,c⟩:=hf; omega
 have b2 : -4611686018427387904 ≤ g ∧ g + (m.length : Nat) ≤ 4611686018427387904:=by obtain ⟨a,b,c⟩:=hg; omega
 have d1:=downL_sem b1.1 b1.2 rl x
 have d2:=downL_sem b2.1 b2.2 rm y
 have os:=oneSide_sem (s:=trim f l) (t:=trim g m) (x:=x) (y:=y) (bad:=false)
 have on:=one_near (x:=x) (y:=y) hf hg rl rm
 rw [down_trim hf,down_trim hg] at os
 unfold sidesV oursV
 generalize oneSide (trim f l) (trim g m) x y false = O at os on
 obtain ⟨o,c,bd⟩:=O
 simp only at os on ⊢
 have bad1 : (∃ p,18446744073709551616 ≤ Ds f x 0 l p) → bd = true:=fun ⟨p,hp⟩=>by
  cases bd with
  | true=>rfl
  | false=>have:=d1.1.1 (os.1.1 rfl).2.1 p; omega
 have bad2 : (∃ p,18446744073709551616 ≤ Ds g y 0 m p) → bd = true:=fun ⟨p,hp⟩=>by
  cases bd with
  | true=>rfl
  | false=>have:=d2.1.1 (os.1.1 rfl).2.2.1 p; omega
 cases hL : plGo f x 0 l [] with
 | none=>rw [bad1 (pl_none rl hL)]; rfl
 | some L =>
  cases hM : plGo g y 0 m [] with
  | none=>rw [bad2 (pl_none rm hM)]; rfl
  | some M =>
   obtain ⟨oL,lL⟩:=pl_ok rl hL
   obtain ⟨oM,lM⟩:=pl_ok rm hM
   have f1:=d1.1.2 fun p=>(oL.range p).2
   have f2:=d2.1.2 fun p=>(oM.range p).2
   have v1:=d1.2 f1
   have v2:=d2.2 f2
   simp only
   cases hN : bothGo (L.length + M.length) L M [] with
   | none =>
    obtain ⟨p,hp⟩:=bo_none oL oM hN
    cases bd with
    | true=>rfl
    | false=>have:=(os.1.1 rfl).2.2.2 p; rw [v1,v2] at this; omega
   | some N =>
    obtain ⟨oN,lN⟩:=bo_ok oL oM hN
    have hbd : bd = false:=os.1.2 ⟨trivial,f1,f2,fun p=>by rw [v1,v2]; exact (oN.range p).2⟩
    subst hbd
    have hv : ∀ p,sAt o c p = Ds f x 0 l p + Ds g y 0 m p:=fun p=>by rw [os.2 rfl,v1,v2]
    have nr:=on rfl
    have tT:=trim_tight (f:=o) (l:=c) nr.1 nr.2
    have tv:=trim_at (f:=o) (l:=c) nr.1 nr.2
    simp only [Bool.false_or]
    cases N with
    | nil =>
     have e : trim o c = (0,[]):=canon tT (.inl rfl) fun p=>by rw [tv,hv,sAt_nil]; exact oN.none p
     unfold bigS
     rw [e]
     rfl
    | cons z Z =>
     obtain ⟨t1,t2,_⟩:=dense_sem oN (c:=_) rfl
     have e:=canon tT t1 fun p=>by rw [tv,hv]; exact (t2 p).symm
     unfold bigS
     rw [e]
     by_cases hz : z.1 > 2147483647
     ·rw [decide_eq_true hz]
      have : denseV (z :: Z) = ((0,[]),false):=if_pos hz
      rw [this]; rfl
     rw [decide_eq_false hz]
     have : denseV (z :: Z) = ((z.1,dnGo z.1 (z :: Z) (List.replicate (endP (z :: Z) - z.1 + 1).toNat 0)),true):=if_neg hz
     rw [this]; rfl
end Sx
namespace Sx
open Go Go.Proofs
set_option maxRecDepth 30000
variable {G : Glob}
def outS (o : Option (Int × List Int)) : Out SV:=match o with
 | some p=>.ret (.t [.a [I32 (w32 p.1),.d 38 (.ints p.2),St nos],.c (Bo true)])
 | none=>.ret (.t [.a [I32 0,.d 38 (.ints []),St nos],.c (Bo false)])
def sidesT : List U → Out SV
 | [.a [.v (.int .i32 f),.d 38 (.ints l),.v (.string s)],.a [.v (.int .i32 g),.d 38 (.ints m),.v (.string t)],.c (.v (.int .i64 x)),.c (.v (.int .i64 y))] =>
  .need ((InB f l ∧ InS x ∧ R64 l) ∧ InB g m ∧ InS y ∧ R64 m) (.all (Option (Int × List Int)) (fun o=>oursV f l g m x.toNat y.toNat = o) ⟨_,rfl⟩ outS)
 | _=>.fail
theorem dense_false {N : List Pl} (h : (denseV N).2 = false) : denseV N = ((0,[]),false):=by
 unfold denseV at h ⊢
 split
 ·cases h
 split
 ·rfl
 rename_i hn
 simp only [if_neg hn] at h
 cases h
theorem sides_ex : Ok G 124 sidesT:=by
 have hS : AllSound (B [(161,.pure (normG (B []) [42,3] placesT)),(162,.pure (normG (B []) [244,244] bothT2)),(163,.pure (normG (B []) [244] denseT))]) G:=.cons _ places_ex (.cons _ bothR_ex (.cons _ dense_ex noneS))
 refine okP hS Tryz.func124 rfl (by decide) fun K us hk=>?_
 unfold sidesT at hk
 split at hk
 ·rename_i f l s g m t x y
  refine ⟨by show 4 ≤ _; decide,?_⟩
  obtain ⟨⟨⟨f1,f2,f3⟩,g1,g2,g3⟩,hk⟩:=hk
  have hk:=hk _ rfl
  rw [← sides_eq f1 g1 f3 g3] at hk
  have lf:=f1.2.2
  have lg:=g1.2.2
  unfold sidesV at hk
  conv=>whnf
  refine ⟨⟨f1,f2⟩,?_⟩;conv=>whnf
  intro oL hL
  have hL : plGo f x.toNat 0 l [] = oL:=hL
  rw [hL] at hk
  cases oL with
  | none =>
   conv=>whnf
   refine ⟨⟨g1,g2⟩,?_⟩;conv=>whnf
   intro oM hM
   cases oM with
   | none =>
    conv=>whnf
    exact hk
   | some M =>
    conv=>whnf
    exact hk
  | some L =>
   conv=>whnf
   refine ⟨⟨g1,g2⟩,?_⟩;conv=>whnf
   intro oM hM
   have hM : plGo g y.toNat 0 m [] = oM:=hM
   rw [hM] at hk
   cases oM with
   | none =>
    conv=>whnf
    exact hk
   | some M =>
    obtain ⟨pL,lL⟩:=pl_ok f3 hL
    obtain ⟨pM,lM⟩:=pl_ok g3 hM
    conv=>whnf
    refine ⟨⟨by show (rowsP L).length ≤ 3750; rw [rowsP_len]; omega,by show (rowsP M).length ≤ 3750; rw [rowsP_len]; omega⟩,?_⟩;conv=>whnf
    intro oN hN
    have hN : bothGo ((rowsP L).length + (rowsP M).length) (unP (rowsP L)) (unP (rowsP M)) [] = oN:=hN
    rw [rowsP_len,rowsP_len,unP_rowsP,unP_rowsP] at hN
    simp only [hN] at hk
    cases oN with
    | none =>
     conv=>whnf
     exact hk
    | some N =>
     obtain ⟨pN,lN⟩:=bo_ok pL pM hN
     have hd : DnOk N:=DnOk_of pN (by omega) fun p hp=>by
      by_cases h0 : Ds f x.toNat 0 l p = 0
      ·exact Ds_near g1 (fun h1=>hp (by rw [h0,h1]; rfl))
      exact Ds_near f1 h0
     conv=>whnf
     refine ⟨by show DnOk (unP (rowsP N)); rw [unP_rowsP]; exact hd,?_⟩;conv=>whnf
     have e : outD (denseV (unP (rowsP N))) = outD (denseV N):=by rw [unP_rowsP]
     refine fin (?_ : K (outD (denseV N))) e.symm
     cases hb : (denseV N).2 with
     | true =>
      simp only [hb,if_true] at hk
      refine fin hk (?_ : _ = outD (denseV N))
      unfold outD
      rw [hb]
     | false =>
      simp only [hb] at hk
      rw [dense_false hb]
      exact hk
 exact hk.elim
end Sx
namespace Sx
open Go Go.Proofs
set_option maxRecDepth 30000
theorem endsGo_app (f : Int) (n : Nat) : ∀ (l m : List Int) (i : Nat) (s : Int × Int × Bool),endsGo f n i (l ++ m) s = endsGo f n (i + l.length) m (endsGo f n i l s)
 | [],m,i,s=>rfl
 | x :: l,m,i,s=>by
  rw [List.cons_append,endsGo,endsGo,endsGo_app f n l m,List.length_cons,show i + 1 + l.length = i + (l.length + 1) by omega]
theorem endsGo_zero (f : Int) (n : Nat) : ∀ (l : List Int) (i : Nat) (s : Int × Int × Bool),(∀ x ∈ l,x = 0) → endsGo f n i l s = s
 | [],_,_,_=>rfl
 | x :: l,i,s,h=>by
  rw [endsGo,if_pos (h x List.mem_cons_self)]
  exact endsGo_zero f n l _ _ fun y hy=>h y (List.mem_cons_of_mem _ hy)
theorem endsGo_on (f : Int) (n : Nat) : ∀ (l : List Int) (i : Nat) (lo hi : Int),∃ h,endsGo f n i l (lo,hi,true) = (lo,h,true)
 | [],_,_,hi=>⟨hi,rfl⟩
 | x :: l,i,lo,hi=>by
  rw [endsGo]
  by_cases h : x = 0
  ·rw [if_pos h]; exact endsGo_on f n l _ _ _
  rw [if_neg h]; exact endsGo_on f n l _ _ _
def endsV (n : Nat) (t : Int × List Int) : Int × Int × Bool:=match t with
 | (_,[])=>(0,0,false)
 | (g,a :: r)=>(shr g n,hiS g (a :: r) n,true)
theorem ends_eq {f : Int} {l : List Int} (h : InB f l) (n : Nat) : endsGo f n 0 l (0,0,false) = endsV n (trim f l):=by
 obtain ⟨h1,h2,h3⟩:=h
 rcases trim_spec l f (by omega) (by omega) with ⟨e,h0⟩ | ⟨k,j,c,e,hc,c0,cl,hll⟩
 ·rw [e,endsGo_zero f n l 0 _ h0]; rfl
 rw [e,hll,endsGo_app,endsGo_app,endsGo_zero f n (List.replicate k 0) 0 _ fun x hx=>rep_zero hx,endsGo_zero f n (List.replicate j 0) _ _ fun x hx=>rep_zero hx,List.length_replicate]
 cases c with
 | nil=>exact absurd rfl hc
 | cons a r =>
  have c0 : ¬ a = 0:=c0
  rw [endsGo,if_neg c0]
  show endsGo f n (0 + k + 1) r (shr (f + ((0 + k : Nat) : Int)) n,shr (f + ((0 + k : Nat) : Int)) n,true) = (shr (f + k) n,shr (f + k + ((a :: r).length : Nat) - 1) n,true)
  rw [show ((0 + k : Nat) : Int) = (k : Int) by omega]
  by_cases hr : r = []
  ·subst hr
   rw [endsGo,show f + (k : Int) + (([a] : List Int).length : Nat) - 1 = f + k by simp only [List.length_cons,List.length_nil]; omega]
  obtain ⟨q,z,rfl⟩ : ∃ q z,r = q ++ [z]:=⟨r.dropLast,r.getLast hr,(List.dropLast_concat_getLast hr).symm⟩
  have hz : ¬ z = 0:=by
   have : (a :: (q ++ [z])).getD ((a :: (q ++ [z])).length - 1) 0 = z:=by simp
   rw [← this]; exact cl
  obtain ⟨h,e2⟩:=endsGo_on f n q (0 + k + 1) (shr (f + k) n) (shr (f + k) n)
  rw [endsGo_app,e2,endsGo,if_neg hz,endsGo]
  show (shr (f + k) n,shr (f + ((0 + k + 1 + q.length : Nat) : Int)) n,true) = _
  rw [show f + ((0 + k + 1 + q.length : Nat) : Int) = f + (k : Int) + ((a :: (q ++ [z])).length : Nat) - 1 by simp only [List.length_cons,List.length_append,List.length_nil]; omega]
theorem trim_near1 {f : Int} {l : List Int} (hf : InB f l) : -2147487398 ≤ (trim f l).1 ∧ (trim f l).1 ≤ 2147487398 ∧ (trim f l).2.length ≤ 3750:=by
 obtain ⟨a,b,c⟩:=hf
 have hl:=Nat.le_trans (trim_len f l) c
 rcases trim_spec l f (by omega) (by omega) with ⟨e,_⟩ | ⟨k,j,d,e,_,_,_,hll⟩
 ·rw [e]; exact ⟨by decide,by decide,by simp⟩
 have:=congrArg List.length hll
 simp only [List.length_append,List.length_replicate] at this
 rw [e] at hl ⊢
 exact ⟨by simp only; omega,by simp only; omega,hl⟩
theorem wide_eq {f g : Int} {l m : List Int} (hf : InB f l) (hg : InB g m) (x y : Nat) : wideR (endsGo f x 0 l (0,0,false)) (endsGo g y 0 m (0,0,false)) = wideV (trim f l) (trim g m) x y:=by
 rw [ends_eq hf,ends_eq hg]
 have n1:=trim_near1 hf
 have n2:=trim_near1 hg
 generalize trim f l = s at n1
 generalize trim g m = t at n2
 obtain ⟨s1,s2⟩:=s
 obtain ⟨t1,t2⟩:=t
 simp only at n1 n2
 have b1:=shr_bound (a:=s1) x (m:=2147491148) (by omega) (by omega) (by omega)
 have b2:=shr_bound (a:=t1) y (m:=2147491148) (by omega) (by omega) (by omega)
 have b3:=shr_bound (a:=s1 + s2.length - 1) x (m:=2147491149) (by omega) (by omega) (by omega)
 have b4:=shr_bound (a:=t1 + t2.length - 1) y (m:=2147491149) (by omega) (by omega) (by omega)
 cases s2 with
 | nil =>
  cases t2 with
  | nil=>rfl
  | cons b q =>
   show w64 (w64 (shr (t1 + ((b :: q).length : Nat) - 1) y - shr t1 y) + 1) = shr (t1 + ((b :: q).length : Nat) - 1) y - shr t1 y + 1
   rw [w64_eq (n:=shr (t1 + ((b :: q).length : Nat) - 1) y - shr t1 y) (by omega),w64_eq (by omega)]
 | cons a r =>
  cases t2 with
  | nil =>
   show w64 (w64 (shr (s1 + ((a :: r).length : Nat) - 1) x - shr s1 x) + 1) = shr (s1 + ((a :: r).length : Nat) - 1) x - shr s1 x + 1
   rw [w64_eq (n:=shr (s1 + ((a :: r).length : Nat) - 1) x - shr s1 x) (by omega),w64_eq (by omega)]
  | cons b q =>
   show w64 (w64 ((if shr (t1 + ((b :: q).length : Nat) - 1) y > shr (s1 + ((a :: r).length : Nat) - 1) x then shr (t1 + ((b :: q).length : Nat) - 1) y else shr (s1 + ((a :: r).length : Nat) - 1) x) - (if shr t1 y < shr s1 x then shr t1 y else shr s1 x)) + 1) = (if shr (t1 + ((b :: q).length : Nat) - 1) y > shr (s1 + ((a :: r).length : Nat) - 1) x then shr (t1 + ((b :: q).length : Nat) - 1) y else shr (s1 + ((a :: r).length : Nat) - 1) x) - (if shr t1 y < shr s1 x then shr t1 y else shr s1 x) + 1
   generalize shr (t1 + ((b :: q).length : Nat) - 1) y = h1 at *
   generalize shr (s1 + ((a :: r).length : Nat) - 1) x = h2 at *
   rw [w64_eq (n:=(if h1 > h2 then h1 else h2) - (if shr t1 y < shr s1 x then shr t1 y else shr s1 x)) (by split <;> split <;> omega),w64_eq (by split <;> split <;> omega)]
end Sx
