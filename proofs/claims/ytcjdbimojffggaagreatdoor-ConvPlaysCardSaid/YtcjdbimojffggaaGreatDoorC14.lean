/- Part of the proof: a machine of states for walks, and contracts of functions over it. Conditions: those that each theorem names. -/
import Derived.Test.YtcjdbimojffggaaGreatDoorC13
set_option linter.unusedVariables false
set_option linter.unusedSimpArgs false
namespace Sx
open Go Go.Proofs
set_option maxRecDepth 30000
variable {G : Glob}
theorem nf {α : Type} [BEq α] [ReflBEq α] {p : Prop} (x : α) (c : (x == x) = false) : p:=by simp at c
theorem nt {α : Type} [BEq α] [ReflBEq α] {p : Prop} (x : α) (c : (x != x) = true) : p:=by simp [bne] at c
theorem Bo_self {α : Type} [BEq α] [ReflBEq α] (x : α) : SV.u (.c (Bo true)) = SV.u (.c (Bo (x == x))):=by simp
theorem valEq_ok {k : Nat} (hK : Ok G 69 (keysEqS k)) (hV : ∀ m,k = m + 1 → Ok G 148 (valEqS m)) : Ok G 148 (valEqS k):=by
 cases k with
 | zero =>
  refine okP noneS Tryz.func148 rfl (by decide) fun K us hk=>?_
  unfold valEqS at hk
  split at hk
  ·obtain ⟨⟨⟨h1,h2,_⟩,_⟩,_⟩:=hk
   obtain ⟨l,rfl,_⟩:=h1.sl rfl
   obtain ⟨m,h,_⟩:=h2.sl
   cases h
  exact hk.elim
 | succ k =>
  have hS : AllSound (B [(69,.pure (normG (B []) [30,30] (keysEqS (k + 1)))),(148,.pure (normG (B []) [163,163] (valEqS k)))]) G:=.cons _ hK (.cons _ (hV k rfl) noneS)
  refine okP hS Tryz.func148 rfl (by decide) fun K us hk=>?_
  unfold valEqS at hk
  split at hk
  ·rename_i kd s b n x m i u kd' s' b' n' x' m' i' u'
   refine ⟨by show 2 ≤ _; decide,?_⟩
   obtain ⟨⟨⟨hT,hDp,hM,hMD⟩,rfl,rfl,rfl,rfl,rfl,rfl,rfl,rfl⟩,hk⟩:=hk
   obtain ⟨l,rfl,hl,hrow⟩:=hT.sl rfl
   obtain ⟨m',hm',hlen,hdp⟩:=hDp.sl
   obtain rfl : k = m':=by omega
   conv=>whnf
   refine Ask.i (fun c=>nt (kd) c) (fun _=>?_);conv=>whnf
   refine Ask.i (fun c=>nt (s.toList) c) (fun _=>?_);conv=>whnf
   refine Ask.i (fun c=>nt (b) c) (fun _=>?_);conv=>whnf
   refine Ask.i (fun c=>nt (n) c) (fun _=>?_);conv=>whnf
   refine Ask.i (fun c=>nt (i.toList) c) (fun _=>?_);conv=>whnf
   refine Ask.i (fun c=>nt (u.toList) c) (fun _=>?_);conv=>whnf
   refine Ask.i (fun c=>nt ((l.length : Nat) : Int) c) (fun _=>?_);conv=>whnf
   refine ⟨⟨hM,hMD,rfl⟩,?_⟩;conv=>whnf
   refine ⟨[],_,_,rfl,Nat,(fun j=>([(2,.u (.c (.p 2 0))),(3,.u (.c (.p 3 0))),(5,.u (.c (I64 (j : Nat))))],[(2,.cells 163 [I64 kd,St s,Bo b,U64 n,.d 161 (.rows l),.d 30 m,St i,St u]),(3,.cells 163 [I64 kd,St s,Bo b,U64 n,.d 161 (.rows l),.d 30 m,St i,St u])])),
    (fun j=>j ≤ l.length),(fun j=>l.length - j),fun x _=>rfl,⟨0,Nat.zero_le _,⟨rfl,rfl,rfl,trivial⟩,⟨rfl,rfl,trivial⟩⟩,?_⟩
   intro j hj0;conv=>whnf
   refine Ask.i (fun c2=>?_) (fun c2=>?_)
   ·have c2 : (j : Int) < ((l.length : Nat) : Int):=of_decide_eq_true c2
    have hj : j < l.length:=by omega
    have hR:=hrow _ (getD_mem (a:=[]) hj)
    have hD:=hdp _ (getD_mem (a:=[]) hj)
    have hl8 : (l.getD j []).length = 8:=hR.1
    conv=>whnf
    refine ⟨mixed,[],[],[],by kernel_rfl,?_⟩;conv=>whnf
    refine ⟨⟨by omega,c2⟩,?_⟩;conv=>whnf
    refine ⟨⟨by omega,c2⟩,?_⟩;conv=>whnf
    refine ⟨⟨⟨hR.2 4 _ rfl,Dp.cell hD (by rw [hl8]; decide),hR.2 5 _ rfl,Dp.cell hD (by rw [hl8]; decide)⟩,rfl,rfl,rfl,rfl,rfl,rfl,rfl,rfl⟩,?_⟩;conv=>whnf
    refine ⟨j + 1,hj,by show l.length - (j + 1) < l.length - j; omega,⟨rfl,rfl,congrArg (fun z : Int=>some (SV.u (.c (I64 z)))) (w64_eq (n:=(j : Int) + 1) (by omega)),trivial⟩,⟨rfl,rfl,trivial⟩⟩
   conv=>whnf
   exact hk
  exact hk.elim
theorem valEq_all : ∀ k : Nat,Ok G 148 (valEqS k)
 | 0=>valEq_ok (keysEq_ok 0 fun m h=>by omega) (fun m h=>by omega)
 | k + 1=>valEq_ok (keysEq_ok (k + 1) fun m h=>by cases h; exact keyEq_ok (valEq_all k)) (fun m h=>by cases h; exact valEq_all k)
theorem keysEq_all (k : Nat) : Ok G 69 (keysEqS k):=keysEq_ok k fun m h=>keyEq_ok (valEq_all m)
def exEqS (k : Nat) : List U → Out SV
 | [.a [.d 30 m,.v (.int .u64 t),.v (.int .i64 kd),.v (.int .u64 n),.v (.string s),.v (.string tr),.v (.string u)],.a [.d 30 m',.v (.int .u64 t'),.v (.int .i64 kd'),.v (.int .u64 n'),.v (.string s'),.v (.string tr'),.v (.string u')]] =>
  .need ((Typ TB (.sl 30) m ∧ Dp k m) ∧ m = m' ∧ t = t' ∧ kd = kd' ∧ n = n' ∧ s = s' ∧ tr = tr' ∧ u = u') (one (Bo true))
 | _=>.fail
theorem exEq_ok {k : Nat} : Ok G 116 (exEqS k):=by
 have hS : AllSound (B [(69,.pure (normG (B []) [30,30] (keysEqS k)))]) G:=.cons _ (keysEq_all k) noneS
 refine okP hS Tryz.func116 rfl (by decide) fun K us hk=>?_
 unfold exEqS at hk
 split at hk
 ·rename_i m t kd n s tr u m' t' kd' n' s' tr' u'
  refine ⟨by show 2 ≤ _; decide,?_⟩
  obtain ⟨⟨⟨h1,h2⟩,rfl,rfl,rfl,rfl,rfl,rfl,rfl⟩,hk⟩:=hk
  conv=>whnf
  refine ⟨⟨h1,h2,rfl⟩,?_⟩;conv=>whnf
  refine Ask.i (fun _=>?_) (fun c=>nf (t) c);conv=>whnf
  refine Ask.i (fun _=>?_) (fun c=>nf (kd) c);conv=>whnf
  refine Ask.i (fun _=>?_) (fun c=>nf (n) c);conv=>whnf
  refine Ask.i (fun _=>?_) (fun c=>nf (s.toList) c);conv=>whnf
  refine Ask.i (fun _=>?_) (fun c=>nf (tr.toList) c);conv=>whnf
  exact fin hk (Bo_self u.toList)
 exact hk.elim
def exsEqS (k : Nat) : List U → Out SV
 | [.c (.d 32 x),.c (.d 32 y)]=>.need (Typ TB (.sl 32) x ∧ Dp k x ∧ x = y) (one (Bo true))
 | _=>.fail
theorem exsEq_ok (k : Nat) : Ok G 70 (exsEqS k):=by
 cases k with
 | zero =>
  refine okP noneS Tryz.func70 rfl (by decide) fun K us hk=>?_
  unfold exsEqS at hk
  split at hk
  ·obtain ⟨⟨h1,h2,_⟩,_⟩:=hk
   obtain ⟨l,rfl,_⟩:=h1.sl rfl
   obtain ⟨m,h,_⟩:=h2.sl
   cases h
  exact hk.elim
 | succ m =>
  have hS : AllSound (B [(116,.pure (normG (B []) [160,160] (exEqS m)))]) G:=.cons _ exEq_ok noneS
  refine okP hS Tryz.func70 rfl (by decide) fun K us hk=>?_
  unfold exsEqS at hk
  split at hk
  ·rename_i x y
   refine ⟨by show 2 ≤ _; decide,?_⟩
   obtain ⟨⟨hT,hDp,rfl⟩,hk⟩:=hk
   obtain ⟨l,rfl,hl,hrow⟩:=hT.sl rfl
   obtain ⟨m',hm',hlen,hdp⟩:=hDp.sl
   obtain rfl : m = m':=by omega
   conv=>whnf
   refine Ask.i (fun c=>nt ((l.length : Nat) : Int) c) (fun _=>?_);conv=>whnf
   refine ⟨[],_,_,rfl,Nat,(fun i=>([(0,.u (.c (.d 32 (.rows l)))),(1,.u (.c (.d 32 (.rows l)))),(5,.u (.c (I64 (i : Nat))))],[])),
    (fun i=>i ≤ l.length),(fun i=>l.length - i),fun x _=>rfl,⟨0,Nat.zero_le _,⟨rfl,rfl,rfl,trivial⟩,trivial⟩,?_⟩
   intro i hi0;conv=>whnf
   refine Ask.i (fun c2=>?_) (fun c2=>?_)
   ·have c2 : (i : Int) < ((l.length : Nat) : Int):=of_decide_eq_true c2
    have hi : i < l.length:=by omega
    have hR:=hrow _ (getD_mem (a:=[]) hi)
    have hD:=hdp _ (getD_mem (a:=[]) hi)
    have hl7 : (l.getD i []).length = 7:=hR.1
    conv=>whnf
    refine ⟨mixed,[],[],[],by kernel_rfl,?_⟩;conv=>whnf
    refine ⟨⟨by omega,c2⟩,?_⟩;conv=>whnf
    refine ⟨⟨by omega,c2⟩,?_⟩;conv=>whnf
    refine ⟨⟨⟨hR.2 0 _ rfl,Dp.cell hD (by rw [hl7]; decide)⟩,rfl,rfl,rfl,rfl,rfl,rfl,rfl⟩,?_⟩;conv=>whnf
    refine ⟨i + 1,hi,by show l.length - (i + 1) < l.length - i; omega,⟨rfl,rfl,congrArg (fun z : Int=>some (SV.u (.c (I64 z)))) (w64_eq (n:=(i : Int) + 1) (by omega)),trivial⟩,trivial⟩
   conv=>whnf
   exact hk
  exact hk.elim
def optEqS : List U → Out SV
 | [.a [.v (.bool h),.v (.int .u64 n)],.a [.v (.bool h'),.v (.int .u64 n')]]=>.need (h = h' ∧ n = n') (one (Bo true))
 | _=>.fail
theorem optEq_ok : Ok G 71 optEqS:=by
 refine okP noneS Tryz.func71 rfl (by decide) fun K us hk=>?_
 unfold optEqS at hk
 split at hk
 ·rename_i h n h' n'
  refine ⟨by show 2 ≤ _; decide,?_⟩
  obtain ⟨⟨rfl,rfl⟩,hk⟩:=hk
  conv=>whnf
  refine Ask.i (fun _=>?_) (fun c=>nf h c);conv=>whnf
  exact fin hk (Bo_self n)
 exact hk.elim
def expEqS (k : Nat) : List U → Out SV
 | [.a l,.a m]=>match asExp l with
  | some e=>.need (l = m ∧ Typ TB (.sl 30) e.attrs ∧ Dp k e.attrs ∧ Typ TB (.sl 32) e.ex ∧ Dp k e.ex ∧ e.cP.length ≤ 68719476736 ∧ e.cN.length ≤ 68719476736) (one (Bo true))
  | none=>.fail
 | _=>.fail
theorem expEq_ok {k : Nat} : Ok G 43 (expEqS k):=by
 have hS : AllSound (B [(69,.pure (normG (B []) [30,30] (keysEqS k))),(71,.pure (normG (B []) [37,37] optEqS)),(73,.pure (normG (B []) [42,42] bufEqS)),(70,.pure (normG (B []) [32,32] (exsEqS k)))]) G:=.cons _ (keysEq_all k) (.cons _ optEq_ok (.cons _ bufEq_ok (.cons _ (exsEq_ok k) noneS)))
 refine okP hS Tryz.func43 rfl (by decide) fun K us hk=>?_
 unfold expEqS at hk
 split at hk
 ·rename_i l m
  split at hk
  ·rename_i e he
   obtain ⟨⟨rfl,h1,h2,h3,h4,h5,h6⟩,hk⟩:=hk
   rw [asExp_eq he]
   refine ⟨by show 2 ≤ _; decide,?_⟩;conv=>whnf
   refine ⟨⟨h1,h2,rfl⟩,?_⟩;conv=>whnf
   refine Ask.i (fun _=>?_) (fun c=>nf (e.start) c);conv=>whnf
   refine Ask.i (fun _=>?_) (fun c=>nf (e.time) c);conv=>whnf
   refine Ask.i (fun _=>?_) (fun c=>nf (e.count) c);conv=>whnf
   refine ⟨⟨rfl,rfl⟩,?_⟩;conv=>whnf
   refine ⟨⟨rfl,rfl⟩,?_⟩;conv=>whnf
   refine ⟨⟨rfl,rfl⟩,?_⟩;conv=>whnf
   refine Ask.i (fun _=>?_) (fun c=>nf (e.scale) c);conv=>whnf
   refine Ask.i (fun _=>?_) (fun c=>nf (e.zero) c);conv=>whnf
   refine Ask.i (fun _=>?_) (fun c=>nf (e.hasP) c);conv=>whnf
   refine ⟨⟨h5,rfl,rfl,rfl⟩,?_⟩;conv=>whnf
   refine Ask.i (fun _=>?_) (fun c=>nf (e.hasN) c);conv=>whnf
   refine ⟨⟨h6,rfl,rfl,rfl⟩,?_⟩;conv=>whnf
   refine ⟨⟨h3,h4,rfl⟩,?_⟩;conv=>whnf
   refine Ask.i (fun _=>?_) (fun c=>nf (e.flags) c);conv=>whnf
   refine Ask.i (fun _=>?_) (fun c=>nf (e.thr) c);conv=>whnf
   exact fin hk (Bo_self e.unk.toList)
  exact hk.elim
 exact hk.elim
end Sx
namespace Sx
open Go Go.Proofs
set_option maxRecDepth 30000
def Tight (s : Int × List Int) : Prop:=s = (0,[]) ∨ s.2 ≠ [] ∧ s.2.getD 0 0 ≠ 0 ∧ s.2.getD (s.2.length - 1) 0 ≠ 0
def R64 (l : List Int) : Prop:=∀ x ∈ l,0 ≤ x ∧ x < 18446744073709551616
theorem trim_tight {f : Int} {l : List Int} (h1 : -4611686018427387904 ≤ f) (h2 : f + l.length ≤ 4611686018427387904) : Tight (trim f l):=by
 rcases trim_spec l f h1 h2 with ⟨h,_⟩ | ⟨k,m,c,h,h3,h4,h5,_⟩
 ·exact .inl h
 rw [h]; exact .inr ⟨h3,h4,h5⟩
theorem rtrim_id : ∀ {l : List Int},l.getD (l.length - 1) 0 ≠ 0 → rtrim l = l
 | [],_=>rfl
 | [a],h=>by
  have h : a ≠ 0:=h
  simp [rtrim,h]
 | a :: b :: r,h=>by
  have e : rtrim (b :: r) = b :: r:=rtrim_id (by simpa using h)
  rw [rtrim,e]
theorem ltrim_id {f : Int} {l : List Int} (h : l.getD 0 0 ≠ 0) : ltrim f l = (f,l):=by
 cases l with
 | nil=>simp at h
 | cons a l =>
  have h : a ≠ 0:=h
  rw [ltrim,if_neg h]
theorem trim_id {f : Int} {l : List Int} (h : Tight (f,l)) : trim f l = (f,l):=by
 rcases h with h | ⟨_,h2,h3⟩
 ·obtain ⟨rfl,rfl⟩:=Prod.mk.inj h; rfl
 unfold trim
 rw [rtrim_id h3,ltrim_id h2]
theorem rtrim_mem {x : Int} : ∀ {l : List Int},x ∈ rtrim l → x ∈ l
 | [],h=>h
 | a :: l,h=>by
  rw [rtrim] at h
  split at h
  ·split at h
   ·cases h
   rcases List.mem_cons.1 h with rfl | h
   ·exact List.mem_cons_self
   cases h
  rcases List.mem_cons.1 h with rfl | h
  ·exact List.mem_cons_self
  exact List.mem_cons_of_mem _ (rtrim_mem h)
theorem ltrim_mem {x : Int} : ∀ {l : List Int} {f : Int},x ∈ (ltrim f l).2 → x ∈ l
 | [],_,h=>h
 | a :: l,f,h=>by
  rw [ltrim] at h
  split at h
  ·exact List.mem_cons_of_mem _ (ltrim_mem h)
  exact h
theorem trim_mem {x f : Int} {l : List Int} (h : x ∈ (trim f l).2) : x ∈ l:=rtrim_mem (ltrim_mem h)
theorem x64_r (n : Int) : 0 ≤ x64 n ∧ x64 n < 18446744073709551616:=by
 show 0 ≤ IntKind.u64.wrap n ∧ IntKind.u64.wrap n < 18446744073709551616
 rw [IntKind.wrap_u64]; omega
theorem x64_eq {n : Int} (h : 0 ≤ n ∧ n < 18446744073709551616) : x64 n = n:=by
 show IntKind.u64.wrap n = n
 rw [IntKind.wrap_u64]; omega
theorem w32_eq {n : Int} (h : -2147483648 ≤ n ∧ n < 2147483648) : w32 n = n:=by
 show IntKind.i32.wrap n = n
 rw [IntKind.wrap_i32]; omega
theorem downGo_r (f : Int) (n : Nat) : ∀ (l : List Int) (i : Nat) (c : List Int) (bad : Bool),R64 c → R64 (downGo f n i l c bad).1
 | [],_,_,_,h=>h
 | x :: l,i,c,bad,h=>by
  rw [downGo]
  refine downGo_r f n l _ _ _ fun y hy=>?_
  rcases List.mem_or_eq_of_mem_set hy with hy | rfl
  ·exact h y hy
  exact x64_r _
theorem downL_r (f : Int) (l : List Int) (n : Nat) (bad : Bool) : R64 (downL f l n bad).2.1:=by
 unfold downL
 split
 ·intro x hx; cases hx
 refine downGo_r _ _ _ _ _ _ fun x hx=>?_
 rw [(List.mem_replicate.1 hx).2]; decide
theorem shr_zero (a : Int) : shr a 0 = a:=by rw [shr_ediv]; simp
theorem downGo_zero (g : Int) : ∀ (l pre : List Int),R64 l → downGo g 0 pre.length l (pre ++ List.replicate l.length 0) false = (pre ++ l,false)
 | [],pre,_=>by rw [downGo]; simp
 | x :: l,pre,h=>by
  have hx:=h x List.mem_cons_self
  have hp : place g 0 pre.length = pre.length:=by
   unfold place
   rw [shr_zero,shr_zero]; omega
  have hg : (pre ++ List.replicate (x :: l).length 0).getD pre.length (0 : Int) = 0:=by
   rw [List.getD_eq_getElem?_getD,List.getElem?_append_right (Nat.le_refl _)]
   simp [List.length_cons,List.replicate_succ]
  have hs : (pre ++ List.replicate (x :: l).length (0 : Int)).set pre.length x = (pre ++ [x]) ++ List.replicate l.length 0:=by
   rw [List.set_append_right _ _ (Nat.le_refl _)]
   simp [List.length_cons,List.replicate_succ]
  rw [downGo,hp,hg,Int.zero_add,x64_eq hx,hs]
  have hd : (false || decide (x < (0 : Int))) = false:=by simp; omega
  rw [hd]
  have:=downGo_zero g l (pre ++ [x]) fun y hy=>h y (List.mem_cons_of_mem _ hy)
  simp only [List.length_append,List.length_cons,List.length_nil,Nat.zero_add] at this
  rw [this]
  simp
theorem downL_zero {f : Int} {l : List Int} (h : Tight (f,l)) (hr : R64 l) : downL f l 0 false = (f,l,false):=by
 unfold downL
 rw [trim_id h]
 cases l with
 | nil =>
  rcases h with h | ⟨h,_⟩
  ·obtain ⟨rfl,_⟩:=Prod.mk.inj h; rfl
  exact absurd rfl h
 | cons a r =>
  have hw : (wideS f (a :: r) 0).toNat = (a :: r).length:=by
   unfold wideS
   rw [shr_zero,shr_zero]; omega
  have:=downGo_zero f (a :: r) [] hr
  simp only [List.length_nil,List.nil_append] at this
  simp only
  rw [shr_zero,hw,this]
theorem shGo_spec {p1 p2 n1 n2 : Int × List Int} {most : Int} {r : Int × Int × Int} : ∀ {k : Nat} {x y s : Int} {d : Nat},shGo p1 p2 n1 n2 most k x y s d = some r →
  ∃ j : Nat,j < k ∧ r = (x + j,y + j,s - j) ∧ 1 ≤ most ∧ most ≤ 320 ∧ x + j ≤ 31 ∧ y + j ≤ 31 ∧ (0 < d + j → -10 ≤ s - j) ∧
   wideV p1 p2 (x + j).toNat (y + j).toNat ≤ most ∧ wideV n1 n2 (x + j).toNat (y + j).toNat ≤ most ∧
   ∀ i : Nat,i < j → ¬ (wideV p1 p2 (x + i).toNat (y + i).toNat ≤ most ∧ wideV n1 n2 (x + i).toNat (y + i).toNat ≤ most)
 | 0,_,_,_,_,h=>by cases h
 | k + 1,x,y,s,d,h=>by
  rw [shGo] at h
  by_cases h1 : most < 1 ∨ most > 320 ∨ (if y > x then y else x) > 31 ∨ (0 < d ∧ s < -10)
  ·rw [if_pos h1] at h; cases h
  rw [if_neg h1] at h
  have h1' : 1 ≤ most ∧ most ≤ 320 ∧ x ≤ 31 ∧ y ≤ 31 ∧ (0 < d → -10 ≤ s):=by
   refine ⟨by omega,by omega,?_,?_,by omega⟩
   ·have : ¬ (if y > x then y else x) > 31:=fun h=>h1 (.inr (.inr (.inl h)))
    split at this <;> omega
   have : ¬ (if y > x then y else x) > 31:=fun h=>h1 (.inr (.inr (.inl h)))
   split at this <;> omega
  obtain ⟨a1,a2,a3,a4,a5⟩:=h1'
  by_cases h2 : wideV p1 p2 x.toNat y.toNat ≤ most ∧ wideV n1 n2 x.toNat y.toNat ≤ most
  ·rw [if_pos h2] at h
   cases h
   exact ⟨0,by omega,by simp,a1,a2,by omega,by omega,by simpa using a5,by simpa using h2.1,by simpa using h2.2,fun i hi=>by omega⟩
  rw [if_neg h2] at h
  obtain ⟨j,b1,b2,_,_,b5,b6,b7,b8,b9,b10⟩:=shGo_spec h
  have ex : x + 1 + (j : Int) = x + ((j + 1 : Nat) : Int):=by omega
  have ey : y + 1 + (j : Int) = y + ((j + 1 : Nat) : Int):=by omega
  have es : s - 1 - (j : Int) = s - ((j + 1 : Nat) : Int):=by omega
  rw [ex,ey] at b8 b9
  refine ⟨j + 1,by omega,by rw [b2,ex,ey,es],a1,a2,by omega,by omega,fun _=>by have:=b7 (by omega); omega,b8,b9,fun i hi=>?_⟩
  cases i with
  | zero=>simpa using h2
  | succ i =>
   have:=b10 i (by omega)
   have ex : x + 1 + (i : Int) = x + ((i + 1 : Nat) : Int):=by omega
   have ey : y + 1 + (i : Int) = y + ((i + 1 : Nat) : Int):=by omega
   rwa [ex,ey] at this
structure Fitted (y : ExpD) (most : Int) : Prop where
 m1 : 1 ≤ most
 m2 : most ≤ 320
 lP : (y.cP.length : Int) ≤ most
 lN : (y.cN.length : Int) ≤ most
 tP : Tight (y.offP,y.cP)
 tN : Tight (y.offN,y.cN)
 rP : R64 y.cP
 rN : R64 y.cN
 oP : -2147483648 ≤ y.offP ∧ y.offP < 2147483648
 oN : -2147483648 ≤ y.offN ∧ y.offN < 2147483648
 sc : -2147483648 ≤ y.scale ∧ y.scale < 2147483648
 uP : y.unkP = nos
 uN : y.unkN = nos
 hP : y.hasP = false → y.offP = 0 ∧ y.cP = []
 hN : y.hasN = false → y.offN = 0 ∧ y.cN = []
theorem Fitted.fits {y : ExpD} {most : Int} (h : Fitted y most) : Fits y:=by
 have:=h.m2; have:=h.lP; have:=h.lN
 exact ⟨by omega,by omega,h.oP.1,h.oP.2,h.oN.1,h.oN.2,h.sc.1,h.sc.2⟩
theorem Fitted.rawP {y : ExpD} {most : Int} (h : Fitted y most) : rawP y 0 false = (y.offP,y.cP,false):=by
 unfold Sx.rawP
 have ho:=h.oP
 cases hh : y.hasP with
 | false=>obtain ⟨h1,h2⟩:=h.hP hh; rw [h1,h2]; rfl
 | true =>
  simp only [cond_true]
  rw [w64_eq (by omega)]
  exact downL_zero h.tP h.rP
theorem Fitted.rawN {y : ExpD} {most : Int} (h : Fitted y most) : rawN y 0 false = (y.offN,y.cN,false):=by
 unfold Sx.rawN
 have ho:=h.oN
 cases hh : y.hasN with
 | false=>obtain ⟨h1,h2⟩:=h.hN hh; rw [h1,h2]; rfl
 | true =>
  simp only [cond_true]
  rw [w64_eq (by omega)]
  exact downL_zero h.tN h.rN
theorem Fitted.sdP {y : ExpD} {most : Int} (h : Fitted y most) : sdP y = (y.offP,y.cP):=by
 unfold Sx.sdP
 have ho:=h.oP
 cases hh : y.hasP with
 | false=>obtain ⟨h1,h2⟩:=h.hP hh; rw [h1,h2]; rfl
 | true =>
  simp only [cond_true]
  rw [w64_eq (by omega)]
  exact trim_id h.tP
theorem Fitted.sdN {y : ExpD} {most : Int} (h : Fitted y most) : sdN y = (y.offN,y.cN):=by
 unfold Sx.sdN
 have ho:=h.oN
 cases hh : y.hasN with
 | false=>obtain ⟨h1,h2⟩:=h.hN hh; rw [h1,h2]; rfl
 | true =>
  simp only [cond_true]
  rw [w64_eq (by omega)]
  exact trim_id h.tN
theorem wideV_zero (f : Int) (l : List Int) : wideV (f,l) (0,[]) 0 0 = l.length:=by
 unfold wideV
 cases l with
 | nil=>rfl
 | cons a l=>simp only [hiS]; rw [shr_zero,shr_zero]; omega
theorem lesser_self (a : Int) : lesser a a = a:=by unfold lesser; split <;> rfl
theorem sd_noE (s : Int) : sdP (noE s) = (0,[]) ∧ sdN (noE s) = (0,[]):=⟨rfl,rfl⟩
theorem Fitted.again {y : ExpD} {most : Int} (h : Fitted y most) : shV y (noE y.scale) most = some (0,0,y.scale):=by
 unfold shV
 have e1 : (noE y.scale).scale = y.scale:=rfl
 rw [e1,lesser_self,h.sdP,h.sdN,(sd_noE _).1,(sd_noE _).2,shGo]
 have:=h.m1; have:=h.m2
 rw [Int.sub_self]
 rw [if_neg (by simp; omega)]
 rw [if_pos]
 show wideV (y.offP,y.cP) (0,[]) 0 0 ≤ most ∧ wideV (y.offN,y.cN) (0,[]) 0 0 ≤ most
 rw [wideV_zero,wideV_zero]
 exact ⟨h.lP,h.lN⟩
theorem Fitted.good {y : ExpD} {most : Int} (h : Fitted y most) : fitBad y 0 = false:=by
 unfold fitBad
 rw [h.rawP]
 simp only
 rw [h.rawN]
 simp only [bigS]
 rw [trim_id h.tP,trim_id h.tN]
 have:=h.oP; have:=h.oN
 simp; omega
theorem Fitted.same {y : ExpD} {most : Int} (h : Fitted y most) : fitE y 0 y.scale = y:=by
 unfold fitE
 rw [h.rawP]
 simp only
 rw [h.rawN]
 simp only
 rw [trim_id h.tP,trim_id h.tN]
 unfold ExpD.lay
 simp only
 rw [w32_eq h.oP,w32_eq h.oN,w32_eq h.sc,← h.uP]
 have hu : y.unkP = y.unkN:=h.uP.trans h.uN.symm
 obtain ⟨⟩:=y
 simp only at hu ⊢
 rw [hu]
theorem bifoff (h : Bool) {f : Int} (hf : -2147483648 ≤ f ∧ f < 2147483648) : -2147483648 ≤ (bif h then w64 f else 0) ∧ (bif h then w64 f else 0) < 2147483648:=by
 cases h
 ·exact ⟨by simp,by simp⟩
 simp only [cond_true]; rw [w64_eq (by omega)]; exact hf
theorem downL_off {f : Int} {l : List Int} {n : Nat} {bad : Bool} (h1 : -2147483648 ≤ f ∧ f < 2147483648) (h2 : l.length ≤ 3750) :
  -2147483648 ≤ (downL f l n bad).1 ∧ (downL f l n bad).1 ≤ 2147487398:=by
 unfold downL
 rcases trim_spec l f (by omega) (by omega) with ⟨h,_⟩ | ⟨k,m,c,h,hc,_,_,hll⟩
 ·rw [h]; exact ⟨by simp,by simp⟩
 rw [h]
 have:=congrArg List.length hll
 simp only [List.length_append,List.length_replicate] at this
 cases c with
 | nil=>exact absurd rfl hc
 | cons a r =>
  simp only
  have lo:=shr_bound (a:=f + k) n (m:=2147487398) (by omega) (by omega) (by omega)
  refine ⟨?_,lo.2⟩
  by_cases hs : f + (k : Int) ≤ 0
  ·exact (shr_bound (a:=f + k) n (m:=2147483648) (by omega) (by omega) (by omega)).1
  have:=shr_mono (a:=0) (b:=f + k) n (by omega)
  have e0 : shr 0 n = 0:=by rw [shr_ediv]; simp
  omega
theorem downL_wide (f : Int) (l : List Int) (n : Nat) (bad : Bool) : (((downL f l n bad).2.1.length : Nat) : Int) = wideV (trim f l) (0,[]) n 0 ∨ (downL f l n bad).2.1 = []:=by
 unfold downL wideV
 cases ht : trim f l with
 | mk g c =>
  cases c with
  | nil=>exact .inr rfl
  | cons a r =>
   simp only [downGo_len,List.length_replicate,hiS,wideS]
   by_cases h0 : shr (g + (a :: r).length - 1) n - shr g n + 1 ≤ 0
   ·have:=shr_mono (a:=g) (b:=g + (a :: r).length - 1) n (by simp only [List.length_cons]; omega)
    omega
   left; omega
theorem wideV_no (s : Int × List Int) (n m m' : Nat) : wideV s (0,[]) n m = wideV s (0,[]) n m':=by
 unfold wideV
 cases s.2 <;> rfl
theorem fit_fitted {e : ExpD} {most : Int} {r : Int × Int × Int} (hF : Fits e) (hr : shV e (noE e.scale) most = some r) (hb : fitBad e r.1.toNat = false) : Fitted (fitE e r.1.toNat r.2.2) most ∧ r.2.2 ≤ e.scale ∧ (fitE e r.1.toNat r.2.2).scale = r.2.2:=by
 obtain ⟨f1,f2,f3,f4,f5,f6,f7,f8⟩:=hF
 unfold shV at hr
 have e1 : (noE e.scale).scale = e.scale:=rfl
 rw [e1,lesser_self,Int.sub_self,(sd_noE _).1,(sd_noE _).2] at hr
 obtain ⟨j,b1,rfl,b3,b4,b5,b6,b7,b8,b9,_⟩:=shGo_spec hr
 simp only [Int.zero_add,Int.toNat_natCast] at hb b8 b9 ⊢
 unfold fitBad at hb
 have oP:=bifoff e.hasP ⟨f3,f4⟩
 have oN:=bifoff e.hasN ⟨f5,f6⟩
 have lP:=Nat.le_trans (side_len e.hasP e.cP) f1
 have lN:=Nat.le_trans (side_len e.hasN e.cN) f2
 have hbad : (Sx.rawP e j false).2.2 = false:=by
  cases hq : (Sx.rawP e j false).2.2 with
  | false=>rfl
  | true =>
   rw [hq] at hb
   have : ∀ (f : Int) (l : List Int) (n : Nat),(downL f l n true).2.2 = true:=by
    intro f l n
    have go : ∀ (f : Int) (n : Nat) (l : List Int) (i : Nat) (c : List Int),(downGo f n i l c true).2 = true:=by
     intro f n l
     induction l with
     | nil=>intro i c; rfl
     | cons a l ih=>intro i c; rw [downGo,Bool.true_or]; exact ih _ _
    unfold downL
    split
    ·rfl
    exact go _ _ _ _ _
   rw [show (Sx.rawN e j true).2.2 = true from this _ _ _,Bool.true_or] at hb
   cases hb
 rw [hbad] at hb
 simp only [Bool.or_eq_false_iff,bigS,decide_eq_false_iff_not] at hb
 obtain ⟨_,hb1,hb2⟩:=hb
 have ofP:=downL_off (n:=j) (bad:=false) oP lP
 have ofN:=downL_off (n:=j) (bad:=false) oN lN
 have lnP:=Nat.le_trans (downL_len (bif e.hasP then w64 e.offP else 0) (bif e.hasP then e.cP else []) j false) lP
 have lnN:=Nat.le_trans (downL_len (bif e.hasN then w64 e.offN else 0) (bif e.hasN then e.cN else []) j false) lN
 have wP:=downL_wide (bif e.hasP then w64 e.offP else 0) (bif e.hasP then e.cP else []) j false
 have wN:=downL_wide (bif e.hasN then w64 e.offN else 0) (bif e.hasN then e.cN else []) j false
 have rP:=downL_r (bif e.hasP then w64 e.offP else 0) (bif e.hasP then e.cP else []) j false
 have rN:=downL_r (bif e.hasN then w64 e.offN else 0) (bif e.hasN then e.cN else []) j false
 have b8 : wideV (trim (bif e.hasP then w64 e.offP else 0) (bif e.hasP then e.cP else [])) (0,[]) j j ≤ most:=b8
 have b9 : wideV (trim (bif e.hasN then w64 e.offN else 0) (bif e.hasN then e.cN else [])) (0,[]) j j ≤ most:=b9
 rw [wideV_no _ j j 0] at b8 b9
 have goP : e.hasP = false → downL (bif e.hasP then w64 e.offP else 0) (bif e.hasP then e.cP else []) j false = (0,[],false):=fun h=>by rw [h]; rfl
 have goN : e.hasN = false → downL (bif e.hasN then w64 e.offN else 0) (bif e.hasN then e.cN else []) j false = (0,[],false):=fun h=>by rw [h]; rfl
 have main : ∀ {t : Int × List Int × Bool},-2147483648 ≤ t.1 ∧ t.1 ≤ 2147487398 → t.2.1.length ≤ 3750 → ¬ (trim t.1 t.2.1).1 > 2147483647 → R64 t.2.1 → ∀ {m : Int},((t.2.1.length : Nat) : Int) ≤ m →
   -2147483648 ≤ (trim t.1 t.2.1).1 ∧ (trim t.1 t.2.1).1 < 2147483648 ∧ Tight (trim t.1 t.2.1) ∧ R64 (trim t.1 t.2.1).2 ∧ (((trim t.1 t.2.1).2.length : Nat) : Int) ≤ m:=by
  intro t h1 h2 h3 h4 m h5
  have hl:=trim_len t.1 t.2.1
  refine ⟨?_,by omega,trim_tight (by omega) (by omega),fun x hx=>h4 x (trim_mem hx),by omega⟩
  rcases trim_spec t.2.1 t.1 (by omega) (by omega) with ⟨h,_⟩ | ⟨k,m,c,h,_⟩
  ·rw [h]; decide
  rw [h]; simp only; omega
 have lenP : ((((downL (bif e.hasP then w64 e.offP else 0) (bif e.hasP then e.cP else []) j false).2.1.length : Nat)) : Int) ≤ most:=by
  rcases wP with h | h
  ·omega
  rw [h]; simp only [List.length_nil]; omega
 have lenN : ((((downL (bif e.hasN then w64 e.offN else 0) (bif e.hasN then e.cN else []) j false).2.1.length : Nat)) : Int) ≤ most:=by
  rcases wN with h | h
  ·omega
  rw [h]; simp only [List.length_nil]; omega
 obtain ⟨p1,p2,p3,p4,p5⟩:=main (t:=Sx.rawP e j false) ofP lnP hb1 rP lenP
 obtain ⟨q1,q2,q3,q4,q5⟩:=main (t:=Sx.rawN e j false) ofN lnN hb2 rN lenN
 have hs : w32 (e.scale - (j : Int)) = e.scale - j:=by
  by_cases hj : j = 0
  ·subst hj; exact w32_eq (by omega)
  have:=b7 (by omega); exact w32_eq (by omega)
 have hsr : -2147483648 ≤ e.scale - (j : Int):=by
  by_cases hj : j = 0
  ·subst hj; omega
  have:=b7 (by omega); omega
 unfold fitE
 rw [hbad]
 refine ⟨⟨b3,b4,p5,q5,?_,?_,p4,q4,?_,?_,?_,rfl,rfl,?_,?_⟩,by show e.scale - (j : Int) ≤ e.scale; omega,hs⟩
 ·show Tight (w32 _,_)
  rw [w32_eq ⟨p1,p2⟩]; exact p3
 ·show Tight (w32 _,_)
  rw [w32_eq ⟨q1,q2⟩]; exact q3
 ·show -2147483648 ≤ w32 _ ∧ w32 _ < 2147483648
  rw [w32_eq ⟨p1,p2⟩]; exact ⟨p1,p2⟩
 ·show -2147483648 ≤ w32 _ ∧ w32 _ < 2147483648
  rw [w32_eq ⟨q1,q2⟩]; exact ⟨q1,q2⟩
 ·show -2147483648 ≤ w32 _ ∧ w32 _ < 2147483648
  rw [hs]; omega
 ·intro h
  show w32 (trim (Sx.rawP e j false).1 (Sx.rawP e j false).2.1).1 = 0 ∧ (trim (Sx.rawP e j false).1 (Sx.rawP e j false).2.1).2 = []
  rw [show Sx.rawP e j false = (0,[],false) from goP h]; exact ⟨rfl,rfl⟩
 intro h
 show w32 (trim (Sx.rawN e j false).1 (Sx.rawN e j false).2.1).1 = 0 ∧ (trim (Sx.rawN e j false).1 (Sx.rawN e j false).2.1).2 = []
 rw [show Sx.rawN e j false = (0,[],false) from goN h]; exact ⟨rfl,rfl⟩
end Sx
namespace Sx
open Go Go.Proofs
set_option maxRecDepth 30000
variable {G : Glob}
def anU (a b : Int) : Int:=x64 (((BitVec.ofInt 64 a &&& ~~~ BitVec.ofInt 64 b).toNat : Nat) : Int)
def andU (a b : Int) : Int:=x64 (((BitVec.ofInt 64 a &&& BitVec.ofInt 64 b).toNat : Nat) : Int)
def orU (a b : Int) : Int:=x64 (((BitVec.ofInt 64 a ||| BitVec.ofInt 64 b).toNat : Nat) : Int)
def xorU (a b : Int) : Int:=x64 (((BitVec.ofInt 64 a ^^^ BitVec.ofInt 64 b).toNat : Nat) : Int)
def szV (x : Int) : Int:=anU x 9223372036854775808
def nanV (x : Int) : Bool:=decide (szV x > 9218868437227405312)
def rankV (x : Int) : Int:=bif decide (andU x 9223372036854775808 > 0) then xorU 18446744073709551615 x else orU x 9223372036854775808
def cmpV (a b : Int) : Int:=bif decide (a < b) then -1 else bif decide (a > b) then 1 else 0
def eqV (a b : Int) : Bool:=!(nanV a) && (!(nanV b) && (a == b || szV (orU a b) == 0))
def lessV (a b : Int) : Bool:=!(nanV a) && (!(nanV b) && (!(eqV a b) && decide (cmpV (rankV a) (rankV b) < 0)))
def otherV (a b : Int) : Bool:=nanV a && !(nanV b)
def minV (a b : Int) : Int:=bif lessV b a || otherV a b then b else a
def maxV (a b : Int) : Int:=bif lessV a b || otherV a b then b else a
def szS : List U → Out SV
 | [.c (.v (.int .u64 x))]=>one (U64 (szV x))
 | _=>.fail
theorem sz_ok : Ok G 172 szS:=by
 refine okP noneS Tryz.func172 rfl (by decide) fun K us hk=>?_
 unfold szS at hk
 split at hk
 ·refine ⟨by show 1 ≤ _; decide,?_⟩
  conv=>whnf
  exact hk
 exact hk.elim
def nanS : List U → Out SV
 | [.c (.v (.int .u64 x))]=>one (Bo (nanV x))
 | _=>.fail
theorem nan_ok : Ok G 167 nanS:=by
 have hS : AllSound (B [(172,.pure (normG (B []) [31] szS))]) G:=.cons _ sz_ok noneS
 refine okP hS Tryz.func167 rfl (by decide) fun K us hk=>?_
 unfold nanS at hk
 split at hk
 ·refine ⟨by show 1 ≤ _; decide,?_⟩
  conv=>whnf
  exact hk
 exact hk.elim
def rankS : List U → Out SV
 | [.c (.v (.int .u64 x))]=>one (U64 (rankV x))
 | _=>.fail
theorem rank_ok : Ok G 185 rankS:=by
 refine okP noneS Tryz.func185 rfl (by decide) fun K us hk=>?_
 unfold rankS at hk
 split at hk
 ·rename_i x
  refine ⟨by show 1 ≤ _; decide,?_⟩;conv=>whnf
  refine Ask.i (fun c=>?_) (fun c=>?_)
  ·have c : decide (andU x 9223372036854775808 > 0) = true:=c
   conv=>whnf
   refine fin hk ?_
   unfold rankV; rw [c]; rfl
  have c : decide (andU x 9223372036854775808 > 0) = false:=c;conv=>whnf
  refine fin hk ?_
  unfold rankV; rw [c]; rfl
 exact hk.elim
def inanS : List U → Out SV
 | [.c (.v (.int .u64 x))]=>one (Bo false)
 | _=>.fail
theorem inan_ok : Ok G 188 inanS:=by
 refine okP noneS Tryz.func188 rfl (by decide) fun K us hk=>?_
 unfold inanS at hk
 split at hk
 ·rename_i x
  refine ⟨by show 1 ≤ _; decide,?_⟩;conv=>whnf
  refine fin hk ?_
  have e : (x != x) = false:=by simp [bne]
  exact congrArg (fun b : Bool=>SV.u (.c (Bo b))) e.symm
 exact hk.elim
def cmpS : List U → Out SV
 | [.c (.v (.int .u64 a)),.c (.v (.int .u64 b))]=>one (I64 (cmpV a b))
 | _=>.fail
theorem cmp_ok : Ok G 184 cmpS:=by
 have hS : AllSound (B [(188,.pure (normG (B []) [31] inanS))]) G:=.cons _ inan_ok noneS
 refine okP hS Tryz.func184 rfl (by decide) fun K us hk=>?_
 unfold cmpS at hk
 split at hk
 ·rename_i a b
  refine ⟨by show 2 ≤ _; decide,?_⟩;conv=>whnf
  refine Ask.i (fun c=>?_) (fun c=>?_)
  ·have c : decide (a < b) = true:=c
   conv=>whnf
   refine fin hk ?_
   unfold cmpV; rw [c]; rfl
  have c : decide (a < b) = false:=c;conv=>whnf
  refine Ask.i (fun d=>?_) (fun d=>?_)
  ·have d : decide (a > b) = true:=d
   conv=>whnf
   refine fin hk ?_
   unfold cmpV; rw [c,d]; rfl
  have d : decide (a > b) = false:=d;conv=>whnf
  refine fin hk ?_
  unfold cmpV; rw [c,d]; rfl
 exact hk.elim
def ordS : List U → Out SV
 | [.c (.v (.int .u64 a)),.c (.v (.int .u64 b))]=>one (I64 (cmpV (rankV a) (rankV b)))
 | _=>.fail
theorem ord_ok : Ok G 169 ordS:=by
 have hS : AllSound (B [(185,.pure (normG (B []) [31] rankS)),(184,.pure (normG (B []) [31,31] cmpS))]) G:=.cons _ rank_ok (.cons _ cmp_ok noneS)
 refine okP hS Tryz.func169 rfl (by decide) fun K us hk=>?_
 unfold ordS at hk
 split at hk
 ·refine ⟨by show 2 ≤ _; decide,?_⟩
  conv=>whnf
  exact hk
 exact hk.elim
def eqS : List U → Out SV
 | [.c (.v (.int .u64 a)),.c (.v (.int .u64 b))]=>one (Bo (eqV a b))
 | _=>.fail
theorem eq_ok : Ok G 168 eqS:=by
 have hS : AllSound (B [(167,.pure (normG (B []) [31] nanS)),(172,.pure (normG (B []) [31] szS))]) G:=.cons _ nan_ok (.cons _ sz_ok noneS)
 refine okP hS Tryz.func168 rfl (by decide) fun K us hk=>?_
 unfold eqS at hk
 split at hk
 ·rename_i a b
  refine ⟨by show 2 ≤ _; decide,?_⟩;conv=>whnf
  refine Ask.i (fun c1=>?_) (fun c1=>?_)
  ·have c1 : (!(nanV a)) = true:=c1
   conv=>whnf
   refine Ask.i (fun c2=>?_) (fun c2=>?_)
   ·have c2 : (!(nanV b)) = true:=c2
    conv=>whnf
    refine Ask.i (fun c3=>?_) (fun c3=>?_)
    ·have c3 : (a == b) = true:=c3
     conv=>whnf
     exact fin hk (congrArg (fun z : Bool=>SV.u (.c (Bo z))) (by unfold eqV; rw [c1,c2,c3]; rfl))
    have c3 : (a == b) = false:=c3;conv=>whnf
    exact fin hk (congrArg (fun z : Bool=>SV.u (.c (Bo z))) (by unfold eqV; rw [c1,c2,c3]; rfl))
   have c2 : (!(nanV b)) = false:=c2;conv=>whnf
   exact fin hk (congrArg (fun z : Bool=>SV.u (.c (Bo z))) (by unfold eqV; rw [c1,c2]; rfl))
  have c1 : (!(nanV a)) = false:=c1;conv=>whnf
  exact fin hk (congrArg (fun z : Bool=>SV.u (.c (Bo z))) (by unfold eqV; rw [c1]; rfl))
 exact hk.elim
def lessFS : List U → Out SV
 | [.c (.v (.int .u64 a)),.c (.v (.int .u64 b))]=>one (Bo (lessV a b))
 | _=>.fail
theorem lessF_ok : Ok G 129 lessFS:=by
 have hS : AllSound (B [(167,.pure (normG (B []) [31] nanS)),(168,.pure (normG (B []) [31,31] eqS)),(169,.pure (normG (B []) [31,31] ordS))]) G:=.cons _ nan_ok (.cons _ eq_ok (.cons _ ord_ok noneS))
 refine okP hS Tryz.func129 rfl (by decide) fun K us hk=>?_
 unfold lessFS at hk
 split at hk
 ·rename_i a b
  refine ⟨by show 2 ≤ _; decide,?_⟩;conv=>whnf
  refine Ask.i (fun c1=>?_) (fun c1=>?_)
  ·have c1 : (!(nanV a)) = true:=c1
   conv=>whnf
   refine Ask.i (fun c2=>?_) (fun c2=>?_)
   ·have c2 : (!(nanV b)) = true:=c2
    conv=>whnf
    refine Ask.i (fun c3=>?_) (fun c3=>?_)
    ·have c3 : (!(eqV a b)) = true:=c3
     conv=>whnf
     exact fin hk (congrArg (fun z : Bool=>SV.u (.c (Bo z))) (by unfold lessV; rw [c1,c2,c3]; rfl))
    have c3 : (!(eqV a b)) = false:=c3;conv=>whnf
    exact fin hk (congrArg (fun z : Bool=>SV.u (.c (Bo z))) (by unfold lessV; rw [c1,c2,c3]; rfl))
   have c2 : (!(nanV b)) = false:=c2;conv=>whnf
   exact fin hk (congrArg (fun z : Bool=>SV.u (.c (Bo z))) (by unfold lessV; rw [c1,c2]; rfl))
  have c1 : (!(nanV a)) = false:=c1;conv=>whnf
  exact fin hk (congrArg (fun z : Bool=>SV.u (.c (Bo z))) (by unfold lessV; rw [c1]; rfl))
 exact hk.elim
def otherS : List U → Out SV
 | [.c (.v (.int .u64 a)),.c (.v (.int .u64 b))]=>one (Bo (otherV a b))
 | _=>.fail
theorem other_ok : Ok G 147 otherS:=by
 have hS : AllSound (B [(167,.pure (normG (B []) [31] nanS))]) G:=.cons _ nan_ok noneS
 refine okP hS Tryz.func147 rfl (by decide) fun K us hk=>?_
 unfold otherS at hk
 split at hk
 ·rename_i a b
  refine ⟨by show 2 ≤ _; decide,?_⟩;conv=>whnf
  refine Ask.i (fun c1=>?_) (fun c1=>?_)
  ·have c1 : nanV a = true:=c1
   conv=>whnf
   exact fin hk (congrArg (fun z : Bool=>SV.u (.c (Bo z))) (by unfold otherV; rw [c1]; rfl))
  have c1 : nanV a = false:=c1;conv=>whnf
  exact fin hk (congrArg (fun z : Bool=>SV.u (.c (Bo z))) (by unfold otherV; rw [c1]; rfl))
 exact hk.elim
def minS : List U → Out SV
 | [.c (.v (.int .u64 a)),.c (.v (.int .u64 b))]=>one (U64 (minV a b))
 | _=>.fail
def maxS : List U → Out SV
 | [.c (.v (.int .u64 a)),.c (.v (.int .u64 b))]=>one (U64 (maxV a b))
 | _=>.fail
theorem minF_ok : Ok G 110 minS:=by
 have hS : AllSound (B [(129,.pure (normG (B []) [31,31] lessFS)),(147,.pure (normG (B []) [31,31] otherS))]) G:=.cons _ lessF_ok (.cons _ other_ok noneS)
 refine okP hS Tryz.func110 rfl (by decide) fun K us hk=>?_
 unfold minS at hk
 split at hk
 ·rename_i a b
  refine ⟨by show 2 ≤ _; decide,?_⟩;conv=>whnf
  refine Ask.i (fun c1=>?_) (fun c1=>?_)
  ·have c1 : lessV b a = true:=c1
   conv=>whnf
   exact fin hk (congrArg (fun z : Int=>SV.u (.c (U64 z))) (by unfold minV; rw [c1]; rfl))
  have c1 : lessV b a = false:=c1;conv=>whnf
  refine Ask.i (fun c2=>?_) (fun c2=>?_)
  ·have c2 : otherV a b = true:=c2
   conv=>whnf
   exact fin hk (congrArg (fun z : Int=>SV.u (.c (U64 z))) (by unfold minV; rw [c1,c2]; rfl))
  have c2 : otherV a b = false:=c2;conv=>whnf
  exact fin hk (congrArg (fun z : Int=>SV.u (.c (U64 z))) (by unfold minV; rw [c1,c2]; rfl))
 exact hk.elim
theorem maxF_ok : Ok G 111 maxS:=by
 have hS : AllSound (B [(129,.pure (normG (B []) [31,31] lessFS)),(147,.pure (normG (B []) [31,31] otherS))]) G:=.cons _ lessF_ok (.cons _ other_ok noneS)
 refine okP hS Tryz.func111 rfl (by decide) fun K us hk=>?_
 unfold maxS at hk
 split at hk
 ·rename_i a b
  refine ⟨by show 2 ≤ _; decide,?_⟩;conv=>whnf
  refine Ask.i (fun c1=>?_) (fun c1=>?_)
  ·have c1 : lessV a b = true:=c1
   conv=>whnf
   exact fin hk (congrArg (fun z : Int=>SV.u (.c (U64 z))) (by unfold maxV; rw [c1]; rfl))
  have c1 : lessV a b = false:=c1;conv=>whnf
  refine Ask.i (fun c2=>?_) (fun c2=>?_)
  ·have c2 : otherV a b = true:=c2
   conv=>whnf
   exact fin hk (congrArg (fun z : Int=>SV.u (.c (U64 z))) (by unfold maxV; rw [c1,c2]; rfl))
  have c2 : otherV a b = false:=c2;conv=>whnf
  exact fin hk (congrArg (fun z : Int=>SV.u (.c (U64 z))) (by unfold maxV; rw [c1,c2]; rfl))
 exact hk.elim
end Sx
