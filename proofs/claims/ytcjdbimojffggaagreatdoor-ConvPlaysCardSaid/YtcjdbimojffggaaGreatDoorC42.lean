/- Part of the proof: a machine of states for walks, and contracts of functions over it. Conditions: those that each theorem names. -/
import Derived.Test.YtcjdbimojffggaaGreatDoorC41
import Derived.Test.YtcjdbimojffggaaGreatDoorC37
import Derived.Test.YtcjdbimojffggaaGreatDoorC38
import Derived.Test.YtcjdbimojffggaaGreatDoorC44
import Derived.Test.YtcjdbimojffggaaGreatDoorC33
import Derived.Test.YtcjdbimojffggaaGreatDoorC34
import Derived.Test.YtcjdbimojffggaaGreatDoorC11
import Derived.Test.YtcjdbimojffggaaGreatDoorC35
set_option linter.unusedVariables false
set_option linter.unusedSimpArgs false
namespace Sx
open Go Go.Proofs
set_option maxRecDepth 30000
variable {G : Glob}
def asHistR : List C → Option (HistD × D × D)
 | .d 30 attrs :: .v (.int .u64 start) :: .v (.int .u64 time) :: .v (.int .u64 count) :: .v (.bool sumH) :: .v (.int .u64 sum) :: .v (.bool minH) :: .v (.int .u64 min) :: r1=>match r1 with
  | [.v (.bool maxH),.v (.int .u64 max),.d 38 x,.d 38 y,.d 32 ex,.v (.int .u32 flags),.v (.string unk)]=>some (⟨attrs,start,time,count,sumH,sum,minH,min,maxH,max,x.toInts,y.toInts,ex,flags,unk⟩,x,y)
  | _=>none
 | _=>none
def asExpR : List C → Option (ExpD × D × D)
 | .d 30 attrs :: .v (.int .u64 start) :: .v (.int .u64 time) :: .v (.int .u64 count) :: r1=>match r1 with
  | .v (.bool sumH) :: .v (.int .u64 sum) :: .v (.bool minH) :: .v (.int .u64 min) :: .v (.bool maxH) :: .v (.int .u64 max) :: r2=>match r2 with
   | .v (.int .i32 scale) :: .v (.int .u64 zero) :: .v (.bool hasP) :: .v (.int .i32 offP) :: .d 38 x :: .v (.string unkP) :: r3=>match r3 with
    | .v (.bool hasN) :: .v (.int .i32 offN) :: .d 38 y :: .v (.string unkN) :: r4=>match r4 with
     | [.d 32 ex,.v (.int .u32 flags),.v (.int .u64 thr),.v (.string unk)]=>some (⟨attrs,start,time,count,sumH,sum,minH,min,maxH,max,scale,zero,hasP,offP,x.toInts,unkP,hasN,offN,y.toInts,unkN,ex,flags,thr,unk⟩,x,y)
     | _=>none
    | _=>none
   | _=>none
  | _=>none
 | _=>none
theorem asHistR_eq {l : List C} {z : HistD × D × D} (h : asHistR l = some z) (h1 : z.2.1 = .ints z.1.cs) (h2 : z.2.2 = .ints z.1.bs) : l = z.1.cells:=by
 unfold asHistR at h
 split at h
 ·split at h
  ·obtain rfl:=Option.some.inj h
   simp only at h1 h2
   rw [h1,h2]; rfl
  cases h
 cases h
theorem asExpR_eq {l : List C} {z : ExpD × D × D} (h : asExpR l = some z) (h1 : z.2.1 = .ints z.1.cP) (h2 : z.2.2 = .ints z.1.cN) : l = z.1.cells:=by
 unfold asExpR at h
 split at h
 ·split at h
  ·split at h
   ·split at h
    ·split at h
     ·obtain rfl:=Option.some.inj h
      simp only at h1 h2
      rw [h1,h2]; rfl
     cases h
    cases h
   cases h
  cases h
 cases h
def rhR : List U → Out SV
 | [.a l,.c (.v (.int .i64 r))]=>match asHistR l with
  | some z=>.need (z.2.1 = .ints z.1.cs ∧ z.2.2 = .ints z.1.bs ∧ z.1.Typ ∧ -1 ≤ r ∧ r ≤ 30000) (left (r - 20) z.1.Small)
  | none=>.fail
 | _=>.fail
def rxR : List U → Out SV
 | [.a l,.c (.v (.int .i64 r))]=>match asExpR l with
  | some z=>.need (z.2.1 = .ints z.1.cP ∧ z.2.2 = .ints z.1.cN ∧ z.1.Typ ∧ -1 ≤ r ∧ r ≤ 30000) (left (r - 20) z.1.Small)
  | none=>.fail
 | _=>.fail
theorem roomHistR_ok : Ok G 35 rhR:=roomHist_ok.mono fun us K hk=>by
 unfold rhR at hk
 split at hk
 ·split at hk
  ·rename_i l r z hz
   obtain ⟨⟨h1,h2,h3⟩,hk⟩:=hk
   rw [asHistR_eq hz h1 h2]
   exact ⟨h3,hk⟩
  exact hk.elim
 exact hk.elim
theorem roomExpR_ok : Ok G 34 rxR:=roomExp_ok.mono fun us K hk=>by
 unfold rxR at hk
 split at hk
 ·split at hk
  ·rename_i l r z hz
   obtain ⟨⟨h1,h2,h3⟩,hk⟩:=hk
   rw [asExpR_eq hz h1 h2]
   exact ⟨h3,hk⟩
  exact hk.elim
 exact hk.elim
def rwN (r : List D) : NumD:=⟨cellD r 4,(cellD r 5).toInt,(cellD r 6).toInt,(cellD r 7).toInt,(cellD r 8).toInt,cellD r 9,(cellD r 10).toInt,(cellD r 11).toStr⟩
def rwH (r : List D) : HistD:=⟨cellD r 12,(cellD r 13).toInt,(cellD r 14).toInt,(cellD r 15).toInt,(cellD r 16).toBool,(cellD r 17).toInt,(cellD r 18).toBool,(cellD r 19).toInt,(cellD r 20).toBool,(cellD r 21).toInt,(cellD r 22).toInts,(cellD r 23).toInts,cellD r 24,(cellD r 25).toInt,(cellD r 26).toStr⟩
def rwE (r : List D) : ExpD:=⟨cellD r 27,(cellD r 28).toInt,(cellD r 29).toInt,(cellD r 30).toInt,(cellD r 31).toBool,(cellD r 32).toInt,(cellD r 33).toBool,(cellD r 34).toInt,(cellD r 35).toBool,(cellD r 36).toInt,(cellD r 37).toInt,(cellD r 38).toInt,(cellD r 39).toBool,(cellD r 40).toInt,(cellD r 41).toInts,(cellD r 42).toStr,(cellD r 43).toBool,(cellD r 44).toInt,(cellD r 45).toInts,(cellD r 46).toStr,cellD r 47,(cellD r 48).toInt,(cellD r 49).toInt,(cellD r 50).toStr⟩
def rwP (r : List D) : PtD:=⟨(cellD r 3).toInt,rwN r,rwH r,rwE r⟩
structure OpTyp (r : List D) : Prop where
 n : (rwN r).Typ
 h : (rwH r).Typ
 e : (rwE r).Typ
 i22 : cellD r 22 = .ints (cellD r 22).toInts
 i23 : cellD r 23 = .ints (cellD r 23).toInts
 i41 : cellD r 41 = .ints (cellD r 41).toInts
 i45 : cellD r 45 = .ints (cellD r 45).toInts
 ct : 0 ≤ (rwE r).count ∧ (rwE r).count < 18446744073709551616
 ze : 0 ≤ (rwE r).zero ∧ (rwE r).zero < 18446744073709551616
 eu : (rwE r).UE
structure OpSmall (r : List D) : Prop where
 n : (rwN r).Small
 h : (rwH r).Small
 e : (rwE r).Small
structure FewOk (R : List (List D)) : Prop where
 len : R.length ≤ 60
 key : ∀ r ∈ R,(cellD r 1).toStr.size ≤ 1000
 small : ∀ r ∈ R,OpSmall r
def fewT : List U → Out SV
 | [.c (.d 22 (.rows R))]=>.need (R.length ≤ 9223372036854775807 ∧ ∀ r ∈ R,OpTyp r) (.all Bool (fun b=>b = true → FewOk R) ⟨false,by simp⟩ fun b=>one (Bo b))
 | _=>.fail
theorem few_ok : Ok G 8 fewT:=by
 have hS : AllSound (B [(32,.pure (normG (B []) [35,3] rnS)),(35,.pure (normG (B []) [40,3] rhR)),(34,.pure (normG (B []) [44,3] rxR))]) G:=.cons _ roomNum_ok (.cons _ roomHistR_ok (.cons _ roomExpR_ok noneS))
 refine okP hS Tryz.func8 rfl (by decide) fun K us hk=>?_
 unfold fewT at hk
 split at hk
 ·rename_i R
  refine ⟨by show 1 ≤ _; decide,?_⟩
  obtain ⟨⟨hlen,hT⟩,hk⟩:=hk
  have hk : ∀ b : Bool,(b = true → FewOk R) → K (.u (.c (Bo b))):=hk;conv=>whnf
  refine ⟨[],_,_,rfl,Nat × Int,(fun y=>([(0,.u (.c (.d 22 (.rows R)))),(3,.u (.c (I64 y.2))),(4,.u (.c (I64 (y.1 : Nat))))],[])),
   (fun y=>y.1 ≤ R.length ∧ y.1 ≤ 60 ∧ -1 ≤ y.2 ∧ y.2 ≤ 30000 ∧ (∀ r ∈ R.take y.1,(cellD r 1).toStr.size ≤ 1000) ∧ (0 ≤ y.2 → ∀ r ∈ R.take y.1,OpSmall r)),(fun y=>R.length - y.1),fun x _=>rfl,⟨(0,30000),⟨Nat.zero_le _,Nat.zero_le _,by decide,by decide,by simp,by simp⟩,⟨rfl,rfl,rfl,trivial⟩,trivial⟩,?_⟩
  rintro ⟨i,r1⟩ ⟨p1,p2,p3,p4,p5,p6⟩
  simp only at p1 p2 p3 p4 p5 p6
  conv=>whnf
  have fini : ¬ (i < R.length ∧ i < 60) → R.length ≤ 60 → i = R.length:=fun h1 h2=>by omega
  refine Ask.i (fun c1=>?_) (fun c1=>?_)
  ·have c1 : (i : Int) < ((R.length : Nat) : Int):=of_decide_eq_true c1
   have hi : i < R.length:=by omega
   conv=>whnf
   refine Ask.i (fun c2=>?_) (fun c2=>?_)
   ·have c2 : (i : Int) < 60:=of_decide_eq_true c2
    have hb : (0 : Int) ≤ (i : Int) ∧ (i : Int) < ((R.length : Nat) : Int):=⟨by omega,c1⟩
    have hmem : R.getD i [] ∈ R:=by rw [List.getD_eq_getElem?_getD,List.getElem?_eq_getElem hi]; exact List.getElem_mem hi
    have tT:=hT _ hmem
    conv=>whnf
    refine ⟨mixed,[],[(2,[]),(5,[]),(8,[]),(11,[]),(14,[]),(17,[]),(19,[]),(20,[]),(21,[])],[],by kernel_rfl,?_⟩;conv=>whnf
    refine ⟨hb,?_⟩;conv=>whnf
    refine ⟨hb,?_⟩;conv=>whnf
    refine ⟨hb,?_⟩;conv=>whnf
    refine ⟨⟨tT.n,p3,p4⟩,?_⟩;conv=>whnf
    rintro x ⟨x1,x2⟩
    have x2 : 0 ≤ x → x ≤ r1 - 20 ∧ (rwN (R.getD i [])).Small:=x2
    have x4 : x ≤ 30000:=by
     by_cases h0 : 0 ≤ x
     ·have:=x2 h0; omega
     omega
    conv=>whnf
    refine ⟨⟨tT.i22,tT.i23,tT.h,x1,x4⟩,?_⟩;conv=>whnf
    rintro y ⟨y1,y2⟩
    have y2 : 0 ≤ y → y ≤ x - 20 ∧ (rwH (R.getD i [])).Small:=y2
    have y4 : y ≤ 30000:=by
     by_cases h0 : 0 ≤ y
     ·have:=y2 h0; omega
     omega
    conv=>whnf
    refine ⟨⟨tT.i41,tT.i45,tT.e,y1,y4⟩,?_⟩;conv=>whnf
    rintro z ⟨z1,z2⟩
    have z2 : 0 ≤ z → z ≤ y - 20 ∧ (rwE (R.getD i [])).Small:=z2
    have z4 : z ≤ 30000:=by
     by_cases h0 : 0 ≤ z
     ·have:=z2 h0; omega
     omega
    conv=>whnf
    refine ⟨hb,?_⟩;conv=>whnf
    refine Ask.i (fun c3=>?_) (fun c3=>?_)
    ·conv=>whnf
     exact hk false (by simp)
    have c3 : ¬ (((cellD (R.getD i []) 1).toStr.size : Nat) : Int) > 1000:=of_decide_eq_false c3
    conv=>whnf
    refine ⟨(i + 1,z),⟨hi,by simp only; omega,z1,z4,take_succ_all (a:=[]) hi p5 (by omega),fun h0=>take_succ_all (a:=[]) hi (p6 ?_) ⟨(x2 ?_).2,(y2 ?_).2,(z2 h0).2⟩⟩,by simp only; omega,⟨rfl,rfl,congrArg (fun z : Int=>some (SV.u (.c (I64 z)))) (w64_eq (n:=(i : Int) + 1) (by omega)),trivial⟩,trivial⟩
    ·have h0 : 0 ≤ z:=h0
     have a:=z2 h0; have b:=y2 (by omega); have c:=x2 (by omega); omega
    ·have h0 : 0 ≤ z:=h0
     have a:=z2 h0; have b:=y2 (by omega); omega
    have h0 : 0 ≤ z:=h0
    have a:=z2 h0; omega
   have c2 : ¬ (i : Int) < 60:=of_decide_eq_false c2
   conv=>whnf
   refine Ask.i (fun c3=>?_) (fun c3=>?_)
   ·have c3 : ((R.length : Nat) : Int) ≤ 60:=of_decide_eq_true c3
    exfalso; omega
   conv=>whnf
   exact hk false (by simp)
  have c1 : ¬ (i : Int) < ((R.length : Nat) : Int):=of_decide_eq_false c1
  have hi : i = R.length:=by omega
  conv=>whnf
  refine Ask.i (fun c3=>?_) (fun c3=>?_)
  ·have c3 : ((R.length : Nat) : Int) ≤ 60:=of_decide_eq_true c3
   conv=>whnf
   refine hk (decide (r1 ≥ 0)) fun h=>?_
   have h0 : 0 ≤ r1:=of_decide_eq_true h
   have q5:=p5
   have q6:=p6 h0
   rw [hi,List.take_length] at q5 q6
   exact ⟨by omega,q5,q6⟩
  conv=>whnf
  exact hk false (by simp)
 exact hk.elim
end Sx
namespace Sx
open Go Go.Proofs
set_option maxRecDepth 30000
theorem findM_mem {s : ByteArray} {r : List D} : ∀ {l : LL},findM s l = some r → (s,r) ∈ l
 | [],h=>by cases h
 | p :: l,h=>by
  simp only [findM] at h
  split at h
  ·rename_i e
   obtain rfl:=Option.some.inj h
   subst e
   exact List.mem_cons_self ..
  exact List.mem_cons_of_mem _ (findM_mem h)
theorem findM_none {s : ByteArray} : ∀ {l : LL},findM s l = none → s ∉ l.map (·.1)
 | [],_=>by simp
 | p :: l,h=>by
  simp only [findM] at h
  split at h
  ·cases h
  rename_i e
  simp only [List.map_cons,List.mem_cons,not_or]
  exact ⟨e,findM_none h⟩
theorem mem_put {s : ByteArray} {r : List D} {kr : ByteArray × List D} : ∀ {l : LL},kr ∈ putM s r l → kr = (s,r) ∨ kr ∈ l
 | [],h=>by
  simp only [putM,List.mem_cons,List.not_mem_nil,or_false] at h
  exact .inl h
 | p :: l,h=>by
  simp only [putM] at h
  split at h
  ·rcases List.mem_cons.1 h with h | h
   ·exact .inl h
   exact .inr (List.mem_cons_of_mem _ h)
  rcases List.mem_cons.1 h with h | h
  ·exact .inr (h ▸ List.mem_cons_self ..)
  exact (mem_put h).imp id (List.mem_cons_of_mem _)
theorem keys_put {s : ByteArray} {r : List D} : ∀ {l : LL},(putM s r l).map (·.1) = (match findM s l with | none=>l.map (·.1) ++ [s] | some _=>l.map (·.1))
 | []=>rfl
 | p :: l=>by
  simp only [putM,findM]
  split
  ·rename_i e; subst e; rfl
  simp only [List.map_cons]
  rw [keys_put (l:=l)]
  cases findM s l <;> rfl
structure TabOk (k : Nat) (st : Int) (l : LL) : Prop where
 keys : (l.map (·.1)).Nodup
 size : ∀ kr ∈ l,kr.1.size ≤ 1000
 len : (l.length : Int) ≤ st
 rows : ∀ kr ∈ l,∃ p i,kr.2 = PtD.row p i ∧ GS (k + 1) p
theorem TabOk.row {k : Nat} {st : Int} {l : LL} (h : TabOk k st l) {s : ByteArray} : RowOk (GS (k + 1)) s l:=fun r hr=>by
 obtain ⟨p,i,e,g⟩:=h.rows _ (findM_mem hr)
 exact ⟨p,i,e,g⟩
theorem TabOk.nil {k : Nat} {st : Int} (h : 1 ≤ st) : TabOk k st []:=⟨List.nodup_nil,by simp,by show (0 : Int) ≤ st; omega,by simp⟩
theorem TabOk.put {k : Nat} {st nw : Int} {l : LL} (h : TabOk k st l) {s : ByteArray} {p : PtD} (hp : GS (k + 1) p) (hf : findM s l = none → (l.length : Int) < st) (hs : s.size ≤ 1000) : TabOk k st (putM s (p.row nw) l):=by
 have hk:=keys_put (s:=s) (r:=p.row nw) (l:=l)
 refine ⟨?_,fun kr hm=>?_,?_,fun kr hm=>?_⟩
 ·rw [hk]
  cases hf : findM s l with
  | none =>
   refine List.nodup_append.2 ⟨h.keys,by simp,fun a ha b hb e=>?_⟩
   simp only [List.mem_cons,List.not_mem_nil,or_false] at hb
   subst hb e
   exact findM_none hf ha
  | some r=>exact h.keys
 ·rcases mem_put hm with rfl | hm
  ·exact hs
  exact h.size kr hm
 ·have hl:=congrArg List.length hk
  simp only [List.length_map] at hl
  rw [hl]
  cases hq : findM s l with
  | none =>
   have:=hf hq
   simp only [List.length_append,List.length_map,List.length_cons,List.length_nil]
   omega
  | some r =>
   have:=h.len
   simpa using this
 rcases mem_put hm with rfl | hm
 ·exact ⟨p,nw,rfl,hp⟩
 exact h.rows kr hm
theorem TabOk.filter {k : Nat} {st : Int} {l : LL} (h : TabOk k st l) (q : ByteArray × List D → Bool) : TabOk k st (l.filter q):=by
 refine ⟨h.keys.sublist ((List.filter_sublist ..).map _),fun kr hm=>h.size kr (List.mem_filter.1 hm).1,?_,fun kr hm=>h.rows kr (List.mem_filter.1 hm).1⟩
 have:=List.length_filter_le q l
 have:=h.len
 omega
theorem TabOk.rrow {k : Nat} {st : Int} {l : LL} (h : TabOk k st l) (hs : st ≤ 1000) {s : ByteArray} : RRow (GS (k + 1)) s (rowsOf l):=by
 refine ⟨by rw [asL_rowsOf],?_,by rw [asL_rowsOf]; exact h.row⟩
 have:=h.len
 rw [rowsOf_len]; omega
theorem TabOk.rall {k : Nat} {st : Int} {l : LL} (h : TabOk k st l) (hs : st ≤ 1000) : RAll (rowsOf l):=by
 refine ⟨by rw [asL_rowsOf],?_,fun kr hm=>?_⟩
 ·have:=h.len
  rw [rowsOf_len]; omega
 rw [asL_rowsOf] at hm
 obtain ⟨p,i,e,_⟩:=h.rows kr hm
 exact ⟨p,i,e⟩
theorem TabOk.had {k : Nat} {st : Int} {l : LL} (h : TabOk k st l) {s : ByteArray} {x : PtD × Int} (hx : lookP s l = some x) : GS (k + 1) x.1:=by
 unfold lookP at hx
 obtain ⟨r,h1,h2⟩:=Option.map_eq_some_iff.1 hx
 obtain ⟨p,i,e,g⟩:=h.rows _ (findM_mem h1)
 have e : r = p.row i:=e
 rw [e,asRow_row] at h2
 subst h2
 exact g
theorem look_none {s : ByteArray} {l : LL} : lookP s l = none ↔ findM s l = none:=by unfold lookP; simp
theorem full_none {s : ByteArray} {l : LL} {x : PtD × Int} (h : lookP s l = some x) {p : Prop} : findM s l = none → p:=fun e=>by rw [look_none.2 e] at h; cases h
theorem upF_ok {k : Nat} {st bu nw : Int} {l : LL} {s : ByteArray} {p : PtD} {x : PtD × Int × LL} (h : TabOk k st l) (hp : POk (k + 1) p) (hs : s.size ≤ 1000) (hx : upF st bu nw l s p = x) : TabOk k st x.2.2 ∧ SameOk (k + 1) x.1:=by
 subst hx
 unfold upF
 cases hq : fitV bu p with
 | none=>exact ⟨h,good0⟩
 | some q =>
  have gq:=fit_gs hp hq
  cases hl : lookP s l with
  | none =>
   simp only
   cases hc : decide ((l.length : Int) ≥ st) with
   | true=>exact ⟨h,good0⟩
   | false=>exact ⟨h.put gq (fun _=>by have:=of_decide_eq_false hc; omega) hs,gq.same⟩
  | some y =>
   have gy:=h.had hl
   simp only
   cases hc : decide (startOf p < timeOf y.1) || decide (timeOf p < timeOf y.1) with
   | true=>exact ⟨h,good0⟩
   | false =>
    simp only [cond_false,upTail]
    cases hm : mergeV bu y.1 (bare p) with
    | none=>exact ⟨h.put gq (full_none hl) hs,gq.same⟩
    | some r =>
     have gr:=merge_gs gy (bare_of hp) hm
     exact ⟨h.put gr (full_none hl) hs,gr.same⟩
theorem downG_ok {k : Nat} {st nw : Int} {l : LL} {s : ByteArray} {mono : Bool} {p : PtD} {x : PtD × Int × LL} (h : TabOk k st l) (hp : POk (k + 1) p) (hs : s.size ≤ 1000) (hx : downG st nw l s mono (bare p) = x) : TabOk k st x.2.2 ∧ SameOk (k + 1) x.1:=by
 subst hx
 have gB:=bare_of hp
 generalize bare p = q at gB
 unfold downG
 cases h0 : q.kd == 0 with
 | true=>exact ⟨h,good0⟩
 | false =>
  have gq:=gB.gs h0
  simp only [cond_false]
  cases hl : lookP s l with
  | none =>
   simp only
   cases hc : decide ((l.length : Int) ≥ st) with
   | true=>exact ⟨h,good0⟩
   | false=>exact ⟨h.put gq (fun _=>by have:=of_decide_eq_false hc; omega) hs,gq.same⟩
  | some y =>
   have gy:=h.had hl
   simp only
   cases hc : decide (timeOf q ≤ timeOf y.1) with
   | true=>exact ⟨h,good0⟩
   | false =>
    simp only [cond_false,downTail]
    cases hm : takeV mono q y.1 with
    | none=>exact ⟨h.put gq (full_none hl) hs,gq.same⟩
    | some r=>exact ⟨h.put gq (full_none hl) hs,take_same gq gy hm⟩
structure RowDp (k : Nat) (r : List D) : Prop where
 na : Dp (k + 1) (rwN r).attrs
 nx : Dp (k + 1) (rwN r).ex
 ha : Dp (k + 1) (rwH r).attrs
 hx : Dp (k + 1) (rwH r).ex
 ea : Dp (k + 1) (rwE r).attrs
 ex : Dp (k + 1) (rwE r).ex
theorem told_of {k : Nat} {r : List D} (t : OpTyp r) (s : OpSmall r) (d : RowDp k r) : POk (k + 1) (rwP r) :=
 ⟨fun _=>⟨⟨t.n.attrs,d.na,t.n.ex,d.nx⟩,t.n.rn⟩,
  fun _=>⟨⟨t.h.attrs,d.ha,t.h.ex,d.hx,s.h.lC,s.h.lB⟩,⟨s.h.lC,s.h.lB,t.h.sm,t.h.mn,t.h.mx⟩⟩,
  fun _=>⟨⟨⟨s.e.lP,s.e.lN,t.e.oP.1,t.e.oP.2,t.e.oN.1,t.e.oN.2,t.e.sc.1,t.e.sc.2⟩,t.e.rP,t.e.rN,t.eu⟩,⟨t.e.attrs,d.ea,t.e.ex,d.ex⟩,t.ct,t.ze⟩⟩
end Sx
namespace Sx
open Go Go.Proofs
set_option maxRecDepth 30000
def firstS : List U → Out SV
 | []=>one (Bo true)
 | _=>.fail
def oneN : NumD:=⟨.rows [],0,1,2,5,.rows [],0,nos⟩
theorem oneN_ok : NuOk 1 oneN:=⟨good0.1,⟨by decide,by decide⟩⟩
theorem oneP_ok : POk 1 (mkN oneN):=(gs_n oneN_ok).2.1
set_option maxHeartbeats 1000000 in
theorem first_ok : Ok G1 6 firstS:=by
 have hS : AllSound (B [(7,.full (normF (B []) [3,3,3] newS)),(11,.full (normF (B []) [24,9,46] (upT 1))),(10,.full (normF (B []) [24] lenTS)),(17,.pure (normG (B []) [26] codeS)),(19,.pure (normG (B []) [3] nameT))]) G1 :=
  .consF _ new_ok (.consF _ upT_ok (.consF _ lenT_ok (.cons _ code_ok (.cons _ name_ok noneS))))
 refine okP hS Tryz.func6 rfl (by decide) fun K us hk=>?_
 unfold firstS at hk
 split at hk
 ·refine ⟨by show 0 ≤ _; decide,?_⟩
  conv=>whnf
  intro c hc
  obtain rfl : false = c:=hc
  conv=>whnf
  refine ⟨⟨oneP_ok,fun r h=>by cases h⟩,?_⟩;conv=>whnf
  intro o ho
  obtain rfl : (mkN oneN,1,[(⟨#[97]⟩,(mkN oneN).row 0)]) = o:=ho
  conv=>whnf
  refine ⟨⟨oneP_ok,fun r h=>by cases h⟩,?_⟩;conv=>whnf
  intro o ho
  obtain rfl : (zeroP,4,[(⟨#[97]⟩,(mkN oneN).row 0)]) = o:=ho
  conv=>whnf
  intro c hc
  obtain rfl : true = c:=hc
  conv=>whnf
  intro b hb
  obtain rfl : nameF 1 = b:=hb
  conv=>whnf
  exact fin hk (by simp; rw [ByteArray.toList_eq]; rfl)
 exact hk.elim
end Sx
namespace Sx
open Go
section
variable {S : Pr} {E : Ctx} {ops : Array Oper}
theorem runT_mono {nt : Nat} {D : DD} {all : List Oper} {N N' : Env → Own → Prop} (h : ∀ e o,N e o → N' e o) : ∀ {l : List Nat} {env : Env} {own : Own},runT S nt D all l env own N → runT S nt D all l env own N'
 | [],_,_,hk=>h _ _ hk
 | i :: l,_,_,hk=>stepT_mono (fun e o he=>runT_mono h he) hk
theorem runT_app {nt : Nat} {D : DD} {all : List Oper} {N : Env → Own → Prop} {m : List Nat} : ∀ {l : List Nat} {env : Env} {own : Own},runT S nt D all l env own (fun e o=>runT S nt D all m e o N) → runT S nt D all (l ++ m) env own N
 | [],_,_,hk=>hk
 | i :: l,_,_,hk=>stepT_mono (fun e o he=>runT_app he) hk
theorem rem_mid {n k : Nat} {listed : Array Bool} (hk : k < n) (h1 : ∀ j,j ≤ k → listed.getD j true = true) (h2 : ∀ j,k < j → j < n → listed.getD j true = false) : remL n listed = List.range' (k + 1) (n - k - 1):=by
 unfold remL
 have e : List.range n = List.range' 0 (k + 1) ++ List.range' (k + 1) (n - k - 1):=by
  have:=List.range'_append_1 (s:=0) (m:=k + 1) (n:=n - k - 1)
  rw [Nat.zero_add] at this
  rw [this,List.range_eq_range']; congr 1; omega
 rw [e,List.filter_append,List.filter_eq_nil_iff.2,List.nil_append,List.filter_eq_self]
 ·intro i hi
  have:=List.mem_range'_1.1 hi
  rw [h2 i (by omega) (by omega)]; rfl
 intro i hi
 have:=List.mem_range'_1.1 hi
 rw [h1 i (by omega)]; simp
theorem rem_mid2 {n k f : Nat} {listed : Array Bool} (hk : k < f) (hf : f < n) (h1 : ∀ j,j ≤ k → listed.getD j true = true) (hff : listed.getD f true = true) (h2 : ∀ j,k < j → j < n → j ≠ f → listed.getD j true = false) : remL n listed = List.range' (k + 1) (f - k - 1) ++ List.range' (f + 1) (n - f - 1):=by
 unfold remL
 have e : List.range n = (List.range' 0 (k + 1) ++ List.range' (k + 1) (f - k - 1)) ++ (f :: List.range' (f + 1) (n - f - 1)):=by
  have e1 : List.range' 0 (k + 1) ++ List.range' (k + 1) (f - k - 1) = List.range' 0 f:=by
   have:=List.range'_append_1 (s:=0) (m:=k + 1) (n:=f - k - 1)
   rw [Nat.zero_add] at this
   rw [this]; congr 1; omega
  have e2 : f :: List.range' (f + 1) (n - f - 1) = List.range' f (n - f):=by
   rw [show n - f = (n - f - 1) + 1 by omega,List.range'_succ]; simp
  rw [e1,e2,List.range_eq_range']
  have:=List.range'_append_1 (s:=0) (m:=f) (n:=n - f)
  rw [Nat.zero_add] at this
  rw [this]; congr 1; omega
 rw [e,List.filter_append,List.filter_append,List.filter_cons,hff,List.filter_eq_nil_iff.2,List.nil_append]
 ·congr 1
  ·rw [List.filter_eq_self]
   intro i hi
   have:=List.mem_range'_1.1 hi
   rw [h2 i (by omega) (by omega) (by omega)]; rfl
  simp only [Bool.not_true,Bool.false_eq_true,if_false]
  rw [List.filter_eq_self]
  intro i hi
  have:=List.mem_range'_1.1 hi
  rw [h2 i (by omega) (by omega) (by omega)]; rfl
 intro i hi
 have:=List.mem_range'_1.1 hi
 rw [h1 i (by omega)]; simp
variable {D : DD}
variable {G : Glob} (hT : TOk S.P S.tt) (hS : AllSound S G) (hET : E.T = S.T) (hEG : E.G = G) (hlow : ∀ n,n < 50000 → E.own0 n = none) (hhi : ∀ n,100000 ≤ n → E.own0 n = none)
include hT hS hET hEG hlow hhi in
theorem draw_anyG (hok : drawOk ops D.W D.el = true) {k f : Nat} (hkf : k < f) (hfs : f < ops.size) {oF oK : Oper} (hof : ops[f]? = some oF) (hoK : ops[k]? = some oK) (hind : ∀ j,j < k → ∃ oj,ops[j]? = some oj ∧ indepB ops oj oF = true)
  (htl : ∀ i,k ≤ i → i < ops.size → i ≠ f → (∀ j,j < k → ((bfs ops.toList []).getD i 0).testBit j = true) ∧ (i ≠ k → ((bfs ops.toList []).getD i 0).testBit k = true)) {NA NB : Env → Own → Prop} {Q : Exit → Act → World → Prop}
  (hA : ∀ fuel (listed : Array Bool) env own β a w,listed.size = ops.size → Down ops (fun i=>listed.getD i false = true) → (∀ j,j ≤ k → listed.getD j true = true) → (∀ j,k < j → j < ops.size → listed.getD j true = false) → (remL ops.size listed).length ≤ fuel → NA env own → Rel E β env own a w → wpAny S.P .any ops Q fuel listed a w)
  (hB : ∀ fuel (listed : Array Bool) env own β a w,listed.size = ops.size → Down ops (fun i=>listed.getD i false = true) → (∀ j,j ≤ k → listed.getD j true = true) → listed.getD f true = true → (∀ j,k < j → j < ops.size → j ≠ f → listed.getD j true = false) → (remL ops.size listed).length ≤ fuel → NB env own → Rel E β env own a w → wpAny S.P .any ops Q fuel listed a w) : ∀ (fuel : Nat) {listed : Array Bool} {β : Nat → Option Nat} {env : Env} {own : Own} {a : Act} {w : World},
  listed.size = ops.size → Down ops (fun i=>listed.getD i false = true) → (∀ i,i < ops.size → listed.getD i true = false → ∀ n,D.own0 n ≠ none → memN (D.at i).ex n = false → own n = D.own0 n) →
  (∀ j,k ≤ j → j < ops.size → j ≠ f → listed.getD j true = false) → (remL ops.size listed).length ≤ fuel → Rel E β env own a w →
  ((listed.getD f true = false ∧ runT S E.nt D ops.toList (remL k listed) env own fun e o=>runOps S E.nt ops.toList [oK] e o NA ∧ stepT S E.nt D ops.toList f (fun e o=>runOps S E.nt ops.toList [oK] e o NB) e o) ∨
   (listed.getD f true = true ∧ runT S E.nt D ops.toList (remL k listed) env own fun e o=>runOps S E.nt ops.toList [oK] e o NB)) → wpAny S.P .any ops Q fuel listed a w:=by
 simp only [drawOk,Bool.and_eq_true] at hok
 have good : GoodT ops (bfs ops.toList []):=bfs_good (fun k o hk=>by simpa using hk) (fun k hk=>by simp at hk) (fun i m o h=>by simp at h)
 have okI : ∀ i,i < ops.size → okAt ops (bfs ops.toList []) i = true:=fun i hi=>List.all_eq_true.1 hok.1 i (List.mem_range.2 hi)
 have gD : ∀ (listed : Array Bool) j,listed.size = ops.size → j < ops.size → listed.getD j true = listed.getD j false:=by
  intro listed j hs hj
  have : j < listed.size:=by omega
  simp [this]
 have rch : ∀ (listed : Array Bool),Down ops (fun i=>listed.getD i false = true) → ∀ i o,ops[i]? = some o → (∀ e ∈ bindsO o,listed.getD e false = true) → ∀ j,((bfs ops.toList []).getD i 0).testBit j = true → listed.getD j false = true:=by
  intro listed hD i o ho hb j hj
  cases hm : (bfs ops.toList [])[i]? with
  | none=>simp [List.getD,hm] at hj
  | some m=>exact good i m o hm ho j (by simpa [List.getD,hm] using hj) _ hD hb
 have some_ready : ∀ (listed : Array Bool),listed.size = ops.size → ∀ i,i < ops.size → listed.getD i true = false → (∀ j,j < i → listed.getD j false = true) → i ∈ Region.ready .any ops listed:=by
  intro listed hs i hi hu hlt
  have ho : ops[i]? = some ops[i]:=by simp [hi]
  refine mem_ready.2 ⟨hi,hu,ops[i],ho,fun e he=>hlt e ?_⟩
  have:=okI i hi
  simp only [okAt,ho,Bool.and_eq_true] at this
  have:=List.all_eq_true.1 this.1 e he
  exact Nat.le_of_ble_eq_true this
 have gset : ∀ (listed : Array Bool) (i j : Nat),listed.size = ops.size → i < ops.size → ((listed.setIfInBounds i true).getD j false = true ↔ j = i ∨ listed.getD j false = true):=by
  intro listed i j hs hi
  by_cases e : j = i
  ·subst e
   have : j < listed.size:=by omega
   simp [this]
  simp only [e,false_or,Array.getD_eq_getD_getElem?,Array.getElem?_setIfInBounds_ne (Ne.symm e)]
 have gne : ∀ (listed : Array Bool) (i j : Nat) (d : Bool),j ≠ i → (listed.setIfInBounds i true).getD j d = listed.getD j d:=by
  intro listed i j d e
  simp only [Array.getD_eq_getD_getElem?,Array.getElem?_setIfInBounds_ne (Ne.symm e)]
 have downS : ∀ (listed : Array Bool) (i : Nat) (o : Oper),listed.size = ops.size → i < ops.size → ops[i]? = some o → (∀ e ∈ bindsO o,listed.getD e false = true) → Down ops (fun i=>listed.getD i false = true) → Down ops (fun j=>(listed.setIfInBounds i true).getD j false = true):=by
  intro listed i o hs hi ho hb hD k ok hk hL e he
  rcases (gset listed i k hs hi).1 hL with rfl | hL
  ·rw [ho] at hk
   obtain rfl:=Option.some.inj hk
   exact (gset _ _ _ hs hi).2 (.inr (hb e he))
  exact (gset _ _ _ hs hi).2 (.inr (hD k ok hk hL e he))
 intro fuel
 induction fuel with
 | zero =>
  intro listed β env own a w hs hD ha htu hlen hR hrun
  have : k ∈ remL ops.size listed:=by
   unfold remL
   rw [List.mem_filter,htu k (Nat.le_refl _) (by omega) (by omega)]
   exact ⟨List.mem_range.2 (by omega),rfl⟩
  rw [List.length_eq_zero_iff.1 (Nat.le_zero.1 hlen)] at this
  cases this
 | succ fuel ih =>
  intro listed β env own a w hs hD ha htu hlen hR hrun
  have hku:=htu k (Nat.le_refl _) (by omega) (by omega)
  refine ⟨fun hr=>?_,fun i hi=>?_⟩
  ·have hall : ∀ i,i ≤ k → listed.getD i false = true:=by
    intro i
    induction i using Nat.strongRecOn with
    | _ i ih =>
     intro hi
     cases hq : listed.getD i false with
     | true=>rfl
     | false =>
      have:=some_ready listed hs i (by omega) (by rw [gD listed i hs (by omega)]; exact hq) fun j hj=>ih j hj (by omega)
      rw [hr] at this
      cases this
   have:=hall k (Nat.le_refl _)
   rw [← gD listed k hs (by omega),hku] at this
   cases this
  obtain ⟨hlt,hu,o,ho,hb⟩:=mem_ready.1 hi
  have hs' : (listed.setIfInBounds i true).size = ops.size:=by simpa using hs
  obtain ⟨m1,m2,w1,w2,_⟩:=remL_split (n:=ops.size) (by omega) hlt hu
  have hlen' : (remL ops.size (listed.setIfInBounds i true)).length ≤ fuel:=by
   rw [w2]
   rw [w1] at hlen
   simp only [List.length_append,List.length_cons] at hlen ⊢
   omega
  have hD':=downS listed i o hs hlt ho hb hD
  by_cases hik : i = k
  ·subst hik
   rw [hoK] at ho
   obtain rfl:=Option.some.inj ho
   have hbit:=(htl i (Nat.le_refl _) hlt (by omega)).1
   have hall : ∀ j,j < i → listed.getD j false = true:=fun j hj=>rch listed hD i _ hoK hb j (hbit j hj)
   have hnil : remL i listed = []:=by
    unfold remL
    rw [List.filter_eq_nil_iff]
    intro j hj
    have hj:=List.mem_range.1 hj
    rw [gD listed j hs (by omega),hall j hj]
    simp
   rw [hnil] at hrun
   have hl1 : ∀ j,j ≤ i → (listed.setIfInBounds i true).getD j true = true:=fun j hj=>by
    rw [gD _ j hs' (by omega)]
    refine (gset listed i j hs hlt).2 ?_
    by_cases e : j = i
    ·exact .inl e
    exact .inr (hall j (by omega))
   rcases hrun with ⟨hf,hrun⟩ | ⟨hf,hrun⟩
   ·refine step_seq hT hS hET hEG hlow hhi hoK hR hrun.1 fun env own β a w q1 q2=>hA fuel _ env own β a w hs' hD' hl1 (fun j h1 h2=>?_) hlen' q1 q2
    rw [gne _ _ _ _ (by omega)]
    by_cases e : j = f
    ·subst e; exact hf
    exact htu j (by omega) h2 e
   refine step_seq hT hS hET hEG hlow hhi hoK hR hrun fun env own β a w q1 q2=>hB fuel _ env own β a w hs' hD' hl1 (by rw [gne _ _ _ _ (by omega)]; exact hf) (fun j h1 h2 h3=>?_) hlen' q1 q2
   rw [gne _ _ _ _ (by omega)]
   exact htu j (by omega) h2 h3
  have hcase : i < k ∨ i = f:=by
   by_cases c : i < k
   ·exact .inl c
   by_cases c2 : i = f
   ·exact .inr c2
   have:=rch listed hD i o ho hb k ((htl i (by omega) hlt c2).2 hik)
   rw [← gD listed k hs (by omega),hku] at this
   cases this
  have hoki:=okI i hlt
  simp only [okAt,ho,Bool.and_eq_true] at hoki
  -- the operation goes first
  have hfront : stepT S E.nt D ops.toList i (fun e o=>(((listed.setIfInBounds i true).getD f true = false ∧ runT S E.nt D ops.toList (remL k (listed.setIfInBounds i true)) e o fun e o=>runOps S E.nt ops.toList [oK] e o NA ∧ stepT S E.nt D ops.toList f (fun e o=>runOps S E.nt ops.toList [oK] e o NB) e o) ∨
   ((listed.setIfInBounds i true).getD f true = true ∧ runT S E.nt D ops.toList (remL k (listed.setIfInBounds i true)) e o fun e o=>runOps S E.nt ops.toList [oK] e o NB))) env own:=by
   rcases hcase with hkl | rfl
   ·obtain ⟨l1,l2,e1,e2,e3⟩:=remL_split (n:=k) (by omega) hkl hu
    have ex : ∀ N : Env → Own → Prop,runT S E.nt D ops.toList (remL k listed) env own N → stepT S E.nt D ops.toList i (fun e o=>runT S E.nt D ops.toList (remL k (listed.setIfInBounds i true)) e o N) env own:=by
     intro N hN
     rw [e1] at hN
     rw [e2]
     exact runT_front ho (l2:=l2) (l1:=l1) (fun j hj=>by
      obtain ⟨h1,h2⟩:=e3 j hj
      have h3:=List.all_eq_true.1 hoki.2 j (List.mem_range.2 h1)
      simp only [Bool.or_eq_true] at h3
      rcases h3 with h3 | h3
      ·have:=rch listed hD i o ho hb j h3
       rw [← gD listed j hs (by omega),h2] at this
       cases this
      split at h3
      ·rename_i oj hj'
       exact ⟨oj,hj',h3⟩
      cases h3) hN
    rcases hrun with ⟨hf,hrun⟩ | ⟨hf,hrun⟩
    ·exact stepT_mono (fun e o he=>.inl ⟨by rw [gne _ _ _ _ (by omega)]; exact hf,he⟩) (ex _ hrun)
    exact stepT_mono (fun e o he=>.inr ⟨by rw [gne _ _ _ _ (by omega)]; exact hf,he⟩) (ex _ hrun)
   rcases hrun with ⟨hf,hrun⟩ | ⟨hf,hrun⟩
   ·have e2 : remL k (listed.setIfInBounds i true) = remL k listed:=by
     unfold remL
     refine List.filter_congr fun j hj=>?_
     rw [gne _ _ _ _ (by have:=List.mem_range.1 hj; omega)]
    have h1 : runT S E.nt D ops.toList (remL k listed ++ [i]) env own (fun e o=>runOps S E.nt ops.toList [oK] e o NB):=runT_app (runT_mono (fun e o he=>he.2) hrun)
    have h2:=runT_front ho (l2:=[]) (l1:=remL k listed) (fun j hj=>by
     unfold remL at hj
     obtain ⟨oj,g1,g2⟩:=hind j (List.mem_range.1 (List.mem_filter.1 hj).1)
     rw [hof] at ho
     obtain rfl:=Option.some.inj ho
     exact ⟨oj,g1,g2⟩) h1
    rw [List.append_nil] at h2
    refine stepT_mono (fun e o he=>.inr ⟨?_,?_⟩) h2
    ·rw [gD _ i hs' hlt]
     exact (gset listed i i hs hlt).2 (.inl rfl)
    rw [e2]; exact he
   rw [hu] at hf; cases hf
  have hsnap : ∀ n B,(D.at i).snap n = some B → own n = some B:=by
   intro n B hB
   simp only [DC.snap] at hB
   cases hw : memN (D.at i).ex n with
   | true=>rw [hw] at hB; cases hB
   | false =>
    rw [hw] at hB
    simp only [cond_false] at hB
    have hB : D.own0 n = some B:=hB
    rw [ha i hlt hu n (by simp [hB]) hw]
    exact hB
  refine step_op hT hS hET hEG hlow hhi hR ho hsnap hfront fun env' e β' a' w' q1 q2 q3=>?_
  refine ih hs' hD' ?_ ?_ hlen' q3 q2
  ·intro j hj huj n h0 hw
   have hne : j ≠ i:=by
    rintro rfl
    have:=(gset listed j j hs hj).2 (.inl rfl)
    rw [← gD _ j hs' hj,huj] at this
    cases this
   have huj' : listed.getD j true = false:=by rw [← gne listed i j true hne]; exact huj
   rw [app_ne (own:=own) (fun p hp=>?_),ha j hj huj' n h0 hw]
   intro hpn
   unfold EffOk at q1
   split at q1
   ·subst q1; cases hp
   ·rcases q1 with rfl | ⟨d,B,_,_,r2,rfl⟩
    ·cases hp
    simp only [List.mem_cons,List.not_mem_nil,or_false] at hp
    subst hp
    exact h0 (by rw [← hpn]; exact r2)
   all_goals
    have hin : memN (D.at i).W p.1 = true:=by
     first
      | exact q1 p hp
      | (rcases q1 with q1 | ⟨d,B,_,r2,rfl⟩; exact (q1 p hp).1; simp only [List.mem_cons,List.not_mem_nil,or_false] at hp; subst hp; exact absurd (by rw [← hpn]; exact r2) h0)
    rw [hpn] at hin
    have hWi : ∃ ws,lookT D.W i = some ws ∧ memN ws n = true:=by
     simp only [DD.at] at hin
     cases hl : lookT D.W i with
     | none=>rw [hl] at hin; cases hin
     | some ws=>rw [hl] at hin; exact ⟨ws,rfl,hin⟩
    obtain ⟨ws,hl,hm⟩:=hWi
    have hmem:=lookT_mem hl
    simp only [DD.at] at hw
    cases hx : lookT D.el j with
    | none =>
     rw [hx] at hw
     simp only [Option.getD_none] at hw
     have : memN (D.W.flatMap (·.2)) n = true:=memN_mem.2 (List.mem_flatMap.2 ⟨_,hmem,memN_mem.1 hm⟩)
     rw [hw] at this
     cases this
    | some ex =>
     rw [hx] at hw
     simp only [Option.getD_some] at hw
     have:=List.all_eq_true.1 hok.2 j (List.mem_range.2 hj)
     rw [hx] at this
     have:=List.all_eq_true.1 this _ hmem
     simp only [Bool.or_eq_true] at this
     rcases this with hbit | hsub
     ·have:=rch listed hD i o ho hb j hbit
      rw [← gD listed j hs hj,huj'] at this
      cases this
     have:=List.all_eq_true.1 hsub n (memN_mem.1 hm)
     rw [hw] at this
     cases this
  intro j hj hjs hjf
  have hji : j ≠ i:=by
   rintro rfl
   rcases hcase with h | h
   ·omega
   exact hjf h
  rw [gne _ _ _ _ hji]
  exact htu j hj hjs hjf
def midOk (ops : Array Oper) (tbl : List Nat) (k f : Nat) : Bool:=Nat.ble (k + 1) f && Nat.ble (f + 1) ops.size && (match ops[f]? with
  | some oF=>(List.range k).all fun j=>match ops[j]? with | some oj=>indepB ops oj oF | none=>false
  | none=>false) &&
 (List.range ops.size).all fun i=>Nat.ble (i + 1) k || i.beq f || ((List.range k).all fun j=>(tbl.getD i 0).testBit j) && (i.beq k || (tbl.getD i 0).testBit k)
include hT hS hET hEG hlow hhi in
theorem draw_mid {β : Nat → Option Nat} {env : Env} {own : Own} {a : Act} {w : World} {id : Nat} (h : Rel E β env own a w) (hm : S.P.follows .mixedOrders = true) {W el : List (Nat × List Nat)} (k f : Nat) (hok0 : drawOk ops [] [] = true) (hok : drawOk ops W el = true) (hmid : midOk ops (bfs ops.toList []) k f = true) {N : Env → Own → Prop} {Q : Exit → Act → World → Prop}
  (hrun : runD S E.nt ⟨own,[],[]⟩ ops.toList 0 (ops.toList.take k) env own fun e o =>
   runOps S E.nt ops.toList ((ops.toList.drop k).take 1) e o (fun e o=>runD S E.nt ⟨o,W,el⟩ ops.toList (k + 1) (ops.toList.drop (k + 1)) e o N) ∧
   runD S E.nt ⟨own,[],[]⟩ ops.toList f ((ops.toList.drop f).take 1) e o fun e o=>runOps S E.nt ops.toList ((ops.toList.drop k).take 1) e o fun e o =>
    runD S E.nt ⟨o,W,el⟩ ops.toList (k + 1) ((ops.toList.drop (k + 1)).take (f - k - 1)) e o fun e' o'=>runD S E.nt ⟨o,W,el⟩ ops.toList (f + 1) (ops.toList.drop (f + 1)) e' o' N)
  (hQ : ∀ env own β a w,N env own → Rel E β env own a w → Q .normal a w) : (Code.region id ops true).wp S.P Q a w:=by
 simp only [midOk,Bool.and_eq_true] at hmid
 obtain ⟨⟨⟨m1,m2⟩,m3⟩,m4⟩:=hmid
 have m1 : k < f:=Nat.le_of_ble_eq_true m1
 have m2 : f < ops.size:=Nat.le_of_ble_eq_true m2
 have hof : ops[f]? = some ops[f]:=by simp [m2]
 have hks : k < ops.size:=by omega
 have hoK : ops[k]? = some ops[k]:=by simp [hks]
 rw [hof] at m3
 have hd : ∀ i (hi : i < ops.size),(ops.toList.drop i).take 1 = [ops[i]]:=fun i hi=>by
  rw [List.drop_eq_getElem_cons (by simpa using hi)]; rfl
 rw [hd k hks] at hrun
 rw [hd f m2] at hrun
 have hnone : ∀ i,i < ops.size → (Array.replicate ops.size false).getD i true = false:=fun i hi=>by simp [hi]
 have hrem : ∀ k,k ≤ ops.size → remL k (Array.replicate ops.size false) = List.range k:=by
  intro k hk
  unfold remL
  rw [List.filter_eq_self]
  intro i hi
  rw [hnone i (by have:=List.mem_range.1 hi; omega)]
  rfl
 have h2 : Rel E β env own a { w with drawn:=w.drawn + 1 }:=h.idle ⟨rfl,rfl,rfl,Nat.le_refl _,fun _ _ _=>rfl⟩
 have done : ∀ (D : DD),drawOk ops D.W D.el = true → ∀ fuel (listed : Array Bool) env own β a w,listed.size = ops.size → (∀ j,j < ops.size → listed.getD j false = true) → (∀ j,ops.size ≤ j → j < ops.size → listed.getD j true = false) → ops.size - ops.size ≤ fuel → N env own → Rel E β env own a w → wpAny S.P .any ops Q fuel listed a w:=by
  intro D hokD fuel listed env own β a w q1 q2 q3 q4 q5 q6
  refine tail_any (D:=D) hT hS hET hEG hlow hhi hokD (kk:=ops.size) (fun i h1 h2=>absurd h2 (by omega)) hQ fuel ops.size q1 (Nat.le_refl _) (Nat.le_refl _) q2 q3 q4 q6 ?_
  rw [List.drop_eq_nil_of_le (by simp)]
  exact q5
 have gat : ∀ (s : Nat) (n : Nat) kk o,((ops.toList.drop s).take n)[kk]? = some o → ops.toList[s + kk]? = some o:=by
  intro s n kk o hk
  rw [List.getElem?_take] at hk
  split at hk
  ·simpa using hk
  cases hk
 refine wp_region_any hm (draw_anyG (D:=⟨own,[],[]⟩) hT hS hET hEG hlow hhi hok0 m1 m2 hof hoK (fun j hj=>?_) (fun i h1 h2 h3=>?_)
  (NA:=fun e o=>runD S E.nt ⟨o,W,el⟩ ops.toList (k + 1) (ops.toList.drop (k + 1)) e o N)
  (NB:=fun e o=>runD S E.nt ⟨o,W,el⟩ ops.toList (k + 1) ((ops.toList.drop (k + 1)).take (f - k - 1)) e o fun e' o'=>runD S E.nt ⟨o,W,el⟩ ops.toList (f + 1) (ops.toList.drop (f + 1)) e' o' N) ?_ ?_ ops.size (by simp) ?_ (fun _ _ _ _ _ _=>rfl) (fun j _ hj _=>hnone j hj) ?_ h2 (.inl ⟨hnone f m2,?_⟩))
 ·have:=List.all_eq_true.1 m3 j (List.mem_range.2 hj)
  split at this
  ·rename_i oj hj'
   exact ⟨oj,hj',this⟩
  cases this
 ·have:=List.all_eq_true.1 m4 i (List.mem_range.2 h2)
  simp only [Bool.or_eq_true,Bool.and_eq_true] at this
  rcases this with (this | this) | ⟨t1,t2⟩
  ·have:=Nat.le_of_ble_eq_true this; omega
  ·exact absurd (Nat.eq_of_beq_eq_true this) h3
  exact ⟨fun j hj=>List.all_eq_true.1 t1 j (List.mem_range.2 hj),fun hk=>t2.resolve_left fun e=>hk (Nat.eq_of_beq_eq_true e)⟩
 ·intro fuel listed env own β a w q1 q2 q3 q4 q5 q6 q7
  have e:=rem_mid hks q3 q4
  refine draw_any (D:=⟨own,W,el⟩) hT hS hET hEG hlow hhi hok (Nat.le_refl _) (fun i h1 h2=>absurd h2 (by omega)) (N:=N) (done ⟨own,W,el⟩ hok) fuel q1 q2 (fun _ _ _ _ _ _=>rfl) (fun j h1 h2=>absurd h2 (by omega)) (by omega) q7 ?_
  rw [e]
  have:=runD_T _ (i:=k + 1) (all:=ops.toList) (fun m o hk=>by simpa using hk) q6
  simpa [Nat.sub_sub] using this
 ·intro fuel listed env own β a w q1 q2 q3 qf q4 q5 q6 q7
  have e:=rem_mid2 m1 m2 q3 qf q4
  refine draw_any (D:=⟨own,W,el⟩) hT hS hET hEG hlow hhi hok (Nat.le_refl _) (fun i h1 h2=>absurd h2 (by omega)) (N:=N) (done ⟨own,W,el⟩ hok) fuel q1 q2 (fun _ _ _ _ _ _=>rfl) (fun j h1 h2=>absurd h2 (by omega)) (by omega) q7 ?_
  rw [e]
  refine runT_app ?_
  have:=runD_T _ (i:=k + 1) (all:=ops.toList) (gat (k + 1) (f - k - 1)) q6
  have hl : ((ops.toList.drop (k + 1)).take (f - k - 1)).length = f - k - 1:=by simp; omega
  rw [hl] at this
  refine runT_mono (fun e o he=>?_) this
  have:=runD_T _ (i:=f + 1) (all:=ops.toList) (fun m o hk=>by simpa using hk) he
  simpa [Nat.sub_sub] using this
 ·intro k o hk hL
  simp only [Array.getD_eq_getD_getElem?] at hL
  rw [Array.getElem?_replicate] at hL
  split at hL <;> simp at hL
 ·rw [hrem ops.size (Nat.le_refl _)]; simp
 rw [hrem k (by omega)]
 have:=runD_T (ops.toList.take k) (i:=0) (all:=ops.toList) (fun m o hk=>by
  rw [List.getElem?_take] at hk
  split at hk
  ·simpa using hk
  cases hk) hrun
 rw [List.range_eq_range']
 have hl : (ops.toList.take k).length = k:=by simp; omega
 rw [hl] at this
 refine runT_mono (fun e o he=>⟨he.1,?_⟩) this
 have:=runD_T [ops[f]] (i:=f) (all:=ops.toList) (fun m o hk=>by
  cases m with
  | zero=>simp only [List.getElem?_cons_zero,Option.some.injEq] at hk; subst hk; simp [m2]
  | succ m=>simp at hk) he.2
 exact this
end
end Sx
