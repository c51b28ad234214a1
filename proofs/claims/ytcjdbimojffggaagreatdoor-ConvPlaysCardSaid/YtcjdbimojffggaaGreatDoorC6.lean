/- Part of the proof: a machine of states for walks, and contracts of functions over it. Conditions: those that each theorem names. -/
import Derived.Test.YtcjdbimojffggaaGreatDoorC5
set_option linter.unusedVariables false
set_option linter.unusedSimpArgs false
namespace Sx
open Go
def opA (S : Pr) (env : Env) (own : Own) (d : Nat) (o : Oper) : Out (C × Env × Own) :=
 match o.op with
 | .call ⟨.builtin .append,args,ts⟩=>match args.toList,ts.toList with
  | [x,y],[t,t']=>match evC env x,evC env y,bytesT S t with
   | some (.r n u),some cy,some by_=>bif t.beq t' && t.beq u && by_.ble 1024 && ((own d).isNone || d.beq n) then (match own n,dataOf S.T own t cy with
    | some (.row u' xd),some yd=>match dapp S.T t xd yd with
     | some r=>bif t.beq u' then .need (xd.len + yd.len ≤ 137438953472) (.ret (.r d t,env.drop n,fset (own.drop n) d (.row t r))) else .fail
     | none=>.fail
    | _,_=>.fail) else .fail
   | _,_,_=>.fail
  | _,_=>.fail
 | _=>.fail
section
variable {S : Pr} {E : Ctx} {β : Nat → Option Nat} {env : Env} {own snap : Own} {a : Act} {w : World}
variable (hT : TOk S.P S.tt) (h : Rel E β env own a w) (hET : E.T = S.T)
def AOk (S : Pr) (E : Ctx) (a : Act) (w : World) (o : Oper) (K : C × Env × Own → Prop) : Prop :=
 ∃ c env' own' v w' β',K (c,env',own') ∧ (execOp a.eval o).run S.P w = .ok (.value v) w' ∧ Rel E β' env' own' a w' ∧ DenC E.T w' β' (Av E.X β' own') own' c v
include hT h hET in
theorem opA_sound {o : Oper} {d : Nat} {K : C × Env × Own → Prop} (hd0 : E.own0 d = none) (hk : (opA S env own d o).wp K) : AOk S E a w o K:=by
 unfold opA at hk
 split at hk
 ·rename_i args ts ho
  split at hk
  ·rename_i x y t t' hx ht
   obtain rfl:=arr2 hx
   obtain rfl:=arr2 ht
   split at hk
   ·rename_i n u cy by_ h0 h1 h2
    obtain ⟨hb,hk1⟩:=wp_cond_fail hk
    clear hk
    simp only [Bool.and_eq_true,Bool.or_eq_true] at hb
    obtain ⟨⟨⟨hb1,hb2⟩,hb3⟩,hb4⟩:=hb
    obtain rfl:=Nat.eq_of_beq_eq_true hb1
    obtain rfl:=Nat.eq_of_beq_eq_true hb2
    have hb3:=Nat.le_of_ble_eq_true hb3
    have hd : own d = none ∨ d = n:=hb4.imp (fun e=>by simpa using e) Nat.eq_of_beq_eq_true
    split at hk1
    ·rename_i u' xd yd hn hy
     split at hk1
     ·rename_i r hr
      obtain ⟨hb5,hk2⟩:=wp_cond_fail hk1
      clear hk1
      obtain rfl:=Nat.eq_of_beq_eq_true hb5
      obtain ⟨hle,hk3⟩:=need_of hk2
      have hden:=evC_den h h0
      obtain ⟨ad2,cap2,news,hvy,p1,p2,p3,p4,p5,p6⟩:=slice_data (snap:=own) h.blks (fun _ _ e=>e) (evC_den h h1) (by rw [hET]; exact hy)
      obtain ⟨adx,capx,olds,hvx,o1,o2,o3,o4,o5,o6⟩:=slice_data (snap:=own) (t:=t) (x:=xd) h.blks (fun _ _ e=>e) hden (by simp [dataOf,hn])
      obtain ⟨el,hel⟩ : ∃ el,S.T t = some el:=by
       cases hq : S.T t with
       | none=>simp [dapp,hq] at hr
       | some el=>exact ⟨el,rfl⟩
      obtain ⟨e,i,z,q1,q2,q3,q4,q5,q6⟩:=bytes_info hT h2 hel
      have happ:=fun rest=>RowRd.app (rest:=rest) o5 p5 o2 p2 (by rw [hET]; exact hr)
      have hlen : r.len = xd.len + yd.len:=(happ []).2
      rw [hET,← q6] at p2 o2
      have hmul : (xd.len + yd.len) * i.bytes ≤ 137438953472 * 1024:=Nat.mul_le_mul hle (by omega)
      obtain ⟨x2,b1,b2⟩:=hden
      have e1:=hn.symm.trans b1
      simp only [Option.some.injEq,Blk.row.injEq,true_and] at e1
      subst e1
      obtain ⟨cs,r1,r2⟩:=h.blks.blk n _ hn
      have hexec : (execOp a.eval o).run S.P w = ((Builtin.append_ #[t,t] o.type #[.slice adx xd.len capx,.slice ad2 yd.len cap2]).run S.P w).andThen fun v w=>.ok (.value v) w:=by
       rw [call_builtin ho]
       simp [builtin,hvx,hvy]
      -- the row's own block
      have hrow : (adx = none → xd.len = 0 ∧ capx = 0) ∧ (xd.len + yd.len ≤ capx → yd.len = 0 ∨ ∃ b cs te,adx = some ⟨b,0,none⟩ ∧ w.heap[b]? = some (.cells cs te (0,0)) ∧ cs.size = capx * i.size) ∧
        (∀ b,adx = some ⟨b,0,none⟩ → β n = some b ∨ (β n = none ∧ capx = 0)) ∧ (β n = none → xd.len = 0 ∧ capx = 0):=by
       cases hβ : β n with
       | none =>
        rw [hβ] at b2
        obtain ⟨c1,ad,c2⟩:=b2
        rw [hvx] at c2
        simp only [Value.slice.injEq] at c2
        obtain ⟨rfl,c3,rfl⟩:=c2
        exact ⟨fun _=>⟨c1,rfl⟩,fun hh=>.inl (by omega),fun _ _=>.inr ⟨rfl,rfl⟩,fun _=>⟨c1,rfl⟩⟩
       | some b =>
        rw [hβ] at b2
        obtain ⟨cap',cs',te',c1,c2,c3,c4⟩:=b2
        rw [hvx] at c1
        simp only [Value.slice.injEq,true_and] at c1
        obtain ⟨rfl,rfl⟩:=c1
        refine ⟨fun hh=>(by cases hh),fun _=>.inr ⟨b,cs',te',rfl,c2,(by rw [c3,hET,q6])⟩,fun b' hb'=>?_,fun hh=>(by cases hh)⟩
        simp only [Option.some.injEq,Addr.mk.injEq,and_true] at hb'
        exact .inl (by rw [hb'])
      have hrun:=append_run (P:=S.P) (w:=w) (ty:=o.type) (cap2:=cap2) q1 q2 q3 q4 o2 p2 o4 p4 hrow.1 p3 o1 p6 (by omega) (by omega) hrow.2.1
      rcases hrun with ⟨e1,e2,e3⟩ | ⟨e1,e0,b,cs2,te,e2,e3,e4,e5⟩ | ⟨e1,cap',rest,e2,e3,e4⟩
      ·-- nothing is appended
       have hnews : news = []:=List.length_eq_zero_iff.1 (by rw [p2,e2,Nat.zero_mul])
       have hcut : ∀ rest,RowRd E.T w (Av E.X β own) t r (olds ++ rest).toArray:=fun rest=>by
        have:=(happ rest).1
        rwa [hnews,List.append_nil] at this
       have hfull : RowRd E.T w (Av E.X β own) t r cs:=by
        cases hβ : β n with
        | none =>
         have:=(hrow.2.2.2 hβ).1
         have ho : olds = []:=List.length_eq_zero_iff.1 (by rw [o2,this,Nat.zero_mul])
         have h3:=hcut cs.toList
         rw [ho] at h3
         simpa using h3
        | some b =>
         rw [hβ] at r2
         obtain ⟨te,cap3,r3,r4,r5⟩:=r2
         have hpre : olds = cs.toList.take olds.length:=by
          refine List.ext_getElem? fun j=>?_
          by_cases hj : j < olds.length
          ·have hg:=List.getElem?_eq_getElem hj
           rw [List.getElem?_take,if_pos hj,hg]
           cases hadx : adx with
           | none=>have:=(hrow.1 hadx).1; rw [o2,this] at hj; omega
           | some ax =>
            have h5:=o4 ax hadx j _ hg
            rw [hβ] at b2
            obtain ⟨cap',cs',te',c1,c2,c3,c4⟩:=b2
            rw [hvx,hadx] at c1
            simp only [Value.slice.injEq,Option.some.injEq,true_and] at c1
            obtain ⟨rfl,rfl⟩:=c1
            rw [add_lit,cell_of_block r3] at h5
            rw [← Array.getElem?_toList,Nat.zero_add] at h5
            exact h5.symm
          rw [List.getElem?_take,if_neg hj,List.getElem?_eq_none (by omega)]
         have h3:=hcut (cs.toList.drop olds.length)
         have h4 : (olds ++ cs.toList.drop olds.length).toArray = cs:=by
          apply Array.ext'
          show olds ++ cs.toList.drop olds.length = cs.toList
          rw [show olds ++ cs.toList.drop olds.length = cs.toList.take olds.length ++ cs.toList.drop olds.length from by rw [← hpre]]
          exact List.take_append_drop _ _
         rwa [h4] at h3
       obtain ⟨β',f1,f2,hR⟩:=h.swap (n:=n) (d:=d) (bo:=β n) (B:=.row t r) (w':=w) hd hd0 ⟨rfl,rfl,rfl,Nat.le_refl _,fun _ _ _=>rfl⟩ (fun b hb=>.inl ⟨by simp [hn],hb⟩)
        (fun β' f1 f2 s=>⟨cs,hfull.stay s,by
         rw [f2]
         cases hβ : β n with
         | none=>have:=(hrow.2.2.2 hβ).1; show r.len = 0; omega
         | some b =>
          rw [hβ] at r2
          obtain ⟨te,cap3,r3,r4,r5⟩:=r2
          exact ⟨te,cap3,r3,r4,by omega⟩⟩)
       refine ⟨_,_,_,.slice adx xd.len capx,w,β',hk3,by rw [hexec,e3]; rfl,hR,r,fset_same _ _ _,?_⟩
       rw [f2]
       have : r.len = xd.len:=by omega
       rw [this]
       rw [hvx] at b2
       exact b2
      ·-- in place
       subst e2
       have hβ : β n = some b:=by
        rcases hrow.2.2.1 b rfl with hh | ⟨_,hh⟩
        ·exact hh
        omega
       rw [hβ] at r2 b2
       obtain ⟨te',cap3,r3,r4,r5⟩:=r2
       obtain ⟨rfl,rfl⟩ : cs2 = cs ∧ te = te':=by rw [e3] at r3; simp at r3; exact r3
       have hcap : cap3 * i.size = capx * i.size:=by rw [← e4,r4,hET,q6]
       obtain ⟨cap5,cs5,te5,c1,c2,c3,c4⟩:=b2
       rw [hvx] at c1
       simp only [Value.slice.injEq,true_and] at c1
       obtain rfl:=c1
       have hpre : cs2.toList.take (xd.len * i.size) = olds:=by
        refine List.ext_getElem? fun j=>?_
        by_cases hj : j < olds.length
        ·have hg:=List.getElem?_eq_getElem hj
         have h5:=o4 _ rfl j _ hg
         rw [add_lit,cell_of_block e3,← Array.getElem?_toList,Nat.zero_add] at h5
         rw [List.getElem?_take,if_pos (by omega),hg]
         exact h5
        rw [List.getElem?_take,if_neg (by omega),List.getElem?_eq_none (by omega)]
       have hsz2 : (cs2.toList.take (xd.len * i.size) ++ news ++ cs2.toList.drop (xd.len * i.size + news.length)).toArray.size = cs2.size:=by
        have : xd.len * i.size + yd.len * i.size ≤ cs2.size:=by rw [e4,← Nat.add_mul]; exact Nat.mul_le_mul_right _ e1
        simp only [List.size_toArray,List.length_append,List.length_take,List.length_drop,Array.length_toList]
        omega
       obtain ⟨β',f1,f2,hR⟩:=h.swap (n:=n) (d:=d) (bo:=some b) (B:=.row t r) (w':=w.setRow b _) hd hd0
        ⟨rfl,rfl,rfl,by simp,fun k _ hk=>setRow_other w b k _ (fun e=>hk ⟨by simp [hn],by rw [e]; exact hβ⟩)⟩ (fun b' hb'=>.inl ⟨by simp [hn],by rw [hβ]; exact hb'⟩)
        (fun β' f1 f2 s=>⟨_,(happ (cs2.toList.drop (xd.len * i.size + news.length))).1.stay s,by
         rw [f2]
         refine ⟨te,capx,?_,?_,by omega⟩
         ·rw [← hpre]; exact setRow_heap _ _ _ _ _ _ e3
         rw [← hpre,hsz2,e4,hET,q6]⟩)
       rw [hpre] at hsz2 e5
       refine ⟨_,_,_,.slice (some ⟨b,0,none⟩) (xd.len + yd.len) capx,w.setRow b (olds ++ news ++ cs2.toList.drop (xd.len * i.size + news.length)).toArray,β',hk3,by rw [hexec,e5]; rfl,?_,r,fset_same _ _ _,?_⟩
       ·rw [← hpre]; exact hR
       rw [f2]
       exact ⟨capx,_,te,by rw [hlen],setRow_heap _ _ _ _ _ _ e3,by rw [hsz2,e4,hET,q6],by omega⟩
      -- a new block
      have hcap : (olds ++ news ++ rest).toArray.size = cap' * i.size:=by
       simp only [List.size_toArray,List.length_append]
       rw [o2,p2,e3,← Nat.add_mul,← Nat.add_mul]
       congr 1
       omega
      have fr : Fr w (w.drew.alloc (.cells (olds ++ news ++ rest).toArray e)) fun x=>own n ≠ none ∧ β n = some x:=⟨rfl,rfl,rfl,by simp,fun b hb _=>Go.RowKit.Below.heap_alloc w.drew _ b hb⟩
      obtain ⟨β',f1,f2,hR⟩:=h.swap (n:=n) (d:=d) (bo:=some w.heap.size) (B:=.row t r) hd hd0 fr (fun b' hb'=>.inr ⟨by simp at hb'; omega,by simp at hb'; subst hb'; simp⟩)
       (fun β' f1 f2 s=>⟨_,(happ rest).1.stay s,by
        rw [f2]
        exact ⟨e,cap',heap_new w.drew _,by rw [hcap,hET,q6],by omega⟩⟩)
      refine ⟨_,_,_,.slice (some ⟨w.heap.size,0,none⟩) (xd.len + yd.len) cap',_,β',hk3,by rw [hexec,e4]; rfl,hR,r,fset_same _ _ _,?_⟩
      rw [f2]
      exact ⟨cap',_,e,by rw [hlen],heap_new w.drew _,by rw [hcap,hET,q6],by omega⟩
     exact hk1.elim
    exact hk1.elim
   exact hk.elim
  exact hk.elim
 exact hk.elim
end
end Sx
namespace Sx
open Go
def C.frz (n : Nat) (x : D) : C → C
 | .r k u=>bif k.beq n then .d u x else .r k u
 | .q k i o=>bif k.beq n then .bad else .q k i o
 | .p k o=>.p k o
 | .m k t=>.m k t
 | .v x=>.v x
 | .d t x=>.d t x
 | .z t=>.z t
 | .e a b c=>.e a b c
 | .bad=>.bad
def U.frz (n : Nat) (x : D) : U → U | .c y=>.c (y.frz n x) | .a l=>.a (l.map (C.frz n x))
def SV.frz (n : Nat) (x : D) : SV → SV | .u y=>.u (y.frz n x) | .t l=>.t (l.map (U.frz n x))
def Blk.frz (n : Nat) (x : D) : Blk → Blk | .cells t l=>.cells t (l.map (C.frz n x)) | b=>b
def Env.frz (env : Env) (n : Nat) (x : D) : Env:=fun t=>match env t with | some sv=>some (sv.frz n x) | none=>none
def Own.frz (own : Own) (n : Nat) (x : D) : Own:=fun m=>bif m.beq n then none else match own m with | some b=>some (b.frz n x) | none=>none
def C.noRef : C → Bool | .p _ _=>false | .r _ _=>false | .q _ _ _=>false | .m _ _=>false | _=>true
def U.noRef : U → Bool | .c x=>x.noRef | .a l=>l.all C.noRef
def C.rowN : C → Option Nat | .r n _=>some n | _=>none
def firstRow : List C → Option Nat
 | []=>none
 | c :: l=>match c.rowN with | some n=>some n | none=>firstRow l
def rowIn : List U → Option Nat
 | []=>none
 | u :: l=>match firstRow u.cells with | some n=>some n | none=>rowIn l
def evs (env : Env) : List Operand → Option (List U):=mapO (evU env)
def frzArgs (args : List Operand) : Nat → Env → Own → Option (List U × Env × Own)
 | 0,_,_=>none
 | k + 1,env,own=>match evs env args with
  | some us=>match rowIn us with
   | none=>some (us,env,own)
   | some n=>match own n with
    | some (.row _ x)=>frzArgs args k (env.frz n x) (own.frz n x)
    | _=>none
  | none=>none
section
variable {E : Ctx} {β β' : Nat → Option Nat} {env : Env} {own own' : Own} {a : Act} {w w' : World} {T : Tab} {A A' : Nat → Prop}
theorem row_rd (ho : OwnOk E.T E.G w β E.X own) {n : Nat} {t : TypeId} {x : D} {y : Value} (hn : own n = some (.row t x)) (hy : RowVal E.T w t x.len (β n) y) (s : Stay w (Av E.X β own) w A') (hA : ∀ b,β n = some b → ¬ A' b) : Rd E.T w A' (.sl t) y x:=by
 obtain ⟨cs,h1,h2⟩:=ho.blk n _ hn
 have h1:=h1.stay s
 cases hβ : β n with
 | none =>
  rw [hβ] at hy
  obtain ⟨hl,ad,rfl⟩:=hy
  rcases h1 with ⟨k,l,e1,rfl,_⟩ | ⟨c,l,e1,rfl,_⟩
  ·obtain rfl : l = []:=List.length_eq_zero_iff.1 hl
   cases ad with
   | none=>exact .nilI e1
   | some ad=>exact .ints (l:=[]) e1 (Nat.le_refl _) (by simp)
  obtain rfl : l = []:=List.length_eq_zero_iff.1 hl
  cases ad with
  | none=>exact .nilR e1
  | some ad=>exact .rows (l:=[]) (fun _ _=>undef) e1 (Nat.le_refl _) (by simp) (by simp) (by simp)
 | some b =>
  rw [hβ] at hy h2
  obtain ⟨cap,cs',te',rfl,c1,c2,c3⟩:=hy
  obtain ⟨te,cap',d1,d2,d3⟩:=h2
  have hb:=ho.loc n b (by simp [hn]) hβ
  have hnA:=hA b hβ
  rcases h1 with ⟨k,l,e1,rfl,e2⟩ | ⟨c,l,e1,rfl,vs,e2,e3,e4⟩
  ·refine .ints e1 c3 fun i m hi=>⟨by rw [add_block]; exact hnA,by rw [add_block]; exact hb.1,?_⟩
   rw [add_lit,cell_of_block d1,Nat.zero_add]
   exact e2 i m hi
  refine .rows vs e1 c3 e2 (fun i e j d hi hd=>⟨by rw [add_block]; exact hnA,by rw [add_block]; exact hb.1,?_⟩) e4
  rw [add_lit,cell_of_block d1,Nat.zero_add]
  exact e3 i e j d hi hd
theorem own_frz_ne {n m : Nat} {x : D} (h : m ≠ n) : own.frz n x m = (match own m with | some b=>some (b.frz n x) | none=>none):=by simp only [Own.frz,beqn h,cond_false]
theorem own_frz_isSome {n m : Nat} {x : D} (h : own.frz n x m ≠ none) : m ≠ n ∧ own m ≠ none:=by
 by_cases e : m = n
 ·subst e; exact absurd (by simp [Own.frz]) h
 refine ⟨e,fun h'=>h ?_⟩; rw [own_frz_ne e,h']
theorem Rel.frz (h : Rel E β env own a w) {n : Nat} {t : TypeId} {x : D} (hn : own n = some (.row t x)) : Rel E β (env.frz n x) (own.frz n x) a w:=by
 have sub : ∀ b,Av E.X β (own.frz n x) b → Av E.X β own b:=by
  rintro b (hx | ⟨m,h1,h2⟩)
  ·exact .inl hx
  exact .inr ⟨m,(own_frz_isSome h1).2,h2⟩
 have s : Stay w (Av E.X β own) w (Av E.X β (own.frz n x)):=⟨Nat.le_refl _,fun b _ hb=>⟨rfl,fun hh=>hb (sub b hh)⟩⟩
 have hA : ∀ b,β n = some b → ¬ Av E.X β (own.frz n x) b:=by
  rintro b hb (hx | ⟨m,h1,h2⟩)
  ·exact (h.blks.loc n b (by simp [hn]) hb).2.1 hx
  obtain ⟨h3,h4⟩:=own_frz_isSome h1
  exact h3 (h.blks.inj m n b h4 (by simp [hn]) h2 hb)
 have other : ∀ {m : Nat} {B : Blk},own m = some B → m ≠ n → own.frz n x m = some (B.frz n x):=fun hm hmn=>by rw [own_frz_ne hmn,hm]
 have hC : ∀ {c : C} {v : Value},DenC E.T w β (Av E.X β own) own c v → DenC E.T w β (Av E.X β (own.frz n x)) (own.frz n x) (c.frz n x) v:=by
  intro c v hc
  have h1:=hc.oneV
  cases c with
  | v y=>exact hc
  | d u y=>exact Rd.stay s hc
  | z u=>exact hc
  | p k o =>
   obtain ⟨b,t',l,e1,e2⟩:=hc
   have hkn : k ≠ n:=fun e=>by rw [e,hn] at e1; cases e1
   exact ⟨b,t',_,other e1 hkn,e2⟩
  | e cts row o=>obtain ⟨ad,e1,e2⟩:=hc; exact ⟨ad,e1,e2.stay s⟩
  | r k u =>
   obtain ⟨y,e1,e2⟩:=hc
   simp only [C.frz]
   by_cases hkn : k = n
   ·subst hkn
    rw [hn] at e1
    simp only [Option.some.injEq,Blk.row.injEq] at e1
    obtain ⟨rfl,rfl⟩:=e1
    rw [beqs]
    exact row_rd h.blks hn e2 s hA
   rw [beqn hkn]
   exact ⟨y,other e1 hkn,e2⟩
  | q k i o =>
   simp only [C.frz]
   by_cases hkn : k = n
   ·subst hkn; rw [beqs]; exact h1
   rw [beqn hkn]
   obtain ⟨u,y,b,e1,e2⟩:=hc
   exact ⟨u,y,b,other e1 hkn,e2⟩
  | m k u =>
   obtain ⟨l,b,e1,e2⟩:=hc
   have hkn : k ≠ n:=fun e=>by rw [e,hn] at e1; cases e1
   exact ⟨l,b,other e1 hkn,e2⟩
  | bad=>exact hc
 have hU : ∀ {u : U} {v : Value},DenU E.T w β (Av E.X β own) own u v → DenU E.T w β (Av E.X β (own.frz n x)) (own.frz n x) (u.frz n x) v:=by
  intro u v hu
  cases u with
  | c y=>exact hC hu
  | a l=>obtain ⟨cs,e1,e2⟩:=hu; exact ⟨cs,e1,e2.map_left (C.frz n x) fun _ _=>hC⟩
 refine ⟨h.defers,h.size,?_,⟨?_,?_,?_⟩,h.glob,h.frame,?_,h.xold,?_⟩
 ·intro k sv hs
  unfold Env.frz at hs
  split at hs
  ·rename_i sv0 h0
   obtain rfl:=Option.some.inj hs
   have:=h.vals k sv0 h0
   cases sv0 with
   | u y=>exact hU this
   | t l=>obtain ⟨vs,e1,e2⟩:=this; exact ⟨vs,e1,e2.map_left (U.frz n x) fun _ _=>hU⟩
  cases hs
 ·intro m B hB
  obtain ⟨hmn,hm⟩:=own_frz_isSome (own:=own) (n:=n) (x:=x) (m:=m) (by rw [hB]; simp)
  cases hB0 : own m with
  | none=>exact absurd hB0 hm
  | some B0 =>
   rw [other hB0 hmn] at hB
   obtain rfl:=Option.some.inj hB
   have hb:=h.blks.blk m B0 hB0
   cases B0 with
   | cells t' l =>
    obtain ⟨b,cs,c1,c2,c3⟩:=hb
    exact ⟨b,cs,c1,c2,c3.map_left (C.frz n x) fun _ _=>hC⟩
   | row t' y =>
    obtain ⟨cs,c1,c2⟩:=hb
    exact ⟨cs,c1.stay s,c2⟩
   | map t' l =>
    obtain ⟨b,es,clock,c1,c2,c3⟩:=hb
    exact ⟨b,es,clock,c1,c2,c3.stay s⟩
 ·exact fun m m' b h1 h2=>h.blks.inj m m' b (own_frz_isSome h1).2 (own_frz_isSome h2).2
 ·exact fun m b h1 h2=>h.blks.loc m b (own_frz_isSome h1).2 h2
 ·exact fun m b h1 h2=>h.mine m b (own_frz_isSome h1).2 h2
 intro m B B' h1 h2
 obtain ⟨hmn,hm⟩:=own_frz_isSome (own:=own) (n:=n) (x:=x) (m:=m) (by rw [h2]; simp)
 cases hB0 : own m with
 | none=>exact absurd hB0 hm
 | some B0 =>
  rw [other hB0 hmn] at h2
  obtain rfl:=Option.some.inj h2
  obtain ⟨e1,e2⟩:=h.kept m B B0 h1 hB0
  refine ⟨e1,?_⟩
  cases B <;> cases B0 <;> exact e2
theorem evs_den (h : Rel E β env own a w) {l : List Operand} {us : List U} (hu : evs env l = some us) : All2 (DenU E.T w β (Av E.X β own) own) us (l.map a.eval) :=
 mapO_all (f:=evU env) (R:=DenU E.T w β (Av E.X β own) own) (g:=a.eval) (fun x u hx=>evU_den h hx) hu
theorem frzArgs_sound {args : List Operand} : ∀ {k : Nat} {env : Env} {own : Own} {us : List U} {env' : Env} {own' : Own},Rel E β env own a w → frzArgs args k env own = some (us,env',own') →
  Rel E β env' own' a w ∧ All2 (DenU E.T w β (Av E.X β own') own') us (args.map a.eval)
 | 0,_,_,_,_,_,_,hf=>by simp [frzArgs] at hf
 | k + 1,env,own,us,env',own',h,hf=>by
  simp only [frzArgs] at hf
  split at hf
  ·rename_i us0 h0
   split at hf
   ·simp only [Option.some.injEq,Prod.mk.injEq] at hf
    obtain ⟨rfl,rfl,rfl⟩:=hf
    exact ⟨h,evs_den h h0⟩
   rename_i n hn
   split at hf
   ·rename_i t x hx
    exact frzArgs_sound (h.frz hx) hf
   cases hf
  cases hf
theorem DenC.free (s : Stay w A w' A') {c : C} {v : Value} (hr : c.noRef = true) (h : DenC T w β A own c v) : DenC T w' β' A' own' c v:=by
 cases c with
 | v x=>exact h
 | d t x=>exact Rd.stay s h
 | z t=>exact h
 | e cts row off=>obtain ⟨a,h1,h2⟩:=h; exact ⟨a,h1,h2.stay s⟩
 | bad=>exact h
 | _=>cases hr
theorem DenU.free (s : Stay w A w' A') {c : U} {v : Value} (hr : c.noRef = true) (h : DenU T w β A own c v) : DenU T w' β' A' own' c v:=by
 cases c with
 | c x=>exact DenC.free s hr h
 | a l =>
  obtain ⟨cs,e1,e2⟩:=h
  refine ⟨cs,e1,All2.of_get e2.length fun i c v h1 h2=>?_⟩
  obtain ⟨v',h3,h4⟩:=e2.get h1
  rw [h2] at h3
  obtain rfl:=Option.some.inj h3
  exact DenC.free s (List.all_eq_true.1 hr c (List.mem_of_getElem? h1)) h4
theorem denUs_free (s : Stay w A w' A') {l : List U} {vs : List Value} (hr : l.all U.noRef = true) (h : All2 (DenU T w β A own) l vs) : All2 (DenU T w' β' A' own') l vs :=
 All2.of_get h.length fun i c v h1 h2=>by
  obtain ⟨v',h3,h4⟩:=h.get h1
  rw [h2] at h3
  obtain rfl:=Option.some.inj h3
  exact DenU.free s (List.all_eq_true.1 hr c (List.mem_of_getElem? h1)) h4
theorem DenC.anywhere (s : Stay w A w' A') {c : C} {v : Value} (h : DenC T w β A (fun _=>none) c v) : DenC T w' β' A' own' c v:=by
 cases c with
 | p n o=>obtain ⟨_,_,_,e,_⟩:=h; cases e
 | r n t=>obtain ⟨_,e,_⟩:=h; cases e
 | q n i o=>obtain ⟨_,_,_,e,_⟩:=h; cases e
 | m n t=>obtain ⟨_,_,e,_⟩:=h; cases e
 | _=>exact DenC.free s rfl h
theorem DenU.anywhere (s : Stay w A w' A') {c : U} {v : Value} (h : DenU T w β A (fun _=>none) c v) : DenU T w' β' A' own' c v:=by
 cases c with
 | c x=>exact DenC.anywhere s h
 | a l=>obtain ⟨cs,e1,e2⟩:=h; exact ⟨cs,e1,e2.mono fun _ _=>DenC.anywhere s⟩
theorem DenS.anywhere (s : Stay w A w' A') {c : SV} {v : Value} (h : DenS T w β A (fun _=>none) c v) : DenS T w' β' A' own' c v:=by
 cases c with
 | u x=>exact DenU.anywhere s h
 | t l=>obtain ⟨cs,e1,e2⟩:=h; exact ⟨cs,e1,e2.mono fun _ _=>DenU.anywhere s⟩
end
def Entr (P : Program) (f : FuncId) : Prop := ∃ fn, P.funcs[f]? = some fn ∧ fn.body.isSome = true ∧ (fn.name == "runtime.NumGoroutine") = false
def SoundP (P : Program) (T : Tab) (G : Glob) (f : FuncId) (g : List U → Out SV) : Prop :=
 ∀ (K : SV → Prop) (us : List U) (X : Nat → Prop) (w : World) (vals : List Value),(g us).wp K → GOk G w → (∀ b,X b → b < w.heap.size) → All2 (DenU T w (fun _=>none) X (fun _=>none)) us vals →
  Calls P f vals.toArray w fun e w'=>∃ r v,e = .returned v ∧ K r ∧ DenS T w' (fun _=>none) X (fun _=>none) r v ∧ Fr w w' fun _=>False
end Sx
namespace Sx
open Go
def C.ren (ρ : Nat → Nat) : C → C
 | .p k o=>.p (ρ k) o
 | .r k u=>.r (ρ k) u
 | .q k i o=>.q (ρ k) i o
 | .m k t=>.m (ρ k) t
 | .v x=>.v x
 | .d t x=>.d t x
 | .z t=>.z t
 | .e a b c=>.e a b c
 | .bad=>.bad
def U.ren (ρ : Nat → Nat) : U → U | .c x=>.c (x.ren ρ) | .a l=>.a (l.map (C.ren ρ))
def SV.ren (ρ : Nat → Nat) : SV → SV | .u x=>.u (x.ren ρ) | .t l=>.t (l.map (U.ren ρ))
def Blk.ren (ρ : Nat → Nat) : Blk → Blk | .cells t l=>.cells t (l.map (C.ren ρ)) | .row t x=>.row t x | .map t l=>.map t l
def C.ref : C → Option Nat | .p n _=>some n | .r n _=>some n | .q n _ _=>some n | .m n _=>some n | _=>none
def C.clean (live : Own) (c : C) : C:=match c.ref with
 | none=>c
 | some n=>match live n with | some _=>c | none=>.bad
def U.clean (live : Own) : U → U | .c x=>.c (x.clean live) | .a l=>.a (l.map (C.clean live))
def SV.clean (live : Own) : SV → SV | .u x=>.u (x.clean live) | .t l=>.t (l.map (U.clean live))
def Blk.clean (live : Own) : Blk → Blk | .cells t l=>.cells t (l.map (C.clean live)) | .row t x=>.row t x | .map t l=>.map t l
def memN : List Nat → Nat → Bool
 | [],_=>false
 | a :: l,n=>bif n.beq a then true else memN l n
def posN : List Nat → Nat → Option Nat
 | [],_=>none
 | a :: l,n=>bif n.beq a then some 0 else match posN l n with | some i=>some (i + 1) | none=>none
def nodupN : List Nat → Bool
 | []=>true
 | a :: l=>!memN l a && nodupN l
def okRef (ns : List Nat) (c : C) : Bool:=match c.ref with | none=>true | some n=>memN ns n
def Blk.okRef (ns : List Nat) : Blk → Bool | .cells _ l=>l.all (Sx.okRef ns) | _=>true
theorem posN_get : ∀ {l : List Nat} {n i : Nat},posN l n = some i → l[i]? = some n
 | [],_,_,h=>by simp [posN] at h
 | a :: l,n,i,h=>by
  simp only [posN] at h
  cases hb : n.beq a with
  | true =>
   rw [hb] at h
   simp only [cond_true,Option.some.injEq] at h
   subst h
   rw [Nat.eq_of_beq_eq_true hb]; rfl
  | false =>
   rw [hb] at h
   simp only [cond_false] at h
   split at h
   ·rename_i j hj
    obtain rfl:=Option.some.inj h
    simpa using posN_get hj
   cases h
theorem posN_mem : ∀ {l : List Nat} {n : Nat},memN l n = true → ∃ i,posN l n = some i
 | [],_,h=>by simp [memN] at h
 | a :: l,n,h=>by
  simp only [memN] at h
  simp only [posN]
  cases hb : n.beq a with
  | true=>exact ⟨0,rfl⟩
  | false =>
   rw [hb] at h
   obtain ⟨i,hi⟩:=posN_mem h
   exact ⟨i + 1,by simp [hi]⟩
theorem mem_of_pos : ∀ {l : List Nat} {n i : Nat},posN l n = some i → memN l n = true
 | [],_,_,h=>by simp [posN] at h
 | a :: l,n,i,h=>by
  simp only [posN] at h
  simp only [memN]
  cases hb : n.beq a with
  | true=>rfl
  | false =>
   rw [hb] at h
   simp only [cond_false] at h ⊢
   split at h
   ·rename_i j hj; exact mem_of_pos hj
   cases h
theorem memN_of_get : ∀ {l : List Nat} {i n : Nat},l[i]? = some n → memN l n = true
 | [],_,_,h=>by simp at h
 | a :: l,0,n,h=>by simp only [List.getElem?_cons_zero,Option.some.injEq] at h; subst h; simp [memN]
 | a :: l,i + 1,n,h=>by
  simp only [List.getElem?_cons_succ] at h
  simp only [memN,memN_of_get h]
  cases n.beq a <;> rfl
theorem nodupN_pos : ∀ {l : List Nat} {i n : Nat},nodupN l = true → l[i]? = some n → posN l n = some i
 | [],_,_,_,h=>by simp at h
 | a :: l,0,n,_,h=>by simp only [List.getElem?_cons_zero,Option.some.injEq] at h; subst h; simp [posN]
 | a :: l,i + 1,n,hd,h=>by
  simp only [List.getElem?_cons_succ] at h
  simp only [nodupN,Bool.and_eq_true,Bool.not_eq_true'] at hd
  have hne : n ≠ a:=fun e=>by rw [← e,memN_of_get h] at hd; cases hd.1
  simp only [posN,beqn hne,cond_false,nodupN_pos hd.2 h]
section
variable {w w' : World} {T : Tab} {A A' : Nat → Prop} {β β' : Nat → Option Nat} {own own' : Own}
theorem DenC.ren {ρ : Nat → Nat} (s : Stay w A w' A') {c : C} {v : Value} (hw : w' = w) (hρ : ∀ n B,c.ref = some n → own n = some B → β' (ρ n) = β n ∧ ∃ B',own' (ρ n) = some B' ∧ (∀ t l,B = .cells t l → ∃ l',B' = .cells t l') ∧ (∀ t x,B = .row t x → B' = .row t x) ∧ (∀ t l,B = .map t l → B' = .map t l))
  (h : DenC T w β A own c v) : DenC T w' β' A' own' (c.ren ρ) v:=by
 subst hw
 cases c with
 | v x=>exact h
 | d t x=>exact Rd.stay s h
 | z t=>exact h
 | p n off =>
  obtain ⟨b,t,l,h1,h2,rfl⟩:=h
  obtain ⟨e1,B',e2,e3,_⟩:=hρ n _ rfl h1
  obtain ⟨l',rfl⟩:=e3 t l rfl
  exact ⟨b,t,l',e2,e1.trans h2,rfl⟩
 | e cts row off=>obtain ⟨a,h1,h2⟩:=h; exact ⟨a,h1,h2.stay s⟩
 | r n t =>
  obtain ⟨x,h1,h2⟩:=h
  obtain ⟨e1,B',e2,_,e3,_⟩:=hρ n _ rfl h1
  obtain rfl:=e3 t x rfl
  exact ⟨x,e2,by rw [e1]; exact h2⟩
 | q n i off =>
  obtain ⟨t,x,b,h1,h2,h3,h4,rfl⟩:=h
  obtain ⟨e1,B',e2,_,e3,_⟩:=hρ n _ rfl h1
  obtain rfl:=e3 t x rfl
  exact ⟨t,x,b,e2,e1.trans h2,h3,h4,rfl⟩
 | m n t =>
  obtain ⟨l,b,h1,h2,rfl⟩:=h
  obtain ⟨e1,B',e2,_,_,e3⟩:=hρ n _ rfl h1
  obtain rfl:=e3 t l rfl
  exact ⟨l,b,e2,e1.trans h2,rfl⟩
 | bad=>exact h
theorem DenC.cleaned (s : Stay w A w' A') {live : Own} {c : C} {v : Value} (hl : ∀ n,live n ≠ none → own' n ≠ none) (k : ∀ n B B',own n = some B → own' n = some B' → β' n = β n ∧ Like w β n w' B B')
  (h : DenC T w β A own c v) : DenC T w' β' A' own' (c.clean live) v:=by
 have h1:=h.oneV
 have go : ∀ n,c.ref = some n → (own' n = none → live n = none) → (own' n ≠ none → live n ≠ none → DenC T w' β' A' own' c v) → DenC T w' β' A' own' (c.clean live) v:=by
  intro n hr h2 h3
  unfold C.clean
  rw [hr]
  simp only
  split
  ·rename_i B hB
   exact h3 (hl n (by simp [hB])) (by simp [hB])
  exact h1
 have gone : ∀ n,own' n = none → live n = none:=fun n hn=>by
  cases hc : live n with
  | none=>rfl
  | some B=>exact absurd hn (hl n (by simp [hc]))
 cases c with
 | v x=>exact h
 | d t x=>exact Rd.stay s h
 | z t=>exact h
 | e cts row off=>obtain ⟨a,h1,h2⟩:=h; exact ⟨a,h1,h2.stay s⟩
 | bad=>exact h
 | p n off =>
  refine go n rfl (gone n) fun h2 _=>?_
  obtain ⟨b,t,l,h4,h5,rfl⟩:=h
  cases hB : own' n with
  | none=>exact absurd hB h2
  | some B' =>
   obtain ⟨e1,e2⟩:=k n _ B' h4 hB
   cases B' with
   | cells t' l'=>exact ⟨b,t',l',hB,e1.trans h5,rfl⟩
   | _=>exact e2.elim
 | r n t =>
  refine go n rfl (gone n) fun h2 _=>?_
  obtain ⟨x,h4,h5⟩:=h
  cases hB : own' n with
  | none=>exact absurd hB h2
  | some B' =>
   obtain ⟨e1,e2⟩:=k n _ B' h4 hB
   cases B' with
   | row t' x' =>
    obtain ⟨rfl,e3,e4⟩:=e2
    exact ⟨x',hB,by rw [e3,e1]; exact h5.keep fun c cs te e hc=>e4 c cs te e hc⟩
   | _=>exact e2.elim
 | q n i off =>
  refine go n rfl (gone n) fun h2 _=>?_
  obtain ⟨t,x,b,h4,h5,h6,h7,rfl⟩:=h
  cases hB : own' n with
  | none=>exact absurd hB h2
  | some B' =>
   obtain ⟨e1,e2⟩:=k n _ B' h4 hB
   cases B' with
   | row t' x' =>
    obtain ⟨rfl,e3,e4⟩:=e2
    exact ⟨t',x',b,hB,e1.trans h5,h6,by rw [e3]; exact h7,rfl⟩
   | _=>exact e2.elim
 | m n t =>
  refine go n rfl (gone n) fun h2 _=>?_
  obtain ⟨l,b,h4,h5,rfl⟩:=h
  cases hB : own' n with
  | none=>exact absurd hB h2
  | some B' =>
   obtain ⟨e1,e2⟩:=k n _ B' h4 hB
   cases B' with
   | map t' l'=>obtain rfl:=e2; exact ⟨l',b,hB,e1.trans h5,rfl⟩
   | _=>exact e2.elim
end
end Sx
namespace Sx
open Go
def lentOwn (l : List Blk) : Own:=fun n=>bif Nat.ble 50000 n then l[n - 50000]? else none
def resOwn (outs : List (Option Blk)) (news : List Blk) : Own:=fun n=>bif Nat.ble 60000 n then news[n - 60000]? else bif Nat.ble 50000 n then (match outs[n - 50000]? with | some b=>b | none=>none) else none
def SoundF (P : Program) (T : Tab) (G : Glob) (f : FuncId) (g : List U → List Blk → Out (SV × List (Option Blk) × List Blk)) : Prop :=
 ∀ (K : SV × List (Option Blk) × List Blk → Prop) (us : List U) (lent : List Blk) (β : Nat → Option Nat) (X : Nat → Prop) (w : World) (vals : List Value),lent.length ≤ 10000 → (g us lent).wp K → OwnOk T G w β X (lentOwn lent) → GOk G w → (∀ b,X b → b < w.heap.size) →
  All2 (DenU T w β (Av X β (lentOwn lent)) (lentOwn lent)) us vals →
  Calls P f vals.toArray w fun e w'=>∃ r outs news β' v,e = .returned v ∧ K (r,outs,news) ∧ List.length outs = lent.length ∧ OwnOk T G w' β' X (resOwn outs news) ∧ DenS T w' β' (Av X β' (resOwn outs news)) (resOwn outs news) r v ∧
   Fr w w' (Mine β (lentOwn lent)) ∧ KeepL (lentOwn lent) w β (resOwn outs news) w' β' ∧ (∀ n b,resOwn outs news n ≠ none → β' n = some b → w.heap.size ≤ b ∨ Mine β (lentOwn lent) b)
def refsOf (l : List C) : List Nat:=match l with | []=>[] | c :: r=>match c.ref with | some n=>n :: refsOf r | none=>refsOf r
def Blk.refs : Blk → List Nat | .cells _ l=>refsOf l | _=>[]
def dfs (own : Own) : Nat → List Nat → List Nat → List Nat
 | 0,_,done=>done
 | _ + 1,[],done=>done
 | k + 1,n :: r,done=>bif memN done n then dfs own k r done else match own n with
  | some B=>dfs own k (r ++ B.refs) (done ++ [n])
  | none=>dfs own k r done
def lentN (own : Own) (us : List U) : List Nat:=dfs own 30 (refsOf (us.flatMap U.cells)) []
def lentOk (own : Own) (ns : List Nat) (us : List U) : Bool :=
 nodupN ns && (us.flatMap U.cells).all (okRef ns) && ns.all (fun n=>match own n with | some B=>B.okRef ns | none=>false) && ns.length.ble 10000
def nameIn (ns : List Nat) (n : Nat) : Nat:=50000 + (match posN ns n with | some i=>i | none=>0)
def lentBs (own : Own) (ns : List Nat) : Option (List Blk):=mapO (fun n=>match own n with | some B=>some (B.ren (nameIn ns)) | none=>none) ns
def freshN (d j : Nat) : Nat:=100000 * (j + 1) + d
def unfresh (d n : Nat) : Option Nat:=bif Nat.ble 100000 n && (n % 100000).beq d then some (n / 100000 - 1) else none
def nameOut (ns : List Nat) (d : Nat) (m : Nat) : Nat:=bif Nat.ble 60000 m then freshN d (m - 60000) else ns.getD (m - 50000) 0
def outN (outs : List (Option Blk)) (σ : Nat → Nat) (i : Nat) : Option Blk:=match outs[i]? with | some (some B)=>some (B.ren σ) | _=>none
def own3 (own : Own) (ns : List Nat) (d : Nat) (outs : List (Option Blk)) (news : List Blk) : Own:=fun n =>
 match posN ns n with
 | some i=>outN outs (nameOut ns d) i
 | none=>match unfresh d n with
  | some j=>match news[j]? with | some B=>some (B.ren (nameOut ns d)) | none=>own n
  | none=>own n
def ownC (own : Own) (live : Own) : Own:=fun n=>match own n with | some B=>some (B.clean live) | none=>none
def envC (env : Env) (live : Own) : Env:=fun n=>match env n with | some B=>some (B.clean live) | none=>none
def freeN (own : Own) (d : Nat) : Nat → Bool
 | 0=>true
 | k + 1=>(match own (freshN d k) with | none=>true | some _=>false) && freeN own d k
theorem unfresh_fresh {d j : Nat} (hd : d < 100000) : unfresh d (freshN d j) = some j:=by
 unfold unfresh freshN
 have h1 : Nat.ble 100000 (100000 * (j + 1) + d) = true:=Nat.ble_eq_true_of_le (by omega)
 have h2 : (100000 * (j + 1) + d) % 100000 = d:=by omega
 have h3 : (100000 * (j + 1) + d) / 100000 - 1 = j:=by omega
 rw [h1,h2,beqs,h3]; rfl
theorem of_unfresh {d n j : Nat} (h : unfresh d n = some j) : n = freshN d j:=by
 unfold unfresh at h
 cases hb : (Nat.ble 100000 n && (n % 100000).beq d) with
 | false=>rw [hb] at h; cases h
 | true =>
  rw [hb] at h
  simp only [cond_true,Option.some.injEq] at h
  simp only [Bool.and_eq_true] at hb
  have h1:=Nat.le_of_ble_eq_true hb.1
  have h2:=Nat.eq_of_beq_eq_true hb.2
  unfold freshN
  omega
theorem freeN_get {own : Own} {d : Nat} : ∀ {k j : Nat},freeN own d k = true → j < k → own (freshN d j) = none
 | 0,_,_,h=>by omega
 | k + 1,j,hf,h=>by
  simp only [freeN,Bool.and_eq_true] at hf
  rcases Nat.lt_succ_iff_lt_or_eq.1 h with h | rfl
  ·exact freeN_get hf.2 h
  have:=hf.1
  split at this
  ·assumption
  cases this
theorem lentOwn_at {l : List Blk} {i : Nat} : lentOwn l (50000 + i) = l[i]?:=by
 have : Nat.ble 50000 (50000 + i) = true:=Nat.ble_eq_true_of_le (by omega)
 simp only [lentOwn,this,cond_true,Nat.add_sub_cancel_left]
theorem lentOwn_some {l : List Blk} {n : Nat} {B : Blk} (h : lentOwn l n = some B) : ∃ i,n = 50000 + i ∧ l[i]? = some B:=by
 unfold lentOwn at h
 cases hb : Nat.ble 50000 n with
 | false=>rw [hb] at h; cases h
 | true =>
  rw [hb] at h
  exact ⟨n - 50000,by have:=Nat.le_of_ble_eq_true hb; omega,h⟩
theorem resOwn_out {outs : List (Option Blk)} {news : List Blk} {i : Nat} (hi : i < 10000) : resOwn outs news (50000 + i) = (match outs[i]? with | some b=>b | none=>none):=by
 have h1 : Nat.ble 60000 (50000 + i) = false:=by
  cases h : Nat.ble 60000 (50000 + i)
  ·rfl
  have:=Nat.le_of_ble_eq_true h; omega
 have h2 : Nat.ble 50000 (50000 + i) = true:=Nat.ble_eq_true_of_le (by omega)
 simp only [resOwn,h1,h2,cond_true,cond_false,Nat.add_sub_cancel_left]
theorem resOwn_new {outs : List (Option Blk)} {news : List Blk} {j : Nat} : resOwn outs news (60000 + j) = news[j]?:=by
 have h1 : Nat.ble 60000 (60000 + j) = true:=Nat.ble_eq_true_of_le (by omega)
 simp only [resOwn,h1,cond_true,Nat.add_sub_cancel_left]
theorem resOwn_some {outs : List (Option Blk)} {news : List Blk} {n : Nat} {B : Blk} (ho : outs.length ≤ 10000) (h : resOwn outs news n = some B) : (∃ i,n = 50000 + i ∧ i < 10000 ∧ outs[i]? = some (some B)) ∨ (∃ j,n = 60000 + j ∧ news[j]? = some B):=by
 unfold resOwn at h
 cases hb : Nat.ble 60000 n with
 | true =>
  rw [hb] at h
  exact .inr ⟨n - 60000,by have:=Nat.le_of_ble_eq_true hb; omega,h⟩
 | false =>
  rw [hb] at h
  simp only [cond_false] at h
  cases hb2 : Nat.ble 50000 n with
  | false=>rw [hb2] at h; cases h
  | true =>
   rw [hb2] at h
   simp only [cond_true] at h
   split at h
   ·rename_i b hb3
    subst h
    have h3:=(List.getElem?_eq_some_iff.1 hb3).1
    exact .inl ⟨n - 50000,by have:=Nat.le_of_ble_eq_true hb2; omega,by omega,hb3⟩
   cases h
theorem mapO_at {α β : Type} {f : α → Option β} : ∀ {l : List α} {m : List β},mapO f l = some m → ∀ {i : Nat} {x : α},l[i]? = some x → ∃ y,m[i]? = some y ∧ f x = some y
 | [],m,h,i,y,hi=>by simp at hi
 | a :: l,m,h,i,y,hi=>by
  simp only [mapO] at h
  split at h
  ·rename_i b hb
   split at h
   ·rename_i l' hl
    obtain rfl:=Option.some.inj h
    rcases i with _ | i
    ·simp only [List.getElem?_cons_zero,Option.some.injEq] at hi
     subst hi
     exact ⟨b,rfl,hb⟩
    simp only [List.getElem?_cons_succ] at hi ⊢
    exact mapO_at hl hi
   cases h
  cases h
theorem Blk.ren_like {ρ : Nat → Nat} (B : Blk) : (∀ t l,B = .cells t l → ∃ l',B.ren ρ = .cells t l') ∧ (∀ t x,B = .row t x → B.ren ρ = .row t x) ∧ (∀ t l,B = .map t l → B.ren ρ = .map t l):=by
 refine ⟨?_,?_,?_⟩ <;> rintro t l rfl
 ·exact ⟨_,rfl⟩
 ·rfl
 rfl
section
variable {E : Ctx} {β : Nat → Option Nat} {env : Env} {own : Own} {a : Act} {w w' : World} {T : Tab} {A A' : Nat → Prop}
theorem lend (ho : OwnOk E.T E.G w β E.X own) {ns : List Nat} {lent : List Blk} {us : List U} {vals : List Value} (hok : lentOk own ns us = true) (hl : lentBs own ns = some lent) (hu : All2 (DenU E.T w β (Av E.X β own) own) us vals) :
  ∃ βc : Nat → Option Nat,∃ Xc : Nat → Prop,(∀ i n,ns[i]? = some n → βc (50000 + i) = β n) ∧ (∀ b,Av Xc βc (lentOwn lent) b ↔ Av E.X β own b) ∧ (∀ b,Xc b ↔ E.X b ∨ ∃ n,own n ≠ none ∧ memN ns n = false ∧ β n = some b) ∧
   OwnOk E.T E.G w βc Xc (lentOwn lent) ∧ All2 (DenU E.T w βc (Av Xc βc (lentOwn lent)) (lentOwn lent)) (us.map (U.ren (nameIn ns))) vals ∧
   (∀ b,Mine βc (lentOwn lent) b → ∃ n,own n ≠ none ∧ memN ns n = true ∧ β n = some b) ∧ (∀ i n,ns[i]? = some n → ∃ B,own n = some B ∧ lentOwn lent (50000 + i) = some (B.ren (nameIn ns))):=by
 simp only [lentOk,Bool.and_eq_true] at hok
 obtain ⟨⟨⟨hnd,hus⟩,hbs⟩,hlen⟩:=hok
 let βc : Nat → Option Nat:=fun m=>if 50000 ≤ m then (ns[m - 50000]?).bind β else none
 let Xc : Nat → Prop:=fun b=>E.X b ∨ ∃ n,own n ≠ none ∧ memN ns n = false ∧ β n = some b
 have b1 : ∀ i n,ns[i]? = some n → βc (50000 + i) = β n:=by
  intro i n hi
  simp only [βc,if_pos (show 50000 ≤ 50000 + i from by omega),Nat.add_sub_cancel_left,hi,Option.bind_some]
 have lat : ∀ i n,ns[i]? = some n → ∃ B,own n = some B ∧ lentOwn lent (50000 + i) = some (B.ren (nameIn ns)):=by
  intro i n hi
  obtain ⟨y,h1,h2⟩:=mapO_at hl hi
  split at h2
  ·rename_i B hB
   obtain rfl:=Option.some.inj h2
   exact ⟨B,hB,by rw [lentOwn_at,h1]⟩
  cases h2
 have lof : ∀ m,lentOwn lent m ≠ none → ∃ i n,m = 50000 + i ∧ ns[i]? = some n ∧ own n ≠ none ∧ βc m = β n:=by
  intro m hm
  cases hc : lentOwn lent m with
  | none=>exact absurd hc hm
  | some B =>
   obtain ⟨i,rfl,hi⟩:=lentOwn_some hc
   obtain ⟨n,hn,hf⟩:=mapO_get hl hi
   split at hf
   ·rename_i B0 hB0
    exact ⟨i,n,rfl,hn,by simp [hB0],b1 i n hn⟩
   cases hf
 have hA : ∀ b,Av Xc βc (lentOwn lent) b ↔ Av E.X β own b:=by
  intro b
  constructor
  ·rintro ((hx | ⟨n,h1,h2,h3⟩) | ⟨m,h1,h2⟩)
   ·exact .inl hx
   ·exact .inr ⟨n,h1,h3⟩
   obtain ⟨i,n,rfl,hn,ho,e⟩:=lof m h1
   exact .inr ⟨n,ho,by rw [← e]; exact h2⟩
  rintro (hx | ⟨n,h1,h2⟩)
  ·exact .inl (.inl hx)
  cases hm : memN ns n with
  | false=>exact .inl (.inr ⟨n,h1,hm,h2⟩)
  | true =>
   obtain ⟨i,hi⟩:=posN_mem hm
   have hg:=posN_get hi
   obtain ⟨B,_,hB⟩:=lat i n hg
   exact .inr ⟨50000 + i,by simp [hB],by rw [b1 i n hg]; exact h2⟩
 have s : Stay w (Av E.X β own) w (Av Xc βc (lentOwn lent)):=⟨Nat.le_refl _,fun b _ hb=>⟨rfl,fun hh=>hb ((hA b).1 hh)⟩⟩
 have hρ : ∀ n B,memN ns n = true → own n = some B → βc (nameIn ns n) = β n ∧ ∃ B',lentOwn lent (nameIn ns n) = some B' ∧ (∀ t l,B = .cells t l → ∃ l',B' = .cells t l') ∧ (∀ t x,B = .row t x → B' = .row t x) ∧ (∀ t l,B = .map t l → B' = .map t l):=by
  intro n B hm hB
  obtain ⟨i,hi⟩:=posN_mem hm
  have hg:=posN_get hi
  have e : nameIn ns n = 50000 + i:=by simp only [nameIn,hi]
  obtain ⟨B0,h1,h2⟩:=lat i n hg
  rw [hB] at h1
  obtain rfl:=Option.some.inj h1
  rw [e]
  exact ⟨b1 i n hg,_,h2,B.ren_like⟩
 have hC : ∀ {c : C} {v : Value},okRef ns c = true → DenC E.T w β (Av E.X β own) own c v → DenC E.T w βc (Av Xc βc (lentOwn lent)) (lentOwn lent) (c.ren (nameIn ns)) v:=by
  intro c v hok hc
  refine DenC.ren s rfl (fun n B hr hB=>hρ n B ?_ hB) hc
  unfold okRef at hok
  rw [hr] at hok
  exact hok
 have hCs : ∀ {l : List C} {vs : List Value},l.all (okRef ns) = true → All2 (DenC E.T w β (Av E.X β own) own) l vs → All2 (DenC E.T w βc (Av Xc βc (lentOwn lent)) (lentOwn lent)) (l.map (C.ren (nameIn ns))) vs:=by
  intro l vs hall h2
  refine All2.of_get (by simpa using h2.length) fun i c v h3 h4=>?_
  simp only [List.getElem?_map,Option.map_eq_some_iff] at h3
  obtain ⟨c0,h5,rfl⟩:=h3
  obtain ⟨v',h6,h7⟩:=h2.get h5
  rw [h4] at h6
  obtain rfl:=Option.some.inj h6
  exact hC (List.all_eq_true.1 hall c0 (List.mem_of_getElem? h5)) h7
 refine ⟨βc,Xc,b1,hA,fun b=>Iff.rfl,⟨?_,?_,?_⟩,?_,?_,lat⟩
 ·intro m B hm
  obtain ⟨i,n,rfl,hn,ho',e⟩:=lof m (by simp [hm])
  obtain ⟨B0,h1,h2⟩:=lat i n hn
  rw [h2] at hm
  obtain rfl:=Option.some.inj hm
  have hb:=ho.blk n B0 h1
  have hrefs : B0.okRef ns = true:=by
   have:=List.all_eq_true.1 hbs n (List.mem_of_getElem? hn)
   simpa [h1] using this
  cases B0 with
  | cells t l =>
   obtain ⟨b,cs,c1,c2,c3⟩:=hb
   exact ⟨b,cs,e.trans c1,c2,hCs hrefs c3⟩
  | row t x =>
   obtain ⟨cs,c1,c2⟩:=hb
   exact ⟨cs,c1.stay s,by rw [e]; exact c2⟩
  | map t l =>
   obtain ⟨b,es,clock,c1,c2,c3⟩:=hb
   exact ⟨b,es,clock,e.trans c1,c2,c3.stay s⟩
 ·intro m m' b h1 h2 h3 h4
  obtain ⟨i,n,rfl,hn,ho1,e1⟩:=lof m h1
  obtain ⟨i',n',rfl,hn',ho2,e2⟩:=lof m' h2
  rw [e1] at h3; rw [e2] at h4
  have:=ho.inj n n' b ho1 ho2 h3 h4
  subst this
  have p1:=nodupN_pos hnd hn
  have p2:=nodupN_pos hnd hn'
  rw [p1] at p2
  rw [Option.some.inj p2]
 ·intro m b h1 h2
  obtain ⟨i,n,rfl,hn,ho1,e1⟩:=lof m h1
  rw [e1] at h2
  have hloc:=ho.loc n b ho1 h2
  refine ⟨hloc.1,?_,hloc.2.2⟩
  rintro (hx | ⟨n',h3,h4,h5⟩)
  ·exact hloc.2.1 hx
  have:=ho.inj n n' b ho1 h3 h2 h5
  subst this
  rw [memN_of_get hn] at h4
  cases h4
 ·refine All2.of_get (by simpa using hu.length) fun i u v h3 h4=>?_
  simp only [List.getElem?_map,Option.map_eq_some_iff] at h3
  obtain ⟨u0,h5,rfl⟩:=h3
  obtain ⟨v',h6,h7⟩:=hu.get h5
  rw [h4] at h6
  obtain rfl:=Option.some.inj h6
  have hall : u0.cells.all (okRef ns) = true:=List.all_eq_true.2 fun c hc=>List.all_eq_true.1 hus c (List.mem_flatMap.2 ⟨u0,List.mem_of_getElem? h5,hc⟩)
  cases u0 with
  | c x=>exact hC (by simpa [U.cells] using hall) h7
  | a l=>obtain ⟨cs,e1,e2⟩:=h7; exact ⟨cs,e1,hCs hall e2⟩
 rintro b ⟨m,h1,h2⟩
 obtain ⟨i,n,rfl,hn,ho1,e1⟩:=lof m h1
 exact ⟨n,ho1,memN_of_get hn,by rw [← e1]; exact h2⟩
end
end Sx
