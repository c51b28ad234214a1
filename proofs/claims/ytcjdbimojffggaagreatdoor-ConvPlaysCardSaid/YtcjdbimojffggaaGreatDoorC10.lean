/- Part of the proof: a machine of states for walks, and contracts of functions over it. Conditions: those that each theorem names. -/
import Derived.Test.YtcjdbimojffggaaGreatDoorC9
set_option linter.unusedVariables false
set_option linter.unusedSimpArgs false
namespace Sx
open Go
theorem wp_loop_ix {P : Program} {Q : Exit → Act → World → Prop} {a : Act} {w : World} {c : Code} {α : Type} (I : α → Act → World → Prop) (m : α → Nat) (x0 : α) (h0 : I x0 a w)
  (round : ∀ x a w,I x a w → c.wp P (Exit.then (fun a' w'=>∃ y,I y a' w' ∧ m y < m x) Q) a w) : (Code.loop c).wp P Q a w:=by
 intro b k cs
 have key : ∀ n x a w,m x = n → I x a w → ∃ e a' w',Q e a' w' ∧ Arrives P (lone (b.at a (.code c :: .inLoop c :: k)) cs w) b k cs e a' w':=by
  intro n
  induction n using Nat.strongRecOn with
  | _ n ih =>
   intro x a w hn hI
   obtain ⟨e,a₁,w₁,hq,harr⟩:=round x a w hI b (.inLoop c :: k) cs
   cases e with
   | normal =>
    obtain ⟨y,hI₁,hlt⟩:=hq
    obtain ⟨e₂,a₂,w₂,hq₂,harr₂⟩:=ih (m y) (hn ▸ hlt) y a₁ w₁ rfl hI₁
    exact ⟨e₂,a₂,w₂,hq₂,.of_steps (Steps.trans harr (.one step_inLoop)) harr₂⟩
   | exit id=>exact ⟨_,a₁,w₁,hq,.pass (x:=.inLoop c) rfl (fun _ _=>.inl (by simp)) harr⟩
   | goto l=>exact ⟨_,a₁,w₁,hq,.pass (x:=.inLoop c) rfl (fun _ _=>.inl (by simp)) harr⟩
   | ret=>exact ⟨_,a₁,w₁,hq,.pass (x:=.inLoop c) rfl (fun _ _=>.inl (by simp)) harr⟩
   | panic ch=>exact ⟨_,a₁,w₁,hq,.pass (x:=.inLoop c) rfl (fun _ _=>.inl (by simp)) harr⟩
   | outgrown=>exact ⟨_,a₁,w₁,hq,.pass (x:=.inLoop c) rfl (fun _ _=>.inl (by simp)) harr⟩
 obtain ⟨e,a',w',hq,harr⟩:=key _ x0 a w rfl h0
 exact ⟨e,a',w',hq,.of_steps (.one step_loop) harr⟩
section
variable {S : Pr} {E : Ctx} {β : Nat → Option Nat} {env : Env} {own : Own} {a : Act} {w : World}
variable {G : Glob} (hT : TOk S.P S.tt) (hS : AllSound S G) (hET : E.T = S.T) (hEG : E.G = G) (hlow : ∀ n,n < 50000 → E.own0 n = none) (hhi : ∀ n,100000 ≤ n → E.own0 n = none)
include hT hS hET hEG hlow hhi in
theorem wpC_sound : ∀ (c : Code) {β : Nat → Option Nat} {env : Env} {own : Own} {a : Act} {w : World} {N : Env → Own → Prop} {X : Nat → Env → Own → Prop} {R : Env → Own → Prop} {Q : Exit → Act → World → Prop},
  Rel E β env own a w → wpC S E.nt c env own N X R → (∀ a w,Ends E N a w → Q .normal a w) → (∀ j a w,Ends E (X j) a w → Q (.exit j) a w) → (∀ a w,Ends E R a w → Q .ret a w) → c.wp S.P Q a w:=by
 intro c
 induction c with
 | skip=>intro β env own a w N X R Q h hk hN hX hR; exact wp_skip (hN a w ⟨env,own,β,hk,h⟩)
 | label l=>intro β env own a w N X R Q h hk hN hX hR; exact wp_label (hN a w ⟨env,own,β,hk,h⟩)
 | region id ops draw =>
  intro β env own a w N X R Q h hk hN hX hR
  cases draw with
  | false=>exact wp_region_list (runOps_sound hT hS hET hEG hlow hhi ops.toList h hk hN)
  | true=>exact draw_sound hT hS hET hEG hlow hhi h hk fun env own β a w k1 k2=>hN a w ⟨env,own,β,k1,k2⟩
 | seq x y ihx ihy =>
  intro β env own a w N X R Q h hk hN hX hR
  refine wp_seq (ihx h hk (Q:=Exit.then (y.wp S.P Q) Q) ?_ ?_ ?_)
  ·rintro a w ⟨env',own',β',k1,k2⟩
   exact ihy k2 k1 hN hX hR
  ·exact fun j a w he=>hX j a w he
  exact fun a w he=>hR a w he
 | cond c x y ihx ihy =>
  intro β env own a w N X R Q h hk hN hX hR
  have go : ∀ (b : Bool),evV env c = some (.bool b) → ((b = true → x.wp S.P Q a w) ∧ (b = false → y.wp S.P Q a w)) → (Code.cond c x y).wp S.P Q a w:=by
   intro b hb hh
   exact wp_cond_split (evV_eq h hb).1 hh.1 hh.2
  simp only [wpC] at hk
  split at hk
  ·rename_i t b hb
   refine go b hb ⟨fun e=>?_,fun e=>?_⟩
   ·have hk1:=Ask.e hk
    rw [e] at hk1
    have ht : env t = some (boolSV true):=by
     subst e
     unfold evV at hb
     split at hb
     ·rename_i v hv; obtain rfl:=Option.some.inj hb; exact hv
     cases hb
    exact ihx (h.rebind ht) hk1 hN hX hR
   have hk1:=Ask.e hk
   rw [e] at hk1
   have ht : env t = some (boolSV false):=by
    subst e
    unfold evV at hb
    split at hb
    ·rename_i v hv; obtain rfl:=Option.some.inj hb; exact hv
    cases hb
   exact ihy (h.rebind ht) hk1 hN hX hR
  ·rename_i b _ hb
   exact go b hb ⟨fun e=>by have hk1:=Ask.e hk; rw [e] at hk1; exact ihx h hk1 hN hX hR,fun e=>by have hk1:=Ask.e hk; rw [e] at hk1; exact ihy h hk1 hN hX hR⟩
  exact hk.elim
 | block id c ih =>
  intro β env own a w N X R Q h hk hN hX hR
  refine wp_block (ih h hk (Q:=Exit.inBlock id Q) hN ?_ hR)
  rintro j a w ⟨env',own',β',k1,k2⟩
  show if j = id then Q .normal a w else Q (.exit j) a w
  split at k1
  ·rename_i hb
   rw [if_pos (Nat.eq_of_beq_eq_true hb)]
   exact hN a w ⟨env',own',β',k1,k2⟩
  rename_i hb
  rw [if_neg (fun e=>by rw [e] at hb; simp at hb)]
  exact hX j a w ⟨env',own',β',k1,k2⟩
 | exit id=>intro β env own a w N X R Q h hk hN hX hR; exact wp_exit (hX id a w ⟨env,own,β,hk,h⟩)
 | ret=>intro β env own a w N X R Q h hk hN hX hR; exact wp_ret (hR a w ⟨env,own,β,hk,h⟩)
 | loop c ih =>
  intro β env own a w N X R Q h hk hN hX hR
  obtain ⟨ad,env1,own1,had,α,I,p,m,hcl,⟨x0,hp0,hs0⟩,hround⟩:=hk
  obtain ⟨β1,h1⟩:=adopt_rel hET hlow h had
  refine wp_loop_ix (fun x a w=>p x ∧ ∃ β',Rel E β' (lookT (I x).1) (lookT (I x).2) a w) m x0 ⟨hp0,β1,h1.sub hs0 (hcl x0 hp0)⟩ ?_
  rintro x a w ⟨hp,β',hR'⟩
  refine ih hR' (hround x hp) (Q:=Exit.then _ Q) ?_ ?_ ?_
  ·rintro a w ⟨env',own',β2,⟨y,q1,q2,q3⟩,k2⟩
   exact ⟨y,⟨q1,β2,k2.sub q3 (hcl y q1)⟩,q2⟩
  ·exact fun j a w he=>hX j a w he
  exact fun a w he=>hR a w he
 | _=>intro β env own a w N X R Q h hk hN hX hR; exact hk.elim
end
end Sx
namespace Sx
open Go
def C.res (own : Own) : C → C
 | .r n u=>match own n with | some (.row _ x)=>.d u x | _=>.bad
 | .p _ _=>.bad
 | .q _ _ _=>.bad
 | .m _ _=>.bad
 | .v x=>.v x
 | .d t x=>.d t x
 | .z t=>.z t
 | .e a b c=>.e a b c
 | .bad=>.bad
def U.res (own : Own) : U → U | .c x=>.c (x.res own) | .a l=>.a (l.map (C.res own))
def resU (S : Pr) (env : Env) (own : Own) : ResultVar → Option U
 | .tmp t=>match env t with | some (.u u)=>some u | _=>none
 | .cell t ty=>match env t with | some (.u (.c c))=>loadS S own ty c | _=>none
def mkRes : List U → SV | [u]=>.u u | l=>.t l
def argEnv (us : List U) : Env:=fun n=>match us[n]? with | some u=>some (.u u) | none=>none
def normC (T : Tab) (ct : Ct) (c : C) : C:=match ct with
 | .sl t=>match dOf T (.sl t) c with | some x=>.d t x | none=>c
 | _=>c
def zipC (T : Tab) : List Ct → List C → List C
 | ct :: cs,c :: l=>normC T ct c :: zipC T cs l
 | _,l=>l
def normU (S : Pr) (t : TypeId) (u : U) : U:=match S.tt t with
 | some i=>match u with
  | .c x=>match i.cts with | [ct]=>.c (normC S.T ct x) | _=>.c x
  | .a l=>.a (zipC S.T i.cts l)
 | none=>u
def normL (S : Pr) : List TypeId → List U → List U
 | t :: ts,u :: us=>normU S t u :: normL S ts us
 | _,us=>us
def normB (S : Pr) : Blk → Blk
 | .cells t l=>match S.tt t with | some i=>.cells t (zipC S.T i.cts l) | none=>.cells t l
 | B=>B
def retP (S : Pr) (tys : List TypeId) (rs : List ResultVar) (K : SV → Prop) (env : Env) (own : Own) : Prop :=
 match mapO (resU S env own) rs with | some l=>(mkRes (normL S tys (l.map (U.res own)))).see K | none=>False
def resRun (tmps : Array Value) : ResultVar → Sem Value
 | .tmp t=>pure (tmps.getD t undef)
 | .cell a t=>do loadVar t (← asAddr (tmps.getD a undef))
theorem results_eq (fn : Func) (tmps : Array Value) : results fn tmps = (do let vs ← fn.results.mapM (resRun tmps); pure (if h : vs.size = 1 then vs[0] else .tuple vs)):=rfl
section
variable {S : Pr} {E : Ctx} {β : Nat → Option Nat} {env : Env} {own : Own} {a : Act} {w : World}
variable {G : Glob} (hT : TOk S.P S.tt) (hS : AllSound S G) (hET : E.T = S.T)
include hT hET in
theorem resU_run (h : Rel E β env own a w) {rv : ResultVar} {u : U} (hu : resU S env own rv = some u) :
  ∃ v,(resRun a.tmps rv).run S.P w = .ok v w ∧ DenU E.T w β (Av E.X β own) own u v:=by
 cases rv with
 | tmp t =>
  simp only [resU] at hu
  split at hu
  ·rename_i u' ht
   obtain rfl:=Option.some.inj hu
   exact ⟨_,rfl,h.vals t _ ht⟩
  cases hu
 | cell x t =>
  simp only [resU] at hu
  split at hu
  ·rename_i c ht
   have hc : DenC E.T w β (Av E.X β own) own c (a.tmps.getD x undef):=h.vals x _ ht
   obtain ⟨v,h1,h2⟩:=loadS_run hT h (fun _ _ e=>e) hET hu hc
   refine ⟨v,?_,h2⟩
   have hp : ∃ ad,a.tmps.getD x undef = .pointer (some ad):=by
    unfold loadS at hu
    split at hu
    ·obtain ⟨b,_,_,_,_,e⟩:=hc; exact ⟨_,e⟩
    ·obtain ⟨ad,e,_⟩:=hc; exact ⟨_,e⟩
    ·obtain ⟨_,_,b,_,_,_,_,e⟩:=hc; exact ⟨_,e⟩
    cases hu
   obtain ⟨ad,hp⟩:=hp
   rw [hp] at h1
   simp only [Instr.loadAt,Instr.sureAddr,Sem.run_bind,Sem.run_pure,Result.andThen_ok] at h1
   simp only [resRun,hp,asAddr,Sem.run_bind,Sem.run_pure,Result.andThen_ok]
   exact h1
  cases hu
include hT hET in
theorem results_run (h : Rel E β env own a w) {fn : Func} {l : List U} (hl : mapO (resU S env own) fn.results.toList = some l) :
  ∃ v,(results fn a.tmps).run S.P w = .ok v w ∧ DenS E.T w β (Av E.X β own) own (mkRes l) v:=by
 have key : ∀ {rs : List ResultVar} {l : List U},mapO (resU S env own) rs = some l → ∃ vs,(rs.mapM (resRun a.tmps)).run S.P w = .ok vs w ∧ All2 (DenU E.T w β (Av E.X β own) own) l vs:=by
  intro rs
  induction rs with
  | nil=>intro l hl; simp only [mapO,Option.some.injEq] at hl; subst hl; exact ⟨[],by simp,trivial⟩
  | cons rv rs ih =>
   intro l hl
   simp only [mapO] at hl
   split at hl
   ·rename_i u hu
    split at hl
    ·rename_i l' hl'
     obtain rfl:=Option.some.inj hl
     obtain ⟨v,h1,h2⟩:=resU_run hT hET h hu
     obtain ⟨vs,h3,h4⟩:=ih hl'
     exact ⟨v :: vs,by rw [List.mapM_cons]; simp only [Sem.run_bind,h1,Result.andThen_ok,h3,Sem.run_pure],h2,h4⟩
    cases hl
   cases hl
 obtain ⟨vs,h1,h2⟩:=key hl
 refine ⟨if h : vs.toArray.size = 1 then vs.toArray[0] else .tuple vs.toArray,?_,?_⟩
 ·rw [results_eq,Array.mapM_eq_mapM_toList]
  simp [h1]
 cases l with
 | nil=>cases vs with
  | nil=>exact ⟨[],rfl,trivial⟩
  | cons _ _=>exact h2.elim
 | cons u l=>cases vs with
  | nil=>exact h2.elim
  | cons v vs=>cases l with
   | nil=>cases vs with
    | nil=>exact h2.1
    | cons _ _=>exact h2.2.elim
   | cons u2 l2=>cases vs with
    | nil=>exact h2.2.elim
    | cons v2 vs=>exact ⟨v :: v2 :: vs,by simp,h2⟩
theorem res_den (h : Rel E β env own a w) {β' : Nat → Option Nat} {c : C} {v : Value} (hc : DenC E.T w β (Av E.X β own) own c v) : DenC E.T w β' E.X (fun _=>none) (c.res own) v:=by
 have s : Stay w (Av E.X β own) w E.X:=⟨Nat.le_refl _,fun b _ hb=>⟨rfl,fun hx=>hb (.inl hx)⟩⟩
 have h1:=hc.oneV
 cases c with
 | v x=>exact hc
 | d t x=>exact Rd.stay s hc
 | z t=>exact hc
 | e cts row off=>obtain ⟨a,h1,h2⟩:=hc; exact ⟨a,h1,h2.stay s⟩
 | r n t =>
  obtain ⟨x,e1,e2⟩:=hc
  simp only [C.res,e1]
  exact row_rd h.blks e1 e2 s fun b hb=>(h.blks.loc n b (by simp [e1]) hb).2.1
 | _=>exact h1
theorem resU_den (h : Rel E β env own a w) {β' : Nat → Option Nat} {c : U} {v : Value} (hc : DenU E.T w β (Av E.X β own) own c v) : DenU E.T w β' E.X (fun _=>none) (c.res own) v:=by
 cases c with
 | c x=>exact res_den h hc
 | a l=>obtain ⟨cs,e1,e2⟩:=hc; exact ⟨cs,e1,e2.map_left (C.res own) fun _ _=>res_den h⟩
theorem mkRes_den (h : Rel E β env own a w) {β' : Nat → Option Nat} {l : List U} {v : Value} (hc : DenS E.T w β (Av E.X β own) own (mkRes l) v) : DenS E.T w β' E.X (fun _=>none) (mkRes (l.map (U.res own))) v:=by
 cases l with
 | nil=>obtain ⟨vs,e1,e2⟩:=hc; cases vs with
  | nil=>exact ⟨[],e1,trivial⟩
  | cons _ _=>exact e2.elim
 | cons u l=>cases l with
  | nil=>exact resU_den h hc
  | cons u2 l2=>obtain ⟨vs,e1,e2⟩:=hc; exact ⟨vs,e1,e2.map_left (U.res own) fun _ _=>resU_den h⟩
end
section
variable {S : Pr} {β : Nat → Option Nat} {A : Nat → Prop} {own : Own} {w : World}
theorem normC_den {T : Tab} {ct : Ct} {c : C} {v : Value} (h : DenC T w β A own c v) : DenC T w β A own (normC T ct c) v:=by
 unfold normC
 split
 ·split
  ·rename_i x hx; exact dOf_rd hx h
  exact h
 exact h
theorem zipC_den {T : Tab} : ∀ {cts : List Ct} {l : List C} {vs : List Value},All2 (DenC T w β A own) l vs → All2 (DenC T w β A own) (zipC T cts l) vs
 | [],_,_,h=>h
 | _ :: _,[],_,h=>h
 | ct :: cs,c :: l,[],h=>h.elim
 | ct :: cs,c :: l,v :: vs,h=>⟨normC_den h.1,zipC_den h.2⟩
theorem normU_den {t : TypeId} {u : U} {v : Value} (h : DenU S.T w β A own u v) : DenU S.T w β A own (normU S t u) v:=by
 unfold normU
 split
 ·cases u with
  | c x =>
   simp only
   split
   ·exact normC_den h
   exact h
  | a l=>obtain ⟨cs,e1,e2⟩:=h; exact ⟨cs,e1,zipC_den e2⟩
 exact h
theorem normL_den : ∀ {ts : List TypeId} {l : List U} {vs : List Value},All2 (DenU S.T w β A own) l vs → All2 (DenU S.T w β A own) (normL S ts l) vs
 | [],_,_,h=>h
 | _ :: _,[],_,h=>h
 | t :: ts,u :: l,[],h=>h.elim
 | t :: ts,u :: l,v :: vs,h=>⟨normU_den h.1,normL_den h.2⟩
theorem mkRes_norm {ts : List TypeId} {l : List U} {v : Value} (h : DenS S.T w β A own (mkRes l) v) : DenS S.T w β A own (mkRes (normL S ts l)) v:=by
 cases ts with
 | nil=>exact h
 | cons t ts=>cases l with
  | nil=>exact h
  | cons u l=>cases l with
   | nil =>
    have : normL S (t :: ts) [u] = [normU S t u]:=by cases ts <;> rfl
    rw [this]
    exact normU_den (u:=u) h
   | cons u2 l2 =>
    obtain ⟨vs,e1,e2⟩:=h
    have h2:=normL_den (ts:=t :: ts) e2
    cases ts with
    | nil=>exact ⟨vs,e1,h2⟩
    | cons t2 ts2=>exact ⟨vs,e1,h2⟩
end
def normG (S : Pr) (tys : List TypeId) (g : List U → Out SV) : List U → Out SV:=fun us=>g (normL S tys us)
theorem SoundP.norm {S : Pr} {G : Glob} {f : FuncId} {g : List U → Out SV} (tys : List TypeId) (h : SoundP S.P S.T G f g) : SoundP S.P S.T G f (normG S tys g) :=
 fun K us X w vals hk hG hX hu=>h K _ X w vals hk hG hX (normL_den hu)
theorem argEnv_den {T : Tab} {w : World} {β : Nat → Option Nat} {A : Nat → Prop} {own : Own} {us : List U} {vals : List Value} {n : Nat} (hu : All2 (DenU T w β A own) us vals) {t : Nat} {sv : SV} (ht : argEnv us t = some sv) :
  DenS T w β A own sv ((vals.toArray ++ Array.replicate n undef).getD t undef):=by
 unfold argEnv at ht
 split at ht
 ·rename_i u hg
  obtain rfl:=Option.some.inj ht
  obtain ⟨v,hv,hd⟩:=hu.get hg
  have hlt:=(List.getElem?_eq_some_iff.1 hv).1
  have : (vals.toArray ++ Array.replicate n undef).getD t undef = v:=by
   rw [getD_opt,Array.getElem?_append_left (by simpa using hlt)]
   simp [hv]
  rw [this]
  exact hd
 cases ht
theorem sound_pure {S : Pr} {G : Glob} {f : FuncId} {fn : Func} {code : Code} {g : List U → Out SV} (hT : TOk S.P S.tt) (hS : AllSound S G) (hf : S.P.funcs[f]? = some fn) (hb : fn.body = some code) (hn : (fn.name == "runtime.NumGoroutine") = false)
  (hw : ∀ (K : SV → Prop) us,(g us).wp K → us.length ≤ fn.ntmps ∧ wpC S fn.ntmps code (argEnv us) (fun _=>none) (retP S fn.resultTypes.toList fn.results.toList K) (fun _ _ _=>False) (retP S fn.resultTypes.toList fn.results.toList K)) :
  Entr S.P f ∧ SoundP S.P S.T G f g:=by
 refine ⟨⟨fn,hf,by simp [hb],hn⟩,?_⟩
 intro K us X w vals hk hG hX hu
 obtain ⟨hlen,hc⟩:=hw K us hk
 have hvl:=hu.length
 let E : Ctx:={ T:=S.T,G:=G,w0:=w,X:=X,L:=fun _=>False,nt:=fn.ntmps,own0:=fun _=>none,β0:=fun _=>none }
 have hav : ∀ b,Av X (fun _=>none) (fun _=>none) b ↔ X b:=fun b=>⟨fun hh=>hh.elim id fun ⟨n,h1,_⟩=>absurd rfl h1,.inl⟩
 have hstay : Stay w X w (Av X (fun _=>none) (fun _=>none)):=⟨Nat.le_refl _,fun b _ hb=>⟨rfl,fun hh=>hb ((hav b).1 hh)⟩⟩
 have hu2 : All2 (DenU S.T w (fun _=>none) (Av X (fun _=>none) (fun _=>none)) (fun _=>none)) us vals:=hu.mono fun _ _ hh=>DenU.anywhere hstay hh
 have hR : Rel E (fun _=>none) (argEnv us) (fun _=>none) { tmps:=vals.toArray ++ Array.replicate (fn.ntmps - vals.toArray.size) undef,defers:=[] } w:=by
  refine ⟨rfl,?_,?_,⟨by simp,by simp,by simp⟩,hG,Fr.refl _ _,by simp,hX,by intro n B B' h1; simp [E] at h1⟩
  ·simp only [Array.size_append,Array.size_replicate,List.size_toArray,E]
   omega
  exact fun t sv ht=>argEnv_den hu2 ht
 refine calls_of_wp hf hb ?_
 have hpost : ∀ a w',Ends E (retP S fn.resultTypes.toList fn.results.toList K) a w' → a.defers = [] ∧ ∃ v,(results fn a.tmps).run S.P w' = .ok v w' ∧ ∃ r v',Ending.returned v = .returned v' ∧ K r ∧ DenS S.T w' (fun _=>none) X (fun _=>none) r v' ∧ Fr w w' fun _=>False:=by
  rintro a w' ⟨env',own',β',k1,k2⟩
  unfold retP at k1
  split at k1
  ·rename_i l hl
   rw [SV.see_eq] at k1
   obtain ⟨v,h1,h2⟩:=results_run hT (E:=E) rfl k2 hl
   exact ⟨k2.defers,v,h1,_,v,rfl,k1,mkRes_norm (S:=S) (mkRes_den k2 h2),k2.frame⟩
  exact k1.elim
 exact wpC_sound hT hS (E:=E) rfl rfl (fun _ _=>rfl) (fun _ _=>rfl) code hR hc hpost (fun _ _ _ ⟨_,_,_,hh,_⟩=>hh.elim) hpost
end Sx
namespace Sx
open Go
def sgm (nn : List Nat) (n : Nat) : Nat:=match posN nn n with | some j=>60000 + j | none=>n
def firstOwn (k : Nat) : List C → Option Nat
 | []=>none
 | c :: l=>match c.rowN with | some n=>(bif memN (idxs k) n then firstOwn k l else some n) | none=>firstOwn k l
def lentCells (own : Own) : List Nat → List C
 | []=>[]
 | n :: r=>match own n with | some (.cells _ l)=>l ++ lentCells own r | _=>lentCells own r
def frzRes (S : Pr) (rs : List ResultVar) (k : Nat) (keep : Bool) : Nat → Env → Own → Option (List U × Own)
 | 0,_,_=>none
 | f + 1,env,own=>match mapO (resU S env own) rs with
  | some l=>match (bif keep then none else firstOwn k (l.flatMap U.cells ++ lentCells own (idxs k))) with
   | none=>some (l,own)
   | some n=>match own n with
    | some (.row _ x)=>frzRes S rs k keep f (env.frz n x) (own.frz n x)
    | _=>none
  | none=>none
def outsOf (own : Own) (σ : Nat → Nat) (k : Nat) : List (Option Blk):=(List.range k).map fun i=>match own (50000 + i) with | some B=>some (B.ren σ) | none=>none
def newsOf (own : Own) (σ : Nat → Nat) (nn : List Nat) : Option (List Blk):=mapO (fun n=>match own n with | some B=>some (B.ren σ) | none=>none) nn
def newN (own : Own) (k : Nat) (l : List U) : List Nat:=(dfs own 40 (refsOf (l.flatMap U.cells ++ lentCells own (idxs k))) []).filter fun n=>!memN (idxs k) n
def closedF (own : Own) (k : Nat) (nn : List Nat) (l : List U) : Bool :=
 nodupN nn && nn.all (fun n=>!memN (idxs k) n) && (l.flatMap U.cells).all (okRef (idxs k ++ nn)) && (idxs k ++ nn).all fun n=>match own n with | some B=>B.okRef (idxs k ++ nn) | none=>true
def Blk.see.{u} {ρ : Type u} (b : Blk) (k : Blk → ρ) : ρ:=match b with
 | .cells t l=>seeL l fun l=>k (.cells t l)
 | .row t x=>k (.row t x)
 | .map t l=>k (.map t l)
theorem Blk.see_eq.{u} {ρ : Type u} (b : Blk) (k : Blk → ρ) : b.see k = k b:=by
 cases b with
 | cells t l=>show seeL l (fun l=>k (.cells t l)) = _; rw [seeL_eq]
 | row t x=>rfl
 | map t l=>rfl
def seeBs.{u} {ρ : Type u} : List Blk → (List Blk → ρ) → ρ
 | [],k=>k []
 | b :: l,k=>b.see fun b=>seeBs l fun r=>k (b :: r)
theorem seeBs_eq.{u} {ρ : Type u} : ∀ (l : List Blk) (k : List Blk → ρ),seeBs l k = k l
 | [],_=>rfl
 | b :: l,k=>by rw [seeBs,Blk.see_eq,seeBs_eq l]
def seeOs.{u} {ρ : Type u} : List (Option Blk) → (List (Option Blk) → ρ) → ρ
 | [],k=>k []
 | none :: l,k=>seeOs l fun r=>k (none :: r)
 | some b :: l,k=>b.see fun b=>seeOs l fun r=>k (some b :: r)
theorem seeOs_eq.{u} {ρ : Type u} : ∀ (l : List (Option Blk)) (k : List (Option Blk) → ρ),seeOs l k = k l
 | [],_=>rfl
 | none :: l,k=>by rw [seeOs,seeOs_eq l]
 | some b :: l,k=>by rw [seeOs,Blk.see_eq,seeOs_eq l]
def litN (k : Nat) (f : Nat → Prop) : Prop:=match k with | 0=>f 0 | 1=>f 1 | 2=>f 2 | 3=>f 3 | 4=>f 4 | n + 5=>f (n + 5)
theorem litN_eq (k : Nat) (f : Nat → Prop) : litN k f = f k:=by unfold litN; split <;> rfl
def retF (S : Pr) (tys : List TypeId) (rs : List ResultVar) (k : Nat) (keep : Bool) (K : SV × List (Option Blk) × List Blk → Prop) (env : Env) (own : Own) : Prop :=
 litN k fun k=>match frzRes S rs k keep 12 env own with
 | some (l,own1)=>match closedF own1 k (newN own1 k l) l,newsOf own1 (sgm (newN own1 k l)) (newN own1 k l) with
  | true,some news=>(mkRes (normL S tys (l.map (U.ren (sgm (newN own1 k l)))))).see fun sv=>seeOs ((outsOf own1 (sgm (newN own1 k l)) k).map (Option.map (normB S))) fun os=>seeBs (news.map (normB S)) fun ns=>K (sv,os,ns)
  | _,_=>False
 | none=>False
theorem memN_append {l m : List Nat} {n : Nat} : memN (l ++ m) n = (memN l n || memN m n):=by
 induction l with
 | nil=>rfl
 | cons a l ih =>
  simp only [List.cons_append,memN]
  cases n.beq a with
  | true=>rfl
  | false=>exact ih
theorem memN_idxs {k i : Nat} (h : i < k) : memN (idxs k) (50000 + i) = true:=by
 refine memN_of_get (i:=i) ?_
 simp [idxs,h]
section
variable {S : Pr} {E : Ctx} {β : Nat → Option Nat} {env : Env} {own : Own} {a : Act} {w : World}
theorem frzRes_rel {rs : List ResultVar} {k : Nat} {keep : Bool} : ∀ {f : Nat} {env : Env} {own : Own} {l : List U} {own1 : Own},Rel E β env own a w → frzRes S rs k keep f env own = some (l,own1) →
  ∃ env1,Rel E β env1 own1 a w ∧ mapO (resU S env1 own1) rs = some l
 | 0,_,_,_,_,_,h=>by cases h
 | f + 1,env,own,l,own1,h,hf=>by
  simp only [frzRes] at hf
  split at hf
  ·rename_i l' hl
   split at hf
   ·simp only [Option.some.injEq,Prod.mk.injEq] at hf
    obtain ⟨rfl,rfl⟩:=hf
    exact ⟨env,h,hl⟩
   split at hf
   ·rename_i n _ _ x hn
    exact frzRes_rel (h.frz hn) hf
   cases hf
  cases hf
theorem mkRes_ren {T : Tab} {A A' : Nat → Prop} {β' : Nat → Option Nat} {own own' : Own} {w w' : World} {l : List U} {v : Value} {f : U → U} (hf : ∀ u v,u ∈ l → DenU T w β A own u v → DenU T w' β' A' own' (f u) v) (hc : DenS T w β A own (mkRes l) v) : DenS T w' β' A' own' (mkRes (l.map f)) v:=by
 have key : ∀ {l : List U} {vs : List Value},(∀ u v,u ∈ l → DenU T w β A own u v → DenU T w' β' A' own' (f u) v) → All2 (DenU T w β A own) l vs → All2 (DenU T w' β' A' own') (l.map f) vs:=by
  intro l
  induction l with
  | nil=>intro vs _ h; cases vs with
   | nil=>trivial
   | cons _ _=>exact h.elim
  | cons u l ih=>intro vs hf h; cases vs with
   | nil=>exact h.elim
   | cons v vs=>exact ⟨hf u v (List.mem_cons_self ..) h.1,ih (fun u v hu=>hf u v (List.mem_cons_of_mem _ hu)) h.2⟩
 cases l with
 | nil=>obtain ⟨vs,e1,e2⟩:=hc; exact ⟨vs,e1,key hf e2⟩
 | cons u l=>cases l with
  | nil=>exact hf u v (List.mem_cons_self ..) hc
  | cons u2 l2=>obtain ⟨vs,e1,e2⟩:=hc; exact ⟨vs,e1,key hf e2⟩
theorem ret_full (h : Rel E β env own a w) {k : Nat} (hk : k ≤ 10000) {nn : List Nat} {l : List U} {v : Value} (hc : closedF own k nn l = true) {news : List Blk} (hn : newsOf own (sgm nn) nn = some news) (hr : DenS E.T w β (Av E.X β own) own (mkRes l) v) :
  ∃ β',(outsOf own (sgm nn) k).length = k ∧ OwnOk E.T E.G w β' E.X (resOwn (outsOf own (sgm nn) k) news) ∧ DenS E.T w β' (Av E.X β' (resOwn (outsOf own (sgm nn) k) news)) (resOwn (outsOf own (sgm nn) k) news) (mkRes (l.map (U.ren (sgm nn)))) v ∧
   (∀ n B',resOwn (outsOf own (sgm nn) k) news n = some B' → ∃ m B,own m = some B ∧ B' = B.ren (sgm nn) ∧ β' n = β m ∧ (n < 60000 → m = n)):=by
 simp only [closedF,Bool.and_eq_true] at hc
 obtain ⟨⟨⟨hnd,hnl⟩,hlr⟩,hbr⟩:=hc
 generalize ho : outsOf own (sgm nn) k = outs
 have hol : outs.length = k:=by rw [← ho]; simp [outsOf]
 let β' : Nat → Option Nat:=fun m=>if 60000 ≤ m then (nn[m - 60000]?).bind β else β m
 have hnew : ∀ (j n : Nat),nn[j]? = some n → ∃ B,own n = some B ∧ news[j]? = some (B.ren (sgm nn)):=by
  intro j n hj
  obtain ⟨y,h1,h2⟩:=mapO_at hn hj
  split at h2
  ·rename_i B hB; obtain rfl:=Option.some.inj h2; exact ⟨B,hB,h1⟩
  cases h2
 have hnewl : news.length = nn.length:=mapO_len hn
 have hout : ∀ (i : Nat),i < k → outs[i]? = some (match own (50000 + i) with | some B=>some (B.ren (sgm nn)) | none=>none):=by
  intro i hi
  rw [← ho]
  simp [outsOf,hi]
 have notl : ∀ (j n : Nat),nn[j]? = some n → memN (idxs k) n = false:=by
  intro j n hj
  have:=List.all_eq_true.1 hnl n (List.mem_of_getElem? hj)
  simpa using this
 -- whence a name of the result is
 have from_ : ∀ m B',resOwn outs news m = some B' → ∃ n B,own n = some B ∧ B' = B.ren (sgm nn) ∧ β' m = β n ∧ sgm nn n = m ∧ memN (idxs k ++ nn) n = true ∧ (m < 60000 → n = m):=by
  intro m B' hm
  rcases resOwn_some (by omega) hm with ⟨i,rfl,hi,e⟩ | ⟨j,rfl,e⟩
  ·have hik : i < k:=by have:=(List.getElem?_eq_some_iff.1 e).1; omega
   rw [hout i hik] at e
   simp only [Option.some.injEq] at e
   split at e
   ·rename_i B hB
    obtain rfl:=Option.some.inj e
    refine ⟨50000 + i,B,hB,rfl,?_,?_,by rw [memN_append,memN_idxs hik]; rfl,fun _=>rfl⟩
    ·simp only [β',if_neg (show ¬ 60000 ≤ 50000 + i by omega)]
    unfold sgm
    cases hp : posN nn (50000 + i) with
    | none=>rfl
    | some j=>have:=notl j _ (posN_get hp); rw [memN_idxs hik] at this; cases this
   cases e
  have hjl : j < nn.length:=by have:=(List.getElem?_eq_some_iff.1 e).1; omega
  have hj:=List.getElem?_eq_getElem hjl
  obtain ⟨B,h1,h2⟩:=hnew j _ hj
  rw [h2] at e
  obtain rfl:=Option.some.inj e
  refine ⟨_,B,h1,rfl,?_,?_,by rw [memN_append,memN_of_get hj]; simp,fun hlt=>by omega⟩
  ·simp only [β',if_pos (show 60000 ≤ 60000 + j by omega),Nat.add_sub_cancel_left,hj,Option.bind_some]
  simp only [sgm,nodupN_pos hnd hj]
 -- and where a name goes
 have to_ : ∀ n B,memN (idxs k ++ nn) n = true → own n = some B → resOwn outs news (sgm nn n) = some (B.ren (sgm nn)) ∧ β' (sgm nn n) = β n:=by
  intro n B hm hB
  cases hp : posN nn n with
  | some j =>
   have hj:=posN_get hp
   obtain ⟨B0,h1,h2⟩:=hnew j n hj
   rw [hB] at h1
   obtain rfl:=Option.some.inj h1
   have e : sgm nn n = 60000 + j:=by simp only [sgm,hp]
   rw [e,resOwn_new]
   exact ⟨h2,by simp only [β',if_pos (show 60000 ≤ 60000 + j by omega),Nat.add_sub_cancel_left,hj,Option.bind_some]⟩
  | none =>
   have hm2 : memN (idxs k) n = true:=by
    rw [memN_append] at hm
    cases hq : memN (idxs k) n with
    | true=>rfl
    | false =>
     rw [hq] at hm
     simp only [Bool.false_or] at hm
     obtain ⟨i,hi⟩:=posN_mem hm
     rw [hp] at hi
     cases hi
   obtain ⟨i,hi,rfl⟩:=idxs_mem hm2
   have e : sgm nn (50000 + i) = 50000 + i:=by simp only [sgm,hp]
   rw [e,resOwn_out (by omega),hout i hi,hB]
   exact ⟨rfl,by simp only [β',if_neg (show ¬ 60000 ≤ 50000 + i by omega)]⟩
 have av : ∀ b,Av E.X β' (resOwn outs news) b → Av E.X β own b:=by
  rintro b (hx | ⟨m,h1,h2⟩)
  ·exact .inl hx
  cases hB : resOwn outs news m with
  | none=>exact absurd hB h1
  | some B' =>
   obtain ⟨n,B,p1,_,p3,_⟩:=from_ m B' hB
   exact .inr ⟨n,by simp [p1],by rw [← p3]; exact h2⟩
 have s : Stay w (Av E.X β own) w (Av E.X β' (resOwn outs news)):=⟨Nat.le_refl _,fun b _ hb=>⟨rfl,fun hh=>hb (av b hh)⟩⟩
 have hC : ∀ {c : C} {v : Value},okRef (idxs k ++ nn) c = true → DenC E.T w β (Av E.X β own) own c v → DenC E.T w β' (Av E.X β' (resOwn outs news)) (resOwn outs news) (c.ren (sgm nn)) v:=by
  intro c v hok hc
  refine DenC.ren s rfl (fun n B hr hB=>?_) hc
  unfold okRef at hok
  rw [hr] at hok
  obtain ⟨h1,h2⟩:=to_ n B hok hB
  exact ⟨h2,_,h1,B.ren_like⟩
 have hCs : ∀ {l : List C} {vs : List Value},l.all (okRef (idxs k ++ nn)) = true → All2 (DenC E.T w β (Av E.X β own) own) l vs → All2 (DenC E.T w β' (Av E.X β' (resOwn outs news)) (resOwn outs news)) (l.map (C.ren (sgm nn))) vs:=by
  intro l vs hall h2
  refine All2.of_get (by simpa using h2.length) fun i c v h3 h4=>?_
  simp only [List.getElem?_map,Option.map_eq_some_iff] at h3
  obtain ⟨c0,h5,rfl⟩:=h3
  obtain ⟨v',h6,h7⟩:=h2.get h5
  rw [h4] at h6
  obtain rfl:=Option.some.inj h6
  exact hC (List.all_eq_true.1 hall c0 (List.mem_of_getElem? h5)) h7
 refine ⟨β',rfl.trans hol,⟨?_,?_,?_⟩,?_,fun m B' hm=>?_⟩
 ·intro m B' hm
  obtain ⟨n,B,p1,rfl,p3,p4,p5,_⟩:=from_ m B' hm
  have hb:=h.blks.blk n B p1
  have hok : B.okRef (idxs k ++ nn) = true:=by
   have : n ∈ idxs k ++ nn:=by
    have : ∀ l : List Nat,memN l n = true → n ∈ l:=by
     intro l
     induction l with
     | nil=>intro h; cases h
     | cons a l ih =>
      intro h
      simp only [memN] at h
      cases hb : n.beq a with
      | true=>exact List.mem_cons.2 (.inl (Nat.eq_of_beq_eq_true hb))
      | false=>rw [hb] at h; exact List.mem_cons_of_mem _ (ih h)
    exact this _ p5
   have:=List.all_eq_true.1 hbr n this
   rw [p1] at this
   exact this
  cases B with
  | cells t l=>obtain ⟨b,cs,c1,c2,c3⟩:=hb; exact ⟨b,cs,p3.trans c1,c2,hCs hok c3⟩
  | row t x=>obtain ⟨cs,c1,c2⟩:=hb; exact ⟨cs,c1.stay s,by rw [p3]; exact c2⟩
  | map t l=>obtain ⟨b,es,clock,c1,c2,c3⟩:=hb; exact ⟨b,es,clock,p3.trans c1,c2,c3.stay s⟩
 ·intro m m' b h1 h2 h3 h4
  cases hB : resOwn outs news m with
  | none=>exact absurd hB h1
  | some B=>cases hB' : resOwn outs news m' with
   | none=>exact absurd hB' h2
   | some B' =>
    obtain ⟨n,B0,p1,_,p3,p4,_⟩:=from_ m B hB
    obtain ⟨n',B0',q1,_,q3,q4,_⟩:=from_ m' B' hB'
    have:=h.blks.inj n n' b (by simp [p1]) (by simp [q1]) (by rw [← p3]; exact h3) (by rw [← q3]; exact h4)
    rw [← p4,← q4,this]
 ·intro m b h1 h2
  cases hB : resOwn outs news m with
  | none=>exact absurd hB h1
  | some B =>
   obtain ⟨n,B0,p1,_,p3,_⟩:=from_ m B hB
   exact h.blks.loc n b (by simp [p1]) (by rw [← p3]; exact h2)
 ·refine mkRes_ren (fun u v hu hd=>?_) hr
  have hall : u.cells.all (okRef (idxs k ++ nn)) = true:=List.all_eq_true.2 fun c hc=>List.all_eq_true.1 hlr c (List.mem_flatMap.2 ⟨u,hu,hc⟩)
  cases u with
  | c x=>exact hC (by simpa [U.cells] using hall) hd
  | a l=>obtain ⟨cs,e1,e2⟩:=hd; exact ⟨cs,e1,hCs hall e2⟩
 obtain ⟨n,B,p1,p2,p3,p4,_,p6⟩:=from_ m B' hm
 exact ⟨n,B,p1,p2,p3,p6⟩
end
def ownB (S : Pr) (own : Own) : Own:=fun n=>(own n).map (normB S)
theorem ownB_none {S : Pr} {own : Own} {n : Nat} : ownB S own n ≠ none ↔ own n ≠ none:=by
 unfold ownB
 cases own n <;> simp
theorem ownB_keep {S : Pr} {own : Own} {w : World} {β : Nat → Option Nat} : Keep own w β (ownB S own) w β:=by
 intro n B h
 refine ⟨rfl,?_⟩
 cases B with
 | cells t l =>
  have : ownB S own n = some (normB S (.cells t l)):=by simp [ownB,h]
  rw [this]
  unfold normB
  simp only
  split <;> exact ⟨_,_,rfl⟩
 | row t x=>exact ⟨x,by simp [ownB,h,normB],rfl,fun b cs te _ hb=>⟨cs,hb,rfl⟩⟩
 | map t l=>exact ⟨l,by simp [ownB,h,normB]⟩
theorem ownB_stay {S : Pr} {own : Own} {w : World} {β : Nat → Option Nat} {X : Nat → Prop} : Stay w (Av X β own) w (Av X β (ownB S own)):=by
 refine ⟨Nat.le_refl _,fun b _ hb=>⟨rfl,?_⟩⟩
 rintro (hx | ⟨n,h1,h2⟩)
 ·exact hb (.inl hx)
 exact hb (.inr ⟨n,ownB_none.1 h1,h2⟩)
theorem OwnOk.normB {S : Pr} {G : Glob} {own : Own} {w : World} {β : Nat → Option Nat} {X : Nat → Prop} (h : OwnOk S.T G w β X own) : OwnOk S.T G w β X (ownB S own):=by
 refine ⟨?_,fun n m b h1 h2=>h.inj n m b (ownB_none.1 h1) (ownB_none.1 h2),fun n b h1=>h.loc n b (ownB_none.1 h1)⟩
 intro n B hB
 have hB':=hB
 simp only [ownB,Option.map_eq_some_iff] at hB'
 obtain ⟨B0,h1,rfl⟩:=hB'
 have hb:=h.blk n B0 h1
 cases B0 with
 | cells t l =>
  obtain ⟨b,cs,c1,c2,c3⟩:=hb
  have c4 : All2 (DenC S.T w β (Av X β (ownB S own)) (ownB S own)) l cs:=c3.mono fun _ _=>DenC.keep ownB_stay ownB_keep
  unfold Sx.normB
  simp only
  split
  ·exact ⟨b,cs,c1,c2,zipC_den c4⟩
  exact ⟨b,cs,c1,c2,c4⟩
 | row t x=>obtain ⟨cs,c1,c2⟩:=hb; exact ⟨cs,c1.stay ownB_stay,c2⟩
 | map t l=>obtain ⟨b,es,clock,c1,c2,c3⟩:=hb; exact ⟨b,es,clock,c1,c2,c3.stay ownB_stay⟩
theorem resOwn_norm {S : Pr} {outs : List (Option Blk)} {news : List Blk} : resOwn (outs.map (Option.map (normB S))) (news.map (normB S)) = ownB S (resOwn outs news):=by
 funext n
 simp only [resOwn,ownB]
 cases Nat.ble 60000 n with
 | true=>simp only [cond_true,List.getElem?_map]
 | false =>
  cases Nat.ble 50000 n with
  | false=>rfl
  | true =>
   simp only [cond_true,cond_false,List.getElem?_map]
   cases outs[n - 50000]? with
   | none=>rfl
   | some o=>rfl
theorem like_normB {S : Pr} {w w' : World} {β : Nat → Option Nat} {n : Nat} {B B' : Blk} (h : Like w β n w' B B') : Like w β n w' B (normB S B'):=by
 cases B' with
 | cells t l=>unfold normB; simp only; split <;> (cases B <;> exact h)
 | row t x=>exact h
 | map t l=>exact h
theorem like_ren {w w' : World} {β : Nat → Option Nat} {n : Nat} {B B' : Blk} {σ : Nat → Nat} (h : Like w β n w' B B') : Like w β n w' B (B'.ren σ):=by
 cases B <;> cases B' <;> exact h
theorem like_refl {w : World} {β : Nat → Option Nat} {n : Nat} {B : Blk} : Like w β n w B B:=by
 cases B with
 | cells t l=>trivial
 | row t x=>exact ⟨rfl,rfl,fun b cs te _ h=>⟨cs,h,rfl⟩⟩
 | map t l=>exact rfl
def normF (S : Pr) (tys : List TypeId) (g : List U → List Blk → Out (SV × List (Option Blk) × List Blk)) : List U → List Blk → Out (SV × List (Option Blk) × List Blk):=fun us lent=>g (normL S tys us) (lent.map (normB S))
theorem lentOwn_norm {S : Pr} {lent : List Blk} : lentOwn (lent.map (normB S)) = ownB S (lentOwn lent):=by
 funext n
 simp only [lentOwn,ownB]
 cases Nat.ble 50000 n with
 | true=>simp only [cond_true,List.getElem?_map]
 | false=>rfl
theorem SoundF.norm {S : Pr} {G : Glob} {f : FuncId} {g : List U → List Blk → Out (SV × List (Option Blk) × List Blk)} (tys : List TypeId) (h : SoundF S.P S.T G f g) : SoundF S.P S.T G f (normF S tys g):=by
 intro K us lent β X w vals hl hk hO hG hX hu
 have hmine : ∀ b,Mine β (ownB S (lentOwn lent)) b ↔ Mine β (lentOwn lent) b:=fun b=>⟨fun ⟨n,h1,h2⟩=>⟨n,ownB_none.1 h1,h2⟩,fun ⟨n,h1,h2⟩=>⟨n,ownB_none.2 h1,h2⟩⟩
 have hO2 : OwnOk S.T G w β X (lentOwn (lent.map (normB S))):=by rw [lentOwn_norm]; exact OwnOk.normB hO
 have hu2 : All2 (DenU S.T w β (Av X β (lentOwn (lent.map (normB S)))) (lentOwn (lent.map (normB S)))) us vals:=by
  rw [lentOwn_norm]
  exact hu.mono fun _ _=>DenU.keep ownB_stay ownB_keep
 have hc:=h K _ _ β X w vals (by simpa using hl) hk hO2 hG hX (normL_den hu2)
 refine hc.mono fun e w' ⟨r,outs,news,β',v,e1,e2,e3,e4,e5,e6,e7,e8⟩=>?_
 rw [lentOwn_norm] at e6 e7 e8
 refine ⟨r,outs,news,β',v,e1,e2,by simpa using e3,e4,e5,⟨e6.os,e6.tape,e6.output,e6.size,fun b hb hn=>e6.heap b hb fun hm=>hn ((hmine b).1 hm)⟩,?_,fun n b h1 h2=>(e8 n b h1 h2).imp id (hmine b).1⟩
 intro n B B' q1 q2
 have q3 : ownB S (lentOwn lent) n = some (Sx.normB S B):=by simp [ownB,q1]
 obtain ⟨r1,r2⟩:=e7 n _ B' q3 q2
 refine ⟨r1,?_⟩
 cases B with
 | cells t l =>
  unfold Sx.normB at r2
  simp only at r2
  split at r2 <;> (cases B' <;> exact r2)
 | row t x=>exact r2
 | map t l=>exact r2
theorem sound_full (keep : Bool) {S : Pr} {G : Glob} {f : FuncId} {fn : Func} {code : Code} {g : List U → List Blk → Out (SV × List (Option Blk) × List Blk)} (hT : TOk S.P S.tt) (hS : AllSound S G) (hf : S.P.funcs[f]? = some fn) (hb : fn.body = some code) (hn : (fn.name == "runtime.NumGoroutine") = false)
  (hw : ∀ (K : SV × List (Option Blk) × List Blk → Prop) us lent,(g us lent).wp K → us.length ≤ fn.ntmps ∧ wpC S fn.ntmps code (argEnv us) (lentOwn lent) (retF S fn.resultTypes.toList fn.results.toList lent.length keep K) (fun _ _ _=>False) (retF S fn.resultTypes.toList fn.results.toList lent.length keep K)) :
  Entr S.P f ∧ SoundF S.P S.T G f g:=by
 refine ⟨⟨fn,hf,by simp [hb],hn⟩,?_⟩
 intro K us lent β X w vals hll hk hO hG hX hu
 obtain ⟨hlen,hc⟩:=hw K us lent hk
 have hvl:=hu.length
 let E : Ctx:={ T:=S.T,G:=G,w0:=w,X:=X,L:=Mine β (lentOwn lent),nt:=fn.ntmps,own0:=lentOwn lent,β0:=β }
 have hR : Rel E β (argEnv us) (lentOwn lent) { tmps:=vals.toArray ++ Array.replicate (fn.ntmps - vals.toArray.size) undef,defers:=[] } w:=by
  refine ⟨rfl,?_,?_,hO,hG,Fr.refl _ _,?_,hX,?_⟩
  ·simp only [Array.size_append,Array.size_replicate,List.size_toArray,E]
   omega
  ·exact fun t sv ht=>argEnv_den hu ht
  ·exact fun n b h1 h2=>.inr ⟨n,h1,h2⟩
  intro n B B' h1 h2
  rw [show E.own0 = lentOwn lent from rfl] at h1
  rw [h1] at h2
  obtain rfl:=Option.some.inj h2
  exact ⟨rfl,like_refl⟩
 have hlow : ∀ n,n < 50000 → E.own0 n = none:=by
  intro n hn
  show lentOwn lent n = none
  unfold lentOwn
  cases hb : Nat.ble 50000 n with
  | false=>rfl
  | true=>have:=Nat.le_of_ble_eq_true hb; omega
 have hhi : ∀ n,100000 ≤ n → E.own0 n = none:=by
  intro n hn
  show lentOwn lent n = none
  cases hB : lentOwn lent n with
  | none=>rfl
  | some B =>
   obtain ⟨i,rfl,hi⟩:=lentOwn_some hB
   have:=(List.getElem?_eq_some_iff.1 hi).1
   omega
 refine calls_of_wp hf hb ?_
 have hpost : ∀ a w',Ends E (retF S fn.resultTypes.toList fn.results.toList lent.length keep K) a w' → a.defers = [] ∧ ∃ v,(results fn a.tmps).run S.P w' = .ok v w' ∧ ∃ r outs news β' v',Ending.returned v = .returned v' ∧ K (r,outs,news) ∧ List.length outs = lent.length ∧ OwnOk S.T G w' β' X (resOwn outs news) ∧ DenS S.T w' β' (Av X β' (resOwn outs news)) (resOwn outs news) r v' ∧
   Fr w w' (Mine β (lentOwn lent)) ∧ KeepL (lentOwn lent) w β (resOwn outs news) w' β' ∧ (∀ n b,resOwn outs news n ≠ none → β' n = some b → w.heap.size ≤ b ∨ Mine β (lentOwn lent) b):=by
  rintro a w' ⟨env',own',β2,k1,k2⟩
  unfold retF at k1
  rw [litN_eq] at k1
  split at k1
  ·rename_i l own1 hl
   obtain ⟨env1,hR1,hl1⟩:=frzRes_rel k2 hl
   split at k1
   ·rename_i news hcl hnews
    rw [SV.see_eq,seeOs_eq,seeBs_eq] at k1
    obtain ⟨v,h1,h2⟩:=results_run hT (E:=E) rfl hR1 hl1
    obtain ⟨β',p1,p2,p3,p4⟩:=ret_full hR1 hll hcl hnews h2
    refine ⟨k2.defers,v,h1,_,_,_,β',v,rfl,k1,by simpa using p1,by rw [resOwn_norm]; exact OwnOk.normB p2,?_,hR1.frame,?_,?_⟩
    ·rw [resOwn_norm]
     have p5 : DenS S.T w' β' (Av X β' (ownB S (resOwn (outsOf own1 (sgm (newN own1 lent.length l)) lent.length) news))) (ownB S (resOwn (outsOf own1 (sgm (newN own1 lent.length l)) lent.length) news)) _ v:=DenS.keep ownB_stay ownB_keep p3
     exact mkRes_norm p5
    ·intro n B B' q1 q2
     rw [resOwn_norm] at q2
     simp only [ownB,Option.map_eq_some_iff] at q2
     obtain ⟨B1,q2,q3⟩:=q2
     obtain ⟨m,B0,r1,r2,r3,r4⟩:=p4 n B1 q2
     have hn6 : n < 60000:=by
      obtain ⟨i,rfl,hi⟩:=lentOwn_some q1
      have:=(List.getElem?_eq_some_iff.1 hi).1
      omega
     obtain rfl:=r4 hn6
     obtain ⟨e1,e2⟩:=hR1.kept m B B0 q1 r1
     subst r2 q3
     exact ⟨r3.trans e1,like_normB (like_ren e2)⟩
    intro n b q1 q2
    rw [resOwn_norm] at q1
    have q1:=ownB_none.1 q1
    cases hB : resOwn (outsOf own1 (sgm (newN own1 lent.length l)) lent.length) news n with
    | none=>exact absurd hB q1
    | some B' =>
     obtain ⟨m,B0,r1,r2,r3,r4⟩:=p4 n B' hB
     exact hR1.mine m b (by simp [r1]) (by rw [← r3]; exact q2)
   exact k1.elim
  exact k1.elim
 exact wpC_sound hT hS (E:=E) rfl rfl hlow hhi code hR hc hpost (fun _ _ _ ⟨_,_,_,hh,_⟩=>hh.elim) hpost
end Sx
