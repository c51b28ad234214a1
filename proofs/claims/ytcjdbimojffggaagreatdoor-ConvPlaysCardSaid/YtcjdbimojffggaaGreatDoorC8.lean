/- Part of the proof: a machine of states for walks, and contracts of functions over it. Conditions: those that each theorem names. -/
import Derived.Test.YtcjdbimojffggaaGreatDoorC7
set_option linter.unusedVariables false
set_option linter.unusedSimpArgs false
namespace Sx
open Go
inductive Kd where | v | n | c | s
def kindO (o : Oper) : Kd:=match o.op with
 | .alloc _=>.n
 | .box _ _=>.n
 | .makeSlice _ _ _=>.n
 | .store _ _ _=>.s
 | .call ⟨.builtin .append,_,_⟩=>.n
 | .call ⟨.value _,_,_⟩=>.c
 | _=>.v
abbrev Eff:=List (Nat × Blk)
def app (own : Own) : Eff → Own
 | []=>own
 | (n,B) :: l=>app (fset own n B) l
def appK (own : Own) : Eff → (Own → Prop) → Prop
 | [],K=>K own
 | (n,B) :: l,K=>appK (fset own n B) l K
theorem appK_eq : ∀ (e : Eff) (own : Own) (K : Own → Prop),appK own e K = K (app own e)
 | [],_,_=>rfl
 | (n,B) :: l,own,K=>appK_eq l (fset own n B) K
structure DC where
 own0 : Own
 W : List Nat
 ex : List Nat
def DC.snap (D : DC) : Own:=fun n=>bif memN D.ex n then none else D.own0 n
structure DD where
 own0 : Own
 W : List (Nat × List Nat)
 el : List (Nat × List Nat)
def DD.at (D : DD) (i : Nat) : DC:=⟨D.own0,(lookT D.W i).getD [],(lookT D.el i).getD (D.W.flatMap (·.2))⟩
def liveN (own : Own) (n : Nat) : Bool:=match own n with | some _=>true | none=>false
def zipB : List Nat → List Blk → Eff
 | n :: ns,B :: Bs=>(n,B) :: zipB ns Bs
 | _,_=>[]
def idxs (k : Nat) : List Nat:=(List.range k).map (50000 + ·)
def storeN (env : Env) (o : Oper) : Option Nat:=match o.op with
 | .store _ x _=>match evC env x with
  | some (.p n _)=>some n
  | some (.q n _ _)=>some n
  | _=>none
 | _=>none
def noneN (own0 own : Own) (n : Nat) : Bool:=match own0 n,own n with | none,none=>true | _,_=>false
def opKDf (D : DC) (g : List U → List Blk → Out (SV × List (Option Blk) × List Blk)) (dst : Option Tmp) (d : Nat) (us : List U) (ns : List Nat) (own : Own) : Out (SV × Eff) :=
 forceN ns fun ns=>bif ns.all (fun n=>memN D.W n && liveN D.own0 n) && lentOk own ns us && d.ble 49999 then
  match lentBs own ns with
  | some lent=>(g (us.map (U.ren (nameIn ns))) lent).bind fun x=>match x with
   | (sv,outs,news)=>match mapO id outs,news with
   | some Bs,[]=>bif Bs.length.beq lent.length && Bs.all (Blk.okRef (idxs lent.length)) then .ret (sv.ren (nameOut ns d),zipB ns (Bs.map (Blk.ren (nameOut ns d)))) else .fail
   | some [],[.row t x]=>bif lent.length.beq 0 && noneN D.own0 own (freshN d 0) then (match dst with | some _=>.ret (sv.ren (nameOut ns d),[(freshN d 0,.row t x)]) | none=>.fail) else .fail
   | _,_=>.fail
  | none=>.fail
 else .fail
def opKD (S : Pr) (D : DC) (env : Env) (own : Own) (o : Oper) : Out (SV × Eff) :=
 match o.op with
 | .call ⟨cal,args,_⟩=>match calleeF env cal with
  | some f=>match lookT S.specs f,evs env args.toList with
   | some (.pure g),some us=>bif us.all U.noRef then (g us).bind fun r=>.ret (r,[]) else .fail
   | some (.full g),some us=>match rowIn us with
    | none=>opKDf D g o.dst (o.dst.getD 0) us (lentN D.own0 us) own
    | some _=>.fail
   | _,_=>.fail
  | none=>.fail
 | _=>.fail
def valD (S : Pr) (D : DC) (o : Oper) (env : Env) (own : Own) : Out (SV × Eff) :=
 match kindO o with
 | .v=>(opV S D.snap env o).bind fun sv=>.ret (sv,[])
 | .n=>match o.dst with
  | some d=>bif d.ble 49999 then (match D.own0 d,own d with
   | none,none=>(opN S D.snap env d o).bind fun x=>match x with | (c,b)=>.ret (.u (.c c),[(d,b)])
   | _,_=>.fail) else .fail
  | none=>.fail
 | .c=>opKD S D env own o
 | .s=>match storeN env o with
  | some n=>bif memN D.W n then (opS S env own o).bind fun own'=>(match own' n with | some B=>.ret (.t [],[(n,B)]) | none=>.fail) else .fail
  | none=>.fail
def treeD (S : Pr) (D : DC) (all : List Oper) (o : Oper) (env : Env) (own : Own) : Out (SV × Eff) :=
 match guardOf all env o with
 | .run=>valD S D o env own
 | .skip=>.ret (.t [],[])
 | .ask t b want=>bif (bif want then b else !b) then valD S D o env own else .ret (.t [],[])
 | .bad=>.fail
def runD (S : Pr) (nt : Nat) (D : DD) (all : List Oper) : Nat → List Oper → Env → Own → (Env → Own → Prop) → Prop
 | _,[],env,own,N=>N env own
 | i,o :: r,env,own,N=>match guardOf all env o with
  | .run=>(valD S (D.at i) o env own).wp fun x=>match x with | (sv,e)=>onSet nt env o.dst sv fun env'=>appK own e fun own'=>runD S nt D all (i + 1) r env' own' N
  | .skip=>onSet nt env o.dst (.t []) fun env'=>runD S nt D all (i + 1) r env' own N
  | .ask t b want=>Ask b fun c=>match (bif want then c else !c) with
   | true=>(valD S (D.at i) o (fset env t (boolSV c)) own).wp fun x=>match x with | (sv,e)=>onSet nt (fset env t (boolSV c)) o.dst sv fun env'=>appK own e fun own'=>runD S nt D all (i + 1) r env' own' N
   | false=>onSet nt (fset env t (boolSV c)) o.dst (.t []) fun env'=>runD S nt D all (i + 1) r env' own N
  | .bad=>False
def stepT (S : Pr) (nt : Nat) (D : DD) (all : List Oper) (i : Nat) (K : Env → Own → Prop) (env : Env) (own : Own) : Prop :=
 match all[i]? with
 | some o=>(treeD S (D.at i) all o env own).wp fun x=>onSet nt env o.dst x.1 fun env'=>K env' (app own x.2)
 | none=>False
def runT (S : Pr) (nt : Nat) (D : DD) (all : List Oper) : List Nat → Env → Own → (Env → Own → Prop) → Prop
 | [],env,own,N=>N env own
 | i :: r,env,own,N=>stepT S nt D all i (fun e o=>runT S nt D all r e o N) env own
section
variable {S : Pr} {nt : Nat} {D : DD} {all : List Oper} {env : Env} {own : Own}
theorem onSet_mono {dst : Option Tmp} {sv : SV} {K K' : Env → Prop} (h : ∀ e,K e → K' e) (hk : onSet nt env dst sv K) : onSet nt env dst sv K':=by
 unfold onSet at *
 cases dst with
 | none=>exact h _ hk
 | some d =>
  simp only [SV.see_eq] at *
  split
  ·rename_i hb; rw [hb] at hk; exact h _ hk
  rename_i hb; rw [hb] at hk; exact hk.elim
theorem stepT_mono {i : Nat} {K K' : Env → Own → Prop} (h : ∀ e o,K e o → K' e o) (hk : stepT S nt D all i K env own) : stepT S nt D all i K' env own:=by
 unfold stepT at *
 split
 ·rename_i o ho
  rw [ho] at hk
  exact Out.wp_mono _ (fun x hx=>onSet_mono (fun e=>h e _) hx) hk
 rename_i ho; rw [ho] at hk; exact hk
theorem rebind_eq {t : Nat} {sv : SV} (ht : env t = some sv) : fset env t sv = env:=by
 funext n
 by_cases hn : n = t
 ·subst hn; rw [fset_same,ht]
 rw [fset_ne _ _ hn]
theorem guard_ask {o : Oper} {t : Nat} {b want : Bool} (hg : guardOf all env o = .ask t b want) : env t = some (boolSV b):=by
 unfold guardOf at hg
 split at hg
 ·cases hg
 split at hg
 ·split at hg
  ·split at hg
   ·rename_i hb
    simp only [Gd.ask.injEq] at hg
    obtain ⟨rfl,rfl,rfl⟩:=hg
    exact hb
   ·cases hg
   cases hg
  cases hg
 cases hg
theorem runD_T : ∀ (l : List Oper) {i : Nat} {env : Env} {own : Own} {N : Env → Own → Prop},(∀ k o,l[k]? = some o → all[i + k]? = some o) → runD S nt D all i l env own N → runT S nt D all (List.range' i l.length) env own N
 | [],i,env,own,N,_,h=>h
 | o :: r,i,env,own,N,ha,h=>by
  have hi : all[i]? = some o:=ha 0 o rfl
  have hr : ∀ k o',r[k]? = some o' → all[i + 1 + k]? = some o':=fun k o' hk=>by have:=ha (k + 1) o' (by simpa using hk); rwa [show i + (k + 1) = i + 1 + k by omega] at this
  simp only [List.length_cons,List.range'_succ,runT,stepT,hi,treeD]
  simp only [runD] at h
  split at h
  ·rename_i hg
   exact Out.wp_mono _ (fun x hx=>onSet_mono (fun e he=>by rw [appK_eq] at he; exact runD_T r hr he) hx) h
  ·rename_i hg
   exact onSet_mono (fun e he=>runD_T r hr he) h
  ·rename_i t b want hg
   have ht:=guard_ask hg
   have h1:=Ask.e h
   rw [rebind_eq ht] at h1
   split at h1
   ·rename_i hb
    simp only [hb,cond_true]
    exact Out.wp_mono _ (fun x hx=>onSet_mono (fun e he=>by rw [appK_eq] at he; exact runD_T r hr he) hx) h1
   rename_i hb
   simp only [hb,cond_false]
   exact onSet_mono (fun e he=>runD_T r hr he) h1
  exact h.elim
def Out.leaf {ρ : Type} (o : Out ρ) (p : ρ → Prop) : Prop:=∀ K : ρ → Prop,o.wp K → o.wp fun x=>p x ∧ K x
theorem leaf_ret {ρ : Type} {x : ρ} {p : ρ → Prop} (h : p x) : (Out.ret x).leaf p:=fun K hk=>⟨h,hk⟩
theorem leaf_fail {ρ : Type} {p : ρ → Prop} : (Out.fail : Out ρ).leaf p:=fun K hk=>hk
theorem leaf_bind {ρ σ : Type} {o : Out ρ} {f : ρ → Out σ} {p : σ → Prop} (h : ∀ x,(f x).leaf p) : (o.bind f).leaf p:=fun K hk=>by
 rw [Out.wp_bind] at hk ⊢
 exact Out.wp_mono _ (fun x hx=>h x K hx) hk
theorem leaf_cond {ρ : Type} {b : Bool} {x y : Out ρ} {p : ρ → Prop} (h1 : x.leaf p) (h2 : y.leaf p) : (bif b then x else y).leaf p:=by cases b <;> assumption
theorem zipB_mem : ∀ {ns : List Nat} {Bs : List Blk} {p : Nat × Blk},p ∈ zipB ns Bs → p.1 ∈ ns
 | [],_,p,h=>by cases ‹List Blk› <;> simp [zipB] at h
 | n :: ns,[],p,h=>by simp [zipB] at h
 | n :: ns,B :: Bs,p,h=>by
  simp only [zipB,List.mem_cons] at h
  rcases h with rfl | h
  ·exact List.mem_cons_self ..
  exact List.mem_cons_of_mem _ (zipB_mem h)
end
section
variable {S : Pr} {nt : Nat} {D : DC} {all : List Oper} {env : Env} {own : Own}
def EffOk (D : DC) (o : Oper) (e : Eff) : Prop :=
 match kindO o with
 | .v=>e = []
 | .n=>e = [] ∨ ∃ d B,o.dst = some d ∧ d ≤ 49999 ∧ D.own0 d = none ∧ e = [(d,B)]
 | .c=>(∀ p ∈ e,memN D.W p.1 = true ∧ D.own0 p.1 ≠ none) ∨ ∃ d B,o.dst = some d ∧ D.own0 (freshN d 0) = none ∧ e = [(freshN d 0,B)]
 | .s=>∀ p ∈ e,memN D.W p.1 = true
theorem effNil {o : Oper} : EffOk D o []:=by
 unfold EffOk
 split
 ·rfl
 ·exact .inl rfl
 ·exact .inl fun p hp=>by cases hp
 intro p hp; cases hp
theorem tree_leaf (o : Oper) : (treeD S D all o env own).leaf fun x=>EffOk D o x.2:=by
 have hv : ∀ env : Env,(valD S D o env own).leaf fun x=>EffOk D o x.2:=by
  intro env
  unfold valD
  split
  ·exact leaf_bind fun x=>leaf_ret effNil
  ·rename_i hk
   split
   ·rename_i d hd
    cases hle : d.ble 49999 with
    | false=>exact leaf_fail
    | true =>
     simp only [cond_true]
     split
     ·rename_i h0 _
      refine leaf_bind fun x=>leaf_ret ?_
      simp only [EffOk,hk]
      exact .inr ⟨d,x.2,hd,Nat.le_of_ble_eq_true hle,h0,rfl⟩
     exact leaf_fail
   exact leaf_fail
  ·rename_i hk
   unfold opKD
   split
   ·split
    ·split
     ·exact leaf_cond (leaf_bind fun x=>leaf_ret effNil) leaf_fail
     ·split
      ·unfold opKDf
       rw [forceN_eq]
       cases hb : ((lentN D.own0 _).all fun n=>memN D.W n && liveN D.own0 n) with
       | false=>simp only [Bool.false_and,cond_false]; exact leaf_fail
       | true =>
        refine leaf_cond ?_ leaf_fail
        split
        ·refine leaf_bind fun x=>?_
         obtain ⟨_,_,_⟩:=x
         simp only
         split
         ·refine leaf_cond (leaf_ret ?_) leaf_fail
          simp only [EffOk,hk]
          refine .inl fun p hp=>?_
          have:=List.all_eq_true.1 hb _ (zipB_mem hp)
          simp only [Bool.and_eq_true] at this
          refine ⟨this.1,fun hn=>?_⟩
          rw [liveN,hn] at this
          cases this.2
         ·cases hn : (noneN D.own0 own (freshN (o.dst.getD 0) 0)) with
          | false=>simp only [Bool.and_false,cond_false]; exact leaf_fail
          | true =>
           refine leaf_cond ?_ leaf_fail
           split
           ·rename_i d hd
            refine leaf_ret ?_
            simp only [EffOk,hk]
            rw [hd] at hn ⊢
            refine .inr ⟨d,_,rfl,?_,rfl⟩
            unfold noneN at hn
            simp only [Option.getD_some] at hn
            split at hn
            ·assumption
            cases hn
           exact leaf_fail
         exact leaf_fail
        exact leaf_fail
      exact leaf_fail
     exact leaf_fail
    exact leaf_fail
   exact leaf_fail
  rename_i hk
  split
  ·rename_i n hn
   cases hb : memN D.W n with
   | false=>exact leaf_fail
   | true =>
    refine leaf_bind fun x=>?_
    split
    ·refine leaf_ret ?_
     simp only [EffOk,hk]
     intro p hp
     simp only [List.mem_cons,List.not_mem_nil,or_false] at hp
     subst hp
     exact hb
    exact leaf_fail
  exact leaf_fail
 unfold treeD
 split
 ·exact hv _
 ·exact leaf_ret effNil
 ·exact leaf_cond (hv _) (leaf_ret effNil)
 exact leaf_fail
end
end Sx
namespace Sx
open Go
section
variable {S : Pr} {nt : Nat} {D Di Dj : DC} {ops : Array Oper} {env env' : Env} {own : Own}
theorem calleeF_congr {cal : Callee} (h : ∀ x,cal = .value x → ev env x = ev env' x) : calleeF env cal = calleeF env' cal:=by
 cases cal with
 | value x =>
  have:=h x rfl
  cases x with
  | func f=>rfl
  | _=>simp only [calleeF,evV_congr this]
 | _=>rfl
theorem valD_congr (o : Oper) (h : ∀ x ∈ o.op.operands,ev env x = ev env' x) : valD S D o env own = valD S D o env' own:=by
 unfold valD
 rw [opV_congr o h,opS_congr o h]
 simp only [opN_congr o h]
 have hs : storeN env o = storeN env' o:=by
  obtain ⟨dst,op,type,pos,after,guard⟩:=o
  cases op <;> simp only [storeN]
  case store t x y=>simp only [Op.operands] at h; simp only [evC_congr (h x (by simp))]
 have hk : opKD S D env own o = opKD S D env' own o:=by
  obtain ⟨dst,op,type,pos,after,guard⟩:=o
  cases op <;> simp only [opKD]
  case call c =>
   obtain ⟨cal,args,ts⟩:=c
   simp only [Op.operands,Call.operands] at h
   have h1 : calleeF env cal = calleeF env' cal:=calleeF_congr fun x hx=>h x (by subst hx; simp)
   have h2 : evs env args.toList = evs env' args.toList:=mapO_congr fun x hx=>evU_congr (h x (by simp at hx; simp [hx]))
   simp only [h1,h2]
 rw [hs,hk]
theorem guard_congr {o : Oper} (h : ∀ g w t,o.guard = some (g,w) → (ops[g]?).bind (·.dst) = some t → env t = env' t) : guardOf ops.toList env o = guardOf ops.toList env' o:=by
 unfold guardOf
 split
 ·rfl
 rename_i j w hg
 split
 ·rename_i oj hj
  split
  ·rename_i t ht
   have : env t = env' t:=h j w t hg (by have : ops[j]? = some oj:=(by simpa using hj); simp [this,ht])
   rw [this]
  rfl
 rfl
def setD (env : Env) : Option Tmp → SV → Env | none,_=>env | some d,sv=>fset env d sv
theorem ev_setD {x : Operand} {dst : Option Tmp} {sv : SV} (h : ∀ d,dst = some d → x ≠ .tmp d) : ev (setD env dst sv) x = ev env x:=by
 cases dst with
 | none=>rfl
 | some d =>
  cases x with
  | tmp t=>exact fset_ne _ _ fun e=>h d rfl (by rw [e])
  | _=>rfl
theorem tree_env {o : Oper} {dst : Option Tmp} {sv : SV} (h : ∀ d,dst = some d → d ∉ o.looksAt ops) : treeD S D ops.toList o (setD env dst sv) own = treeD S D ops.toList o env own:=by
 have h1 : ∀ x ∈ o.op.operands,ev (setD env dst sv) x = ev env x:=fun x hx=>ev_setD fun d hd hxd=>h d hd (by
  subst hxd
  exact List.mem_append_left _ (List.mem_filterMap.2 ⟨.tmp d,by simpa using hx,rfl⟩))
 have h2 : guardOf ops.toList (setD env dst sv) o = guardOf ops.toList env o:=guard_congr fun g w t hg ht=>by
  cases dst with
  | none=>rfl
  | some d=>exact fset_ne _ _ fun e=>h d rfl (by subst e; simp [Oper.looksAt,hg,ht])
 unfold treeD
 rw [h2,valD_congr o h1]
def swapK : Kd → Kd → Bool
 | .v,_=>true
 | _,.v=>true
 | .n,.c=>true
 | .c,.n=>true
 | .n,.n=>true
 | _,_=>false
theorem lentBs_fresh {d : Nat} {B : Blk} {ns : List Nat} (h : ∀ n ∈ ns,n ≠ d) : lentBs (fset own d B) ns = lentBs own ns :=
 mapO_congr fun n hn=>by rw [fset_ne _ _ (h n hn)]
theorem all_congr {α : Type} {p q : α → Bool} : ∀ {l : List α},(∀ x ∈ l,p x = q x) → l.all p = l.all q
 | [],_=>rfl
 | a :: l,h=>by simp only [List.all_cons,h a (List.mem_cons_self ..),all_congr fun x hx=>h x (List.mem_cons_of_mem _ hx)]
theorem lentOk_fresh {d : Nat} {B : Blk} {ns : List Nat} {us : List U} (h : ∀ n ∈ ns,n ≠ d) : lentOk (fset own d B) ns us = lentOk own ns us:=by
 unfold lentOk
 rw [all_congr (l:=ns) fun n hn=>by rw [fset_ne _ _ (h n hn)]]
theorem opKD_fresh {d : Nat} {B : Blk} {o : Oper} (h : D.own0 d = none) (hle : d ≤ 49999) : opKD S D env (fset own d B) o = opKD S D env own o:=by
 unfold opKD
 split
 ·split
  ·split
   ·rfl
   ·split
    ·unfold opKDf
     rw [forceN_eq,forceN_eq]
     cases hb : ((lentN D.own0 _).all fun n=>memN D.W n && liveN D.own0 n) with
     | false=>rfl
     | true =>
      have hne : ∀ n ∈ lentN D.own0 _,n ≠ d:=fun n hn e=>by
       have:=List.all_eq_true.1 hb n hn
       simp only [Bool.and_eq_true] at this
       rw [e,liveN,h] at this
       cases this.2
      have hno : noneN D.own0 (fset own d B) (freshN (o.dst.getD 0) 0) = noneN D.own0 own (freshN (o.dst.getD 0) 0):=by
       unfold noneN
       rw [fset_ne _ _ (by unfold freshN; omega)]
      rw [lentOk_fresh hne,lentBs_fresh hne,hno]
    rfl
   rfl
  rfl
 rfl
theorem tree_own {o oj : Oper} {e : Eff} (h00 : Dj.own0 = D.own0) (hs : swapK (kindO oj) (kindO o) = true) (he : EffOk Dj oj e) (hd : ∀ d,oj.dst = some d → o.dst ≠ some d) : treeD S D ops.toList o env (app own e) = treeD S D ops.toList o env own:=by
 have hv : valD S D o env (app own e) = valD S D o env own:=by
  unfold EffOk at he
  rw [h00] at he
  cases hj : kindO oj with
  | v=>rw [hj] at he; simp only at he; subst he; rfl
  | n =>
   rw [hj] at he
   simp only at he
   rcases he with rfl | ⟨d,B,h1,hle,h2,rfl⟩
   ·rfl
   cases ho : kindO o with
   | v=>unfold valD; rw [ho]
   | n =>
    unfold valD
    rw [ho]
    simp only
    split
    ·rename_i d' hd'
     have : d' ≠ d:=fun e=>hd d h1 (by rw [hd',e])
     simp only [app,fset_ne _ _ this]
    rfl
   | c=>unfold valD; rw [ho]; simp only [app,opKD_fresh h2 hle]
   | s=>rw [hj,ho] at hs; cases hs
  | c =>
   rw [hj] at he
   cases ho : kindO o with
   | v=>unfold valD; rw [ho]
   | n =>
    unfold valD
    rw [ho]
    simp only
    split
    ·rename_i d' hd'
     cases hle : d'.ble 49999 with
     | false=>rfl
     | true =>
     have hle:=Nat.le_of_ble_eq_true hle
     cases h0 : D.own0 d' with
     | some _=>rfl
     | none =>
      have : app own e d' = own d':=by
       simp only at he
       rcases he with he | ⟨d,B,_,_,rfl⟩
       case inr=>exact fset_ne _ _ (by unfold freshN; omega)
       have : ∀ (e : Eff) (own : Own),(∀ p ∈ e,p.1 ≠ d') → app own e d' = own d':=by
        intro e
        induction e with
        | nil=>intro own _; rfl
        | cons p e ih =>
         intro own hp
         obtain ⟨n,B⟩:=p
         rw [app,ih _ fun p hp'=>hp p (List.mem_cons_of_mem _ hp'),fset_ne _ _ (Ne.symm (hp (n,B) (List.mem_cons_self ..)))]
       exact this e own fun p hp e1=>(he p hp).2 (by rw [e1,h0])
      rw [this]
    rfl
   | c=>rw [hj,ho] at hs; cases hs
   | s=>rw [hj,ho] at hs; cases hs
  | s =>
   rw [hj] at hs
   cases ho : kindO o with
   | v=>unfold valD; rw [ho]
   | _=>rw [ho] at hs; cases hs
 unfold treeD
 rw [hv]
theorem app_comm {oj oi : Oper} {ej ei : Eff} (h00 : Dj.own0 = Di.own0) (hs : swapK (kindO oj) (kindO oi) = true) (hj : EffOk Dj oj ej) (hi : EffOk Di oi ei) (hd : ∀ d,oj.dst = some d → oi.dst ≠ some d) : app (app own ej) ei = app (app own ei) ej:=by
 have one : ∀ (e : Eff) (own : Own) (d : Nat) (B : Blk),(∀ p ∈ e,p.1 ≠ d) → app (fset own d B) e = fset (app own e) d B:=by
  intro e
  induction e with
  | nil=>intro own d B _; rfl
  | cons p e ih =>
   intro own d B hp
   obtain ⟨n,B'⟩:=p
   have hn : n ≠ d:=hp (n,B') (List.mem_cons_self ..)
   rw [app,app,← ih _ _ _ fun p hp'=>hp p (List.mem_cons_of_mem _ hp'),fset_comm _ _ _ (Ne.symm hn)]
 unfold EffOk at hj hi
 rw [h00] at hj
 cases kj : kindO oj with
 | v=>rw [kj] at hj; simp only at hj; subst hj; rfl
 | n =>
  rw [kj] at hj
  simp only at hj
  rcases hj with rfl | ⟨d,B,h1,hle,h2,rfl⟩
  ·rfl
  cases ki : kindO oi with
  | v=>rw [ki] at hi; simp only at hi; subst hi; rfl
  | n =>
   rw [ki] at hi
   simp only at hi
   rcases hi with rfl | ⟨d',B',h3,_,h4,rfl⟩
   ·rfl
   exact fset_comm _ _ _ fun e=>hd d h1 (by rw [h3,e])
  | c =>
   rw [ki] at hi
   rcases hi with hi | ⟨d',B',_,_,rfl⟩
   ·exact one ei own d B fun p hp e=>(hi p hp).2 (by rw [e,h2])
   exact fset_comm _ _ _ (Nat.ne_of_lt (Nat.lt_of_le_of_lt hle (show (49999 : Nat) < 100000 * (0 + 1) + d' from Nat.lt_of_lt_of_le (by decide) (Nat.le_add_right _ _))))
  | s=>rw [kj,ki] at hs; cases hs
 | c =>
  rw [kj] at hj
  cases ki : kindO oi with
  | v=>rw [ki] at hi; simp only at hi; subst hi; rfl
  | n =>
   rw [ki] at hi
   simp only at hi
   rcases hi with rfl | ⟨d',B',h3,hle,h4,rfl⟩
   ·rfl
   rcases hj with hj | ⟨d,B,_,_,rfl⟩
   ·exact (one ej own d' B' fun p hp e=>(hj p hp).2 (by rw [e,h4])).symm
   exact fset_comm _ _ _ (Nat.ne_of_gt (Nat.lt_of_le_of_lt hle (show (49999 : Nat) < 100000 * (0 + 1) + d from Nat.lt_of_lt_of_le (by decide) (Nat.le_add_right _ _))))
  | c=>rw [kj,ki] at hs; cases hs
  | s=>rw [kj,ki] at hs; cases hs
 | s =>
  rw [kj] at hs
  cases ki : kindO oi with
  | v=>rw [ki] at hi; simp only at hi; subst hi; rfl
  | _=>rw [ki] at hs; cases hs
theorem swapK_comm (a b : Kd) : swapK a b = swapK b a:=by cases a <;> cases b <;> rfl
theorem onSet_iff {dst : Option Tmp} {sv : SV} {K : Env → Prop} : onSet nt env dst sv K ↔ (∀ d,dst = some d → d + 1 ≤ nt) ∧ K (setD env dst sv):=by
 unfold onSet setD
 cases dst with
 | none=>simp
 | some d =>
  simp only [SV.see_eq]
  split
  ·rename_i hb
   have:=Nat.le_of_ble_eq_true hb
   exact ⟨fun h=>⟨fun d' e=>by obtain rfl:=Option.some.inj e; exact this,h⟩,fun h=>h.2⟩
  rename_i hb
  refine ⟨fun h=>h.elim,fun h=>?_⟩
  have:=Nat.ble_eq_true_of_le (h.1 d rfl)
  rw [hb] at this
  cases this
theorem setD_comm {dj di : Option Tmp} {x y : SV} (h : ∀ d,dj = some d → di ≠ some d) : setD (setD env dj x) di y = setD (setD env di y) dj x:=by
 cases dj with
 | none=>rfl
 | some a =>
  cases di with
  | none=>rfl
  | some b=>exact fset_comm _ _ _ fun e=>h a rfl (by rw [e])
def indepB (ops : Array Oper) (a b : Oper) : Bool:=swapK (kindO a) (kindO b) && a.apart ops b
end
section
variable {S : Pr} {nt : Nat} {D : DD} {ops : Array Oper} {env env' : Env} {own : Own}
theorem stepT_swap {i j : Nat} {oi oj : Oper} (hi : ops[i]? = some oi) (hj : ops[j]? = some oj) (hind : indepB ops oj oi = true) {K : Env → Own → Prop}
  (h : stepT S nt D ops.toList j (fun e w=>stepT S nt D ops.toList i K e w) env own) : stepT S nt D ops.toList i (fun e w=>stepT S nt D ops.toList j K e w) env own:=by
 simp only [indepB,Bool.and_eq_true] at hind
 obtain ⟨a1,a2,a3⟩:=Oper.apart_spec hind.2
 have gi : ops.toList[i]? = some oi:=by simpa using hi
 have gj : ops.toList[j]? = some oj:=by simpa using hj
 simp only [stepT,gi,gj,onSet_iff] at h ⊢
 have h1:=tree_leaf (S:=S) (D:=D.at j) (all:=ops.toList) (env:=env) (own:=own) oj _ h
 have h2 : (treeD S (D.at j) ops.toList oj env own).wp fun x=>(treeD S (D.at i) ops.toList oi env own).wp fun y=>EffOk (D.at j) oj x.2 ∧ EffOk (D.at i) oi y.2 ∧ (∀ d,oj.dst = some d → d + 1 ≤ nt) ∧ (∀ d,oi.dst = some d → d + 1 ≤ nt) ∧ K (setD (setD env oj.dst x.1) oi.dst y.1) (app (app own x.2) y.2):=by
  refine Out.wp_mono _ (fun x hx=>?_) h1
  obtain ⟨e1,e2,e3⟩:=hx
  rw [tree_env a1,tree_own (D:=D.at i) (Dj:=D.at j) rfl hind.1 e1 a2] at e3
  refine Out.wp_mono _ (fun y hy=>?_) (tree_leaf _ _ e3)
  exact ⟨e1,hy.1,e2,hy.2.1,hy.2.2⟩
 have h3:=Out.swap _ _ h2
 refine Out.wp_mono _ (fun y hy=>?_) (tree_leaf _ _ h3)
 obtain ⟨f1,f2⟩:=hy
 obtain ⟨_,g⟩:=Out.wp_some _ f2
 refine ⟨g.2.2.2.1,?_⟩
 rw [tree_env a3,tree_own (D:=D.at j) (Dj:=D.at i) rfl (by rw [swapK_comm]; exact hind.1) f1 fun d hd he=>a2 d he hd]
 refine Out.wp_mono _ (fun x hx=>⟨hx.2.2.1,?_⟩) f2
 rw [setD_comm fun d hd he=>a2 d he hd,app_comm (Dj:=D.at i) (Di:=D.at j) rfl (by rw [swapK_comm]; exact hind.1) f1 hx.1 fun d hd he=>a2 d he hd]
 exact hx.2.2.2.2
theorem runT_front {i : Nat} {oi : Oper} (hi : ops[i]? = some oi) {l2 : List Nat} {N : Env → Own → Prop} : ∀ {l1 : List Nat} {env : Env} {own : Own},(∀ j ∈ l1,∃ oj,ops[j]? = some oj ∧ indepB ops oj oi = true) →
  runT S nt D ops.toList (l1 ++ i :: l2) env own N → runT S nt D ops.toList (i :: (l1 ++ l2)) env own N
 | [],env,own,_,h=>h
 | j :: l1,env,own,hl,h=>by
  obtain ⟨oj,hj,hind⟩:=hl j (List.mem_cons_self ..)
  have h1 : stepT S nt D ops.toList j (fun e o=>runT S nt D ops.toList (i :: (l1 ++ l2)) e o N) env own :=
   stepT_mono (fun e o he=>runT_front hi (fun j hj=>hl j (List.mem_cons_of_mem _ hj)) he) h
  exact stepT_swap hi hj hind h1
end
end Sx
namespace Sx
open Go
section
variable {S : Pr} {E : Ctx} {β : Nat → Option Nat} {env : Env} {own : Own} {a : Act} {w : World} {D : DC}
theorem opS_leaf {o : Oper} : (opS S env own o).leaf fun own'=>∃ n B,storeN env o = some n ∧ own' = fset own n B:=by
 unfold opS
 split
 ·rename_i t x y ho
  split
  ·rename_i n off u sz h0 _ _
   split
   ·refine leaf_cond (by rw [seeL_eq]; exact leaf_ret ⟨n,_,by simp only [storeN,ho,h0],rfl⟩) leaf_fail
   exact leaf_fail
  ·rename_i n i off u sz h0 _ _
   split
   ·split
    ·split
     ·refine leaf_cond (leaf_ret ⟨n,_,?_,rfl⟩) leaf_fail
      simp only [storeN,ho,h0]
     exact leaf_fail
    ·split
     ·refine leaf_cond (leaf_ret ⟨n,_,?_,rfl⟩) leaf_fail
      simp only [storeN,ho,h0]
     exact leaf_fail
    exact leaf_fail
   exact leaf_fail
  exact leaf_fail
 exact leaf_fail
theorem DenC.live {T : Tab} {A : Nat → Prop} {c : C} {v : Value} (h : DenC T w β A own c v) {n : Nat} (hn : c.ref = some n) : own n ≠ none:=by
 cases c with
 | p m o=>obtain ⟨b,t,l,h1,_⟩:=h; obtain rfl:=Option.some.inj hn; simp [h1]
 | r m o=>obtain ⟨x,h1,_⟩:=h; obtain rfl:=Option.some.inj hn; simp [h1]
 | q m i o=>obtain ⟨t,x,b,h1,_⟩:=h; obtain rfl:=Option.some.inj hn; simp [h1]
 | m m o=>obtain ⟨l,b,h1,_⟩:=h; obtain rfl:=Option.some.inj hn; simp [h1]
 | _=>cases hn
theorem C.clean_id {live : Own} {c : C} (h : ∀ n,c.ref = some n → live n ≠ none) : c.clean live = c:=by
 unfold C.clean
 split
 ·rfl
 rename_i n hn
 have:=h n hn
 split
 ·rfl
 rename_i h0; exact absurd h0 this
theorem cells_clean_id {live : Own} : ∀ {l : List C},(∀ c ∈ l,∀ n,c.ref = some n → live n ≠ none) → l.map (C.clean live) = l
 | [],_=>rfl
 | c :: l,h=>by simp only [List.map_cons,C.clean_id (h c (List.mem_cons_self ..)),cells_clean_id fun c hc=>h c (List.mem_cons_of_mem _ hc)]
theorem all2_live {T : Tab} {A : Nat → Prop} : ∀ {l : List C} {vs : List Value},All2 (DenC T w β A own) l vs → ∀ c ∈ l,∀ n,c.ref = some n → own n ≠ none
 | [],_,_,c,hc=>by cases hc
 | x :: l,[],h,_,_=>h.elim
 | x :: l,v :: vs,h,c,hc=>by
  rcases List.mem_cons.1 hc with rfl | hc
  ·exact fun n hn=>h.1.live hn
  exact all2_live h.2 c hc
theorem U.clean_id {live : Own} {u : U} (h : ∀ c ∈ u.cells,∀ n,c.ref = some n → live n ≠ none) : u.clean live = u:=by
 cases u with
 | c x=>simp only [U.clean,C.clean_id (h x (by simp [U.cells]))]
 | a l=>exact congrArg U.a (cells_clean_id h)
theorem DenU.live {T : Tab} {A : Nat → Prop} {u : U} {v : Value} (h : DenU T w β A own u v) : ∀ c ∈ u.cells,∀ n,c.ref = some n → own n ≠ none:=by
 cases u with
 | c x=>intro c hc n hn; simp only [U.cells,List.mem_cons,List.not_mem_nil,or_false] at hc; subst hc; exact DenC.live h hn
 | a l=>obtain ⟨cs,_,e2⟩:=h; exact all2_live e2
theorem SV.clean_id {T : Tab} {A : Nat → Prop} {live : Own} {sv : SV} {v : Value} (h : DenS T w β A own sv v) (hl : ∀ n,own n ≠ none → live n ≠ none) : sv.clean live = sv:=by
 cases sv with
 | u x=>simp only [SV.clean,U.clean_id fun c hc n hn=>hl n (DenU.live h c hc n hn)]
 | t l =>
  obtain ⟨vs,_,e2⟩:=h
  have : ∀ {l : List U} {vs : List Value},All2 (DenU T w β A own) l vs → l.map (U.clean live) = l:=by
   intro l
   induction l with
   | nil=>intro vs _; rfl
   | cons u l ih =>
    intro vs e2
    cases vs with
    | nil=>exact e2.elim
    | cons v vs=>rw [List.map_cons,U.clean_id fun c hc n hn=>hl n (DenU.live e2.1 c hc n hn),ih e2.2]
  exact congrArg SV.t (this e2)
theorem mapO_id {l : List (Option Blk)} {Bs : List Blk} (h : mapO id l = some Bs) : l = Bs.map some:=by
 induction l generalizing Bs with
 | nil=>simp only [mapO,Option.some.injEq] at h; subst h; rfl
 | cons a l ih =>
  simp only [mapO,id] at h
  split at h
  ·rename_i b
   split at h
   ·rename_i l' hl'
    obtain rfl:=Option.some.inj h
    rw [ih hl',List.map_cons]
   cases h
  cases h
theorem app_zip : ∀ {ns : List Nat} {Bs : List Blk} {own : Own} {n : Nat},nodupN ns = true → ns.length = Bs.length → app own (zipB ns Bs) n = match posN ns n with | some i=>Bs[i]? | none=>own n
 | [],Bs,own,n,_,_=>by cases Bs <;> rfl
 | m :: ns,[],own,n,_,hl=>by simp at hl
 | m :: ns,B :: Bs,own,n,hd,hl=>by
  simp only [nodupN,Bool.and_eq_true,Bool.not_eq_true'] at hd
  rw [zipB,app,app_zip hd.2 (by simpa using hl)]
  simp only [posN]
  by_cases e : n = m
  ·subst e
   have : posN ns n = none:=by
    cases hp : posN ns n with
    | none=>rfl
    | some i=>have:=mem_of_pos hp; rw [this] at hd; cases hd.1
   simp only [this,beqs,cond_true,fset_same,List.getElem?_cons_zero]
  simp only [beqn e,cond_false]
  cases hp : posN ns n with
  | none=>simp only [fset_ne _ _ e]
  | some i=>simp only [List.getElem?_cons_succ]
theorem idxs_mem {k n : Nat} (h : memN (idxs k) n = true) : ∃ i,i < k ∧ n = 50000 + i:=by
 have : ∀ l : List Nat,memN l n = true → n ∈ l:=by
  intro l
  induction l with
  | nil=>intro h; cases h
  | cons a l ih =>
   intro h
   simp only [memN] at h
   cases hb : n.beq a with
   | true=>exact List.mem_cons.2 (.inl (Nat.eq_of_beq_eq_true hb))
   | false=>rw [hb] at h; exact List.mem_cons_of_mem _ (ih h)
 have:=this _ h
 simp only [idxs,List.mem_map,List.mem_range] at this
 obtain ⟨i,h1,h2⟩:=this
 exact ⟨i,h1,h2.symm⟩
theorem fset_read {own : Own} {n : Nat} {B B' : Blk} (h : fset own n B n = some B') : B = B':=by rw [fset_same] at h; exact Option.some.inj h
variable {G : Glob} (hT : TOk S.P S.tt) (hS : AllSound S G) (h : Rel E β env own a w) (hET : E.T = S.T) (hEG : E.G = G) (hlow : ∀ n,n < 50000 → E.own0 n = none) (hhi : ∀ n,100000 ≤ n → E.own0 n = none)
include h in
theorem rel_clean {own2 : Own} {β2 : Nat → Option Nat} {a' : Act} {w' : World} {e : Eff} {ns : List Nat} {Bs : List Blk} (he : own2 = app own (zipB ns Bs)) (hd : nodupN ns = true) (hl : ns.length = Bs.length) (hlive : ∀ n ∈ ns,own n ≠ none) (hB : ∀ B ∈ Bs,∀ t l,B = .cells t l → ∀ c ∈ l,∀ n,c.ref = some n → memN ns n = true) :
  envC env own2 = env ∧ ownC own2 own2 = own2:=by
 have mem : ∀ {n i},posN ns n = some i → n ∈ ns:=fun hp=>List.mem_of_getElem? (posN_get hp)
 have live : ∀ n,own n ≠ none → own2 n ≠ none:=by
  intro n hn
  rw [he,app_zip hd hl]
  split
  ·rename_i i hp
   have : i < Bs.length:=by rw [← hl]; exact (List.getElem?_eq_some_iff.1 (posN_get hp)).1
   simp [this]
  exact hn
 refine ⟨?_,?_⟩
 ·funext n
  unfold envC
  split
  ·rename_i sv hsv
   rw [hsv,SV.clean_id (h.vals n sv hsv) live]
  rename_i hsv; exact hsv.symm
 funext n
 unfold ownC
 split
 ·rename_i B hB2
  have hc : B.clean own2 = B:=by
   cases B with
   | cells t l =>
    have : ∀ c ∈ l,∀ m,c.ref = some m → own2 m ≠ none:=by
     have hB3:=hB2
     rw [he,app_zip hd hl] at hB3
     split at hB3
     ·rename_i i hp
      intro c hc m hm
      have:=hB _ (List.mem_of_getElem? hB3) t l rfl c hc m hm
      obtain ⟨k,hk⟩:=posN_mem this
      exact live m (hlive m (mem hk))
     obtain ⟨b,cs,_,_,h3⟩:=h.blks.blk n _ hB3
     exact fun c hc m hm=>live m (all2_live h3 c hc m hm)
    simp only [Blk.clean,cells_clean_id this]
   | row t x=>rfl
   | map t l=>rfl
  rw [hB2,hc]
 rename_i hB2; exact hB2.symm
include h in
theorem rel_clean1 {own2 : Own} {m : Nat} {t : TypeId} {y : Sx.D} (he : own2 = fset own m (.row t y)) : envC env own2 = env ∧ ownC own2 own2 = own2:=by
 have live : ∀ n,own n ≠ none → own2 n ≠ none:=by
  intro n hn
  rw [he]
  by_cases e : n = m
  ·subst e; rw [fset_same]; simp
  rw [fset_ne _ _ e]; exact hn
 refine ⟨?_,?_⟩
 ·funext n
  unfold envC
  split
  ·rename_i sv hsv
   rw [hsv,SV.clean_id (h.vals n sv hsv) live]
  rename_i hsv; exact hsv.symm
 funext n
 unfold ownC
 split
 ·rename_i B hB2
  have hc : B.clean own2 = B:=by
   cases B with
   | cells t l =>
    have : ∀ c ∈ l,∀ m,c.ref = some m → own2 m ≠ none:=by
     have hB3:=hB2
     rw [he] at hB3
     by_cases e : n = m
     ·subst e; rw [fset_same] at hB3; cases hB3
     rw [fset_ne _ _ e] at hB3
     obtain ⟨b,cs,_,_,h3⟩:=h.blks.blk n _ hB3
     exact fun c hc m hm=>live m (all2_live h3 c hc m hm)
    simp only [Blk.clean,cells_clean_id this]
   | row t x=>rfl
   | map t l=>rfl
  rw [hB2,hc]
 rename_i hB2; exact hB2.symm
theorem own3_one {own : Own} {d : Nat} {t : TypeId} {y : Sx.D} (hd : d < 100000) : own3 own [] d [] [.row t y] = fset own (freshN d 0) (.row t y):=by
 funext n
 unfold own3
 simp only [posN]
 by_cases e : n = freshN d 0
 ·subst e
  rw [unfresh_fresh hd,fset_same]
  rfl
 rw [fset_ne _ _ e]
 unfold unfresh
 split
 ·rename_i j hj
  cases hb : (Nat.ble 100000 n && (n % 100000).beq d) with
  | false=>rw [hb] at hj; cases hj
  | true =>
   rw [hb] at hj
   simp only [cond_true,Option.some.injEq] at hj
   simp only [Bool.and_eq_true] at hb
   have h1:=Nat.le_of_ble_eq_true hb.1
   have h2:=Nat.eq_of_beq_eq_true hb.2
   have : j ≠ 0:=by
    intro h0
    refine e ?_
    unfold freshN
    omega
   cases j with
   | zero=>exact absurd rfl this
   | succ j=>rfl
 rfl
include hT hS h hET hEG hlow hhi in
theorem valD_sound {o : Oper} {K : SV × Eff → Prop} (hs : ∀ n B,D.snap n = some B → own n = some B) (hk : (valD S D o env own).wp K) {next : Act → World → Prop} {Q : Exit → Act → World → Prop}
  (hn : ∀ sv e β' v w',K (sv,e) → Rel E β' env (app own e) a w' → DenS E.T w' β' (Av E.X β' (app own e)) (app own e) sv v → next (a.put o.dst v) w') : o.wp S.P a w next Q:=by
 unfold valD at hk
 split at hk
 ·rw [Out.wp_bind] at hk
  obtain ⟨sv,v,w',e1,e2,e3,e4⟩:=opV_sound hT h hs hET hk
  exact wp_of_value e2 (hn sv [] β v w' e1 (h.idle e3) e4)
 ·split at hk
  ·rename_i d hd
   obtain ⟨hb,hk1⟩:=wp_cond_fail hk
   have hb:=Nat.le_of_ble_eq_true hb
   split at hk1
   ·rename_i hown0 hown
    rw [Out.wp_bind] at hk1
    obtain ⟨c,B,v,w',β',e1,e2,e3,e4⟩:=opN_sound hT h hs hET hown (hlow d (by omega)) hk1
    exact wp_of_value e2 (hn _ [(d,B)] β' v w' e1 e3 e4)
   exact hk1.elim
  exact hk.elim
 ·unfold opKD at hk
  split at hk
  ·rename_i cal args ts ho
   split at hk
   ·rename_i f hf
    split at hk
    ·rename_i g us h1 h2
     obtain ⟨he,hsf⟩:=hS f _ h1
     have hrun:=enter_run (w:=w) he ho (callee_eval h hf)
     have hu:=evs_den h h2
     obtain ⟨hno,hk1⟩:=wp_cond_fail hk
     rw [Out.wp_bind] at hk1
     have st : Stay w (Av E.X β own) w (Av E.X β own):=⟨Nat.le_refl _,fun _ _ hb=>⟨rfl,hb⟩⟩
     have hu2:=denUs_free (β':=fun _=>none) (own':=fun _=>none) st hno hu
     have hold : ∀ b,Av E.X β own b → b < w.heap.size:=by
      rintro b (hx | ⟨n,h3,h4⟩)
      ·have:=h.xold b hx; have:=h.frame.size; omega
      exact (h.blks.loc n b h3 h4).1
     rw [hET] at hu2
     have hc:=hsf (fun r=>K (r,[])) us (Av E.X β own) w _ hk1 (by rw [← hEG]; exact h.glob) hold hu2
     have hargs : (args.map a.eval) = (args.toList.map a.eval).toArray:=by apply Array.ext'; simp
     unfold Oper.wp
     rw [hrun,Oper.upon_enter,hargs]
     refine hc.mono fun e w' ⟨r,v,e1,e2,e3,e4⟩=>?_
     subst e1
     have hR2:=h.idle e4
     refine hn r [] β v w' e2 hR2 ?_
     rw [← hET] at e3
     exact e3.anywhere ⟨Nat.le_refl _,fun _ _ hb=>⟨rfl,hb⟩⟩
    ·rename_i g us h1 h2
     obtain ⟨he,hsf⟩:=hS f _ h1
     have hrun:=enter_run (w:=w) he ho (callee_eval h hf)
     have hu:=evs_den h h2
     split at hk
     ·generalize lentN D.own0 us = ns at hk
      unfold opKDf at hk
      rw [forceN_eq] at hk
      obtain ⟨hb,hk1⟩:=wp_cond_fail hk
      simp only [Bool.and_eq_true] at hb
      split at hk1
      ·rename_i lent hl
       have hll : lent.length = ns.length:=mapO_len hl
       refine kf_sound hET hEG hhi hsf hrun h (by simpa using hu) (d:=o.dst.getD 0) (ns:=ns) (K:=fun x=>∃ e,K (x.1,e) ∧ x.2.1 = env ∧ x.2.2 = app own e) ?_ ?_
       ·unfold opKf
        rw [forceN_eq,hl]
        simp only [hb.1.2,hb.2,Bool.and_self,cond_true]
        rw [Out.wp_bind] at hk1 ⊢
        refine Out.wp_mono _ (fun x hx=>?_) hk1
        obtain ⟨r,outs,news⟩:=x
        simp only at hx
        split at hx
        ·rename_i Bs hBs
         obtain ⟨hb2,hk2⟩:=wp_cond_fail hx
         simp only [Bool.and_eq_true] at hb2
         have hlen:=Nat.eq_of_beq_eq_true hb2.1
         have ho:=mapO_id hBs
         have hnd : nodupN ns = true:=by have:=hb.1.2; simp only [lentOk,Bool.and_eq_true] at this; exact this.1.1.1
         have hns : ns.length ≤ 10000:=by have:=hb.1.2; simp only [lentOk,Bool.and_eq_true] at this; exact Nat.le_of_ble_eq_true this.2
         have hlive : ∀ n ∈ ns,own n ≠ none:=by
          intro n hn
          have:=hb.1.2
          simp only [lentOk,Bool.and_eq_true] at this
          have:=List.all_eq_true.1 this.1.2 n hn
          intro h0
          rw [h0] at this
          cases this
         subst ho
         have e3 : own3 own ns (o.dst.getD 0) (Bs.map some) [] = app own (zipB ns (Bs.map (Blk.ren (nameOut ns (o.dst.getD 0))))):=by
          funext n
          rw [app_zip hnd (by simp [hlen,hll])]
          cases hp : posN ns n with
          | some i =>
           simp only [own3,hp,outN,List.getElem?_map]
           cases hBi : Bs[i]? <;> simp
          | none =>
           simp only [own3,hp]
           split
           ·simp
           rfl
         have hBref : ∀ B ∈ Bs.map (Blk.ren (nameOut ns (o.dst.getD 0))),∀ t l,B = .cells t l → ∀ c ∈ l,∀ n,c.ref = some n → memN ns n = true:=by
          intro B hB t l e c hc n hn
          obtain ⟨B0,hB0,rfl⟩:=List.mem_map.1 hB
          have hok:=List.all_eq_true.1 hb2.2 B0 hB0
          cases B0 with
          | cells t0 l0 =>
           simp only [Blk.ren,Blk.cells.injEq] at e
           obtain ⟨_,rfl⟩:=e
           obtain ⟨c0,hc0,rfl⟩:=List.mem_map.1 hc
           have hok2:=List.all_eq_true.1 hok c0 hc0
           have hren : ∃ m,c0.ref = some m ∧ n = nameOut ns (o.dst.getD 0) m:=by
            cases c0 <;> simp only [C.ren,C.ref,Option.some.injEq] at hn <;> first | exact ⟨_,rfl,hn.symm⟩ | cases hn
           obtain ⟨m,hm,rfl⟩:=hren
           unfold okRef at hok2
           rw [hm] at hok2
           obtain ⟨i,hi,rfl⟩:=idxs_mem hok2
           have hi2 : i < ns.length:=by omega
           have : Nat.ble 60000 (50000 + i) = false:=by
            cases hq : Nat.ble 60000 (50000 + i) with
            | false=>rfl
            | true=>have:=Nat.le_of_ble_eq_true hq; omega
           unfold nameOut
           rw [this]
           simp only [cond_false,Nat.add_sub_cancel_left]
           refine memN_of_get (i:=i) ?_
           simp [hi2]
          | row _ _=>cases e
          | map _ _=>cases e
         obtain ⟨q1,q2⟩:=rel_clean h (own2:=own3 own ns (o.dst.getD 0) (Bs.map some) []) (β2:=β) (a':=a) (w':=w) (e:=[]) e3 hnd (by simp [hlen,hll]) hlive hBref
         simp only [List.length_nil,freeN,List.length_map,hlen,beqs,Bool.and_self,cond_true]
         exact ⟨_,hk2,q1,by rw [q2,e3]⟩
        ·rename_i t y ho
         obtain ⟨hb2,hk2⟩:=wp_cond_fail hx
         simp only [Bool.and_eq_true] at hb2
         have hl0:=Nat.eq_of_beq_eq_true hb2.1
         have hns0 : ns = []:=List.length_eq_zero_iff.1 (by omega)
         have ho:=mapO_id ho
         simp only [List.map_nil] at ho
         subst ho hns0
         have hdle:=Nat.le_of_ble_eq_true hb.2
         have hno : own (freshN (o.dst.getD 0) 0) = none:=by
          have:=hb2.2
          unfold noneN at this
          split at this
          ·assumption
          cases this
         split at hk2
         ·rename_i d hd
          rw [hd] at hk2 hno hdle ⊢
          simp only [Option.getD_some] at hk2 hno hdle ⊢
          have e3:=own3_one (own:=own) (d:=d) (t:=t) (y:=y) (by omega)
          obtain ⟨q1,q2⟩:=rel_clean1 h (own2:=own3 own [] d [] [.row t y]) e3
          simp only [List.length_cons,List.length_nil,Nat.zero_add,freeN,hno,hl0,beqs,Bool.and_self,cond_true]
          exact ⟨_,hk2,q1,by rw [q2,e3]; rfl⟩
         exact hk2.elim
        exact hx.elim
       rintro sv env' own' β' v w' ⟨e,k1,rfl,rfl⟩ k2 k3
       exact hn sv e β' v w' k1 k2 k3
      exact hk1.elim
     exact hk.elim
    exact hk.elim
   exact hk.elim
  exact hk.elim
 split at hk
 ·rename_i n hst
  obtain ⟨hb,hk1⟩:=wp_cond_fail hk
  rw [Out.wp_bind] at hk1
  obtain ⟨own',w',⟨⟨m,B,e0,e1⟩,e2⟩,e3,e4⟩:=opS_sound hT h hET (opS_leaf _ hk1)
  rw [hst] at e0
  obtain rfl:=Option.some.inj e0
  split at e2
  ·rename_i B' hB'
   rw [e1] at hB'
   obtain rfl:=fset_read hB'
   unfold Oper.wp
   rw [e3,Oper.upon_skip]
   rw [e1] at e4
   exact hn _ _ β undef w' e2 e4 ⟨[],rfl,trivial⟩
  exact e2.elim
 exact hk.elim
end
end Sx
