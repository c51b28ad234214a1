/- Part of the proof: a machine of states for walks, and contracts of functions over it. Conditions: those that each theorem names. -/
import Derived.Test.YtcjdbimojffggaaGreatDoorC8
set_option linter.unusedVariables false
set_option linter.unusedSimpArgs false
namespace Sx
open Go
def bindsO (o : Oper) : List Nat:=o.after.toList.filterMap fun e=>if Region.binds .any e then some e.on else none
def closeM (tbl : List Nat) : List Nat → Nat
 | []=>0
 | j :: l=>(1 <<< j) ||| (tbl.getD j 0 ||| closeM tbl l)
def bfs : List Oper → List Nat → List Nat
 | [],tbl=>tbl
 | o :: r,tbl=>bfs r (tbl ++ [closeM tbl (bindsO o)])
def subN (l m : List Nat) : Bool:=l.all (memN m)
def okEx (n : Nat) (tbl : List Nat) (W el : List (Nat × List Nat)) : Bool :=
 (List.range n).all fun i=>match lookT el i with
  | some ex=>W.all fun hw=>(tbl.getD hw.1 0).testBit i || subN hw.2 ex
  | none=>true
def okAt (ops : Array Oper) (tbl : List Nat) (i : Nat) : Bool:=match ops[i]? with
 | some o=>(bindsO o).all (fun j=>Nat.ble (j + 1) i) && (List.range i).all (fun j=>(tbl.getD i 0).testBit j || (match ops[j]? with | some oj=>indepB ops oj o | none=>false))
 | none=>false
def drawOk (ops : Array Oper) (W el : List (Nat × List Nat)) : Bool:=(List.range ops.size).all (okAt ops (bfs ops.toList [])) && okEx ops.size (bfs ops.toList []) W el
def frzL : List Nat → Env → Own → Option (Env × Own)
 | [],env,own=>some (env,own)
 | n :: r,env,own=>match own n with
  | some (.row _ x)=>frzL r (env.frz n x) (own.frz n x)
  | _=>none
def runOps (S : Pr) (nt : Nat) (all : List Oper) : List Oper → Env → Own → (Env → Own → Prop) → Prop
 | [],env,own,N=>N env own
 | o :: r,env,own,N=>match guardOf all env o with
  | .run=>(stepO S o env own).wp fun x=>match x with | (sv,e1,o1)=>onSet nt e1 o.dst sv fun env'=>runOps S nt all r env' o1 N
  | .skip=>onSet nt env o.dst (.t []) fun env'=>runOps S nt all r env' own N
  | .ask t b want=>Ask b fun c=>match (bif want then c else !c) with
   | true=>(stepO S o (fset env t (boolSV c)) own).wp fun x=>match x with | (sv,e1,o1)=>onSet nt e1 o.dst sv fun env'=>runOps S nt all r env' o1 N
   | false=>onSet nt (fset env t (boolSV c)) o.dst (.t []) fun env'=>runOps S nt all r env' own N
  | .bad=>False
def tailAt : List Nat → Option Nat × List Nat
 | n :: r=>match Nat.ble 200000 n with
  | true=>(some (n - 200000),r)
  | false=>(none,n :: r)
 | []=>(none,[])
def tailOk (ops : Array Oper) (tbl : List Nat) (k : Nat) : Bool:=Nat.ble k ops.size && (List.range ops.size).all fun i=>Nat.ble (i + 1) k || (List.range i).all fun j=>(tbl.getD i 0).testBit j
def drawOkT (ops : Array Oper) (W el : List (Nat × List Nat)) (fz : List Nat) : Bool:=drawOk ops W el && match (tailAt fz).1 with
 | none=>true
 | some k=>tailOk ops (bfs ops.toList []) k
def DrawVC (S : Pr) (nt : Nat) (ops : Array Oper) (env : Env) (own : Own) (N : Env → Own → Prop) : Prop :=
 S.P.follows .mixedOrders = true ∧ ∃ (W el : List (Nat × List Nat)) (fz : List Nat),drawOkT ops W el fz = true ∧ match tailAt fz with
  | (none,fz)=>match frzL fz env own with
   | some (env1,own1)=>runD S nt ⟨own1,W,el⟩ ops.toList 0 ops.toList env1 own1 N
   | none=>False
  | (some k,fz)=>match frzL fz env own with
   | some (env1,own1)=>runD S nt ⟨own1,W,el⟩ ops.toList 0 (ops.toList.take k) env1 own1 fun e o=>runOps S nt ops.toList (ops.toList.drop k) e o N
   | none=>False
def Down (ops : Array Oper) (L : Nat → Prop) : Prop:=∀ k o,ops[k]? = some o → L k → ∀ e ∈ bindsO o,L e
def Rch (ops : Array Oper) (o : Oper) (j : Nat) : Prop:=∀ L,Down ops L → (∀ e ∈ bindsO o,L e) → L j
theorem closeM_bit {tbl : List Nat} : ∀ {l : List Nat} {j : Nat},(closeM tbl l).testBit j = true → ∃ e ∈ l,j = e ∨ (tbl.getD e 0).testBit j = true
 | [],j,h=>by simp [closeM] at h
 | e :: l,j,h=>by
  simp only [closeM,Nat.testBit_or,Bool.or_eq_true] at h
  rcases h with h | h | h
  ·refine ⟨e,List.mem_cons_self ..,.inl ?_⟩
   rw [Nat.one_shiftLeft,Nat.testBit_two_pow] at h
   exact (of_decide_eq_true h).symm
  ·exact ⟨e,List.mem_cons_self ..,.inr h⟩
  obtain ⟨e',h1,h2⟩:=closeM_bit h
  exact ⟨e',List.mem_cons_of_mem _ h1,h2⟩
def GoodT (ops : Array Oper) (tbl : List Nat) : Prop:=∀ (i m : Nat) (o : Oper),tbl[i]? = some m → ops[i]? = some o → ∀ j,m.testBit j = true → Rch ops o j
theorem bfs_good {ops : Array Oper} : ∀ {r : List Oper} {tbl : List Nat},(∀ k o,r[k]? = some o → ops[tbl.length + k]? = some o) → (∀ k,k < tbl.length → ops[k]? ≠ none) → GoodT ops tbl → GoodT ops (bfs r tbl)
 | [],tbl,_,_,h=>h
 | o :: r,tbl,h1,h3,h=>by
  refine bfs_good (r:=r) (fun k o' hk=>?_) (fun k hk=>?_) ?_
  ·have:=h1 (k + 1) o' (by simpa using hk)
   simp only [List.length_append,List.length_cons,List.length_nil]
   rwa [show tbl.length + (k + 1) = tbl.length + (0 + 1) + k by omega] at this
  ·simp only [List.length_append,List.length_cons,List.length_nil] at hk
   by_cases e : k = tbl.length
   ·subst e
    have:=h1 0 o rfl
    simp only [Nat.add_zero] at this
    rw [this]
    simp
   exact h3 k (by omega)
  intro i m oi h4 h5 j hj
  by_cases hi : i < tbl.length
  ·rw [List.getElem?_append_left hi] at h4
   exact h i m oi h4 h5 j hj
  have hlen:=(List.getElem?_eq_some_iff.1 h4).1
  simp only [List.length_append,List.length_cons,List.length_nil] at hlen
  have e : i = tbl.length:=by omega
  subst e
  have hoi:=h1 0 o rfl
  simp only [Nat.add_zero] at hoi
  rw [h5] at hoi
  obtain rfl:=Option.some.inj hoi
  simp only [List.getElem?_concat_length,Option.some.injEq] at h4
  subst h4
  obtain ⟨e,he,hje⟩:=closeM_bit hj
  intro L hD hL
  rcases hje with rfl | hje
  ·exact hL j he
  cases hm : tbl[e]? with
  | none=>simp [List.getD,hm] at hje
  | some m' =>
   have hje' : m'.testBit j = true:=by simpa [List.getD,hm] using hje
   have hlt:=(List.getElem?_eq_some_iff.1 hm).1
   cases hoe : ops[e]? with
   | none=>exact absurd hoe (h3 e hlt)
   | some oe=>exact h e m' oe hm hoe j hje' L hD (hD e oe hoe (hL e he))
theorem lookT_mem {α : Type} : ∀ {l : List (Nat × α)} {n : Nat} {v : α},lookT l n = some v → (n,v) ∈ l
 | [],_,_,h=>by simp [lookT] at h
 | (k,u) :: l,n,v,h=>by
  simp only [lookT] at h
  cases hb : n.beq k with
  | true =>
   rw [hb] at h
   simp only [cond_true,Option.some.injEq] at h
   rw [Nat.eq_of_beq_eq_true hb,h]
   exact List.mem_cons_self ..
  | false =>
   rw [hb] at h
   exact List.mem_cons_of_mem _ (lookT_mem h)
theorem memN_mem {l : List Nat} {n : Nat} : memN l n = true ↔ n ∈ l:=by
 induction l with
 | nil=>simp [memN]
 | cons a l ih =>
  simp only [memN,List.mem_cons]
  cases hb : n.beq a with
  | true=>simp [Nat.eq_of_beq_eq_true hb]
  | false =>
   simp only [cond_false]
   constructor
   ·exact fun h=>.inr (ih.1 h)
   rintro (h | h)
   ·subst h; simp at hb
   exact ih.2 h
def remL (n : Nat) (listed : Array Bool) : List Nat:=(List.range n).filter fun i=>!listed.getD i true
theorem remL_split {n i : Nat} {listed : Array Bool} (hn : n ≤ listed.size) (hi : i < n) (hu : listed.getD i true = false) :
  ∃ l1 l2,remL n listed = l1 ++ i :: l2 ∧ remL n (listed.setIfInBounds i true) = l1 ++ l2 ∧ (∀ j ∈ l1,j < i ∧ listed.getD j true = false):=by
 have hr : List.range n = List.range i ++ i :: List.range' (i + 1) (n - i - 1):=by
  rw [show n = i + ((n - i - 1) + 1) by omega,List.range_eq_range',List.range_eq_range',← List.range'_append_1,List.range'_succ]
  simp
 have hset : ∀ j,j ≠ i → (listed.setIfInBounds i true).getD j true = listed.getD j true:=by
  intro j hj
  simp only [Array.getD_eq_getD_getElem?,Array.getElem?_setIfInBounds_ne (Ne.symm hj)]
 have hsi : (listed.setIfInBounds i true).getD i true = true:=by
  have : i < listed.size:=by omega
  simp [this]
 refine ⟨(List.range i).filter fun j=>!listed.getD j true,(List.range' (i + 1) (n - i - 1)).filter fun j=>!listed.getD j true,?_,?_,?_⟩
 ·unfold remL
  rw [hr,List.filter_append,List.filter_cons]
  simp only [hu,Bool.not_false,if_true]
 ·unfold remL
  rw [hr,List.filter_append,List.filter_cons]
  simp only [hsi,Bool.not_true,Bool.false_eq_true,if_false]
  rw [List.filter_congr fun j hj=>by rw [hset j (by have:=List.mem_range.1 hj; omega)],List.filter_congr (l:=List.range' _ _) fun j hj=>by rw [hset j (by have:=(List.mem_range'_1.1 hj).1; omega)]]
 intro j hj
 simp only [List.mem_filter,List.mem_range,Bool.not_eq_true'] at hj
 exact hj
theorem mem_ready {ops : Array Oper} {listed : Array Bool} {i : Nat} : i ∈ Region.ready .any ops listed ↔ i < ops.size ∧ listed.getD i true = false ∧ ∃ o,ops[i]? = some o ∧ ∀ e ∈ bindsO o,listed.getD e false = true:=by
 unfold Region.ready
 simp only [List.mem_filter,List.mem_range,Bool.and_eq_true,Bool.not_eq_true']
 refine and_congr_right fun hi=>and_congr_right fun hu=>?_
 have ho : ops[i]? = some ops[i]:=by simp [hi]
 rw [ho]
 simp only [Option.map_some,Option.getD_some,Array.all_eq_true',Option.some.injEq,exists_eq_left',bindsO,List.mem_filterMap]
 constructor
 ·rintro h e ⟨ed,h1,h2⟩
  have:=h ed (by simpa using h1)
  split at h2
  ·rename_i hb
   obtain rfl:=Option.some.inj h2
   simpa [hb] using this
  cases h2
 intro h ed hed
 cases hb : Region.binds .any ed with
 | false=>simp
 | true=>simpa [hb] using h ed.on ⟨ed,by simpa using hed,by simp [hb]⟩
section
variable {S : Pr} {E : Ctx} {D : DD} {ops : Array Oper}
variable {G : Glob} (hT : TOk S.P S.tt) (hS : AllSound S G) (hET : E.T = S.T) (hEG : E.G = G) (hlow : ∀ n,n < 50000 → E.own0 n = none) (hhi : ∀ n,100000 ≤ n → E.own0 n = none)
theorem app_ne {own : Own} : ∀ {e : Eff} {own : Own} {n : Nat},(∀ p ∈ e,p.1 ≠ n) → app own e n = own n
 | [],_,_,_=>rfl
 | (m,B) :: e,own,n,h=>by
  rw [app,app_ne (own:=own) fun p hp=>h p (List.mem_cons_of_mem _ hp),fset_ne _ _ (Ne.symm (h (m,B) (List.mem_cons_self ..)))]
include hT hS hET hEG hlow hhi in
theorem step_op {β : Nat → Option Nat} {env : Env} {own : Own} {a : Act} {w : World} (h : Rel E β env own a w) {i : Nat} {o : Oper} (ho : ops[i]? = some o) (hs : ∀ n B,(D.at i).snap n = some B → own n = some B) {K : Env → Own → Prop} (hk : stepT S E.nt D ops.toList i K env own) {next : Act → World → Prop} {Q : Exit → Act → World → Prop}
  (hn : ∀ env' e β' a' w',EffOk (D.at i) o e → K env' (app own e) → Rel E β' env' (app own e) a' w' → next a' w') : wpOp S.P ops Q i next a w:=by
 have ho' : ops.toList[i]? = some o:=by simpa using ho
 unfold wpOp
 rw [ho]
 simp only
 simp only [stepT,ho'] at hk
 have hk:=tree_leaf _ _ hk
 unfold treeD at hk
 have doit : (valD S (D.at i) o env own).wp (fun x=>EffOk (D.at i) o x.2 ∧ onSet E.nt env o.dst x.1 fun env'=>K env' (app own x.2)) → o.wp S.P a w next Q:=by
  intro hk
  refine valD_sound hT hS h hET hEG hlow hhi hs hk fun sv e β' v w' k1 k2 k3=>?_
  obtain ⟨env2,q1,q2⟩:=onSet_rel k2 k1.2 k3
  exact hn env2 e β' _ w' k1.1 q1 q2
 have skip : (EffOk (D.at i) o [] ∧ onSet E.nt env o.dst (.t []) fun env'=>K env' own) → next (a.put o.dst undef) w:=by
  intro hk
  obtain ⟨env2,q1,q2⟩:=onSet_rel h hk.2 den_undef
  exact hn env2 [] β _ w hk.1 q1 q2
 split at hk
 ·rename_i hg
  rw [if_pos (wanted_run hg)]
  exact .inl (doit hk)
 ·rename_i hg
  rw [if_neg (by rw [wanted_skip h hg]; simp)]
  exact skip hk
 ·rename_i t b want hg
  obtain ⟨hw,ht⟩:=wanted_ask h hg
  cases hb : (bif want then b else !b) with
  | true =>
   rw [if_pos (by rw [hw]; exact hb)]
   rw [hb] at hk
   exact .inl (doit hk)
  | false =>
   rw [if_neg (by rw [hw,hb]; simp)]
   rw [hb] at hk
   exact skip hk
 exact hk.elim
include hT hS hET hEG hlow hhi in
theorem draw_anyF (hok : drawOk ops D.W D.el = true) {kk : Nat} (hkk : kk ≤ ops.size) {F : Nat → Prop} (htl : ∀ i,kk ≤ i → i < ops.size → ∀ j,j < i → F j ∨ ((bfs ops.toList []).getD i 0).testBit j = true) {N : Env → Own → Prop} {Q : Exit → Act → World → Prop} (hQ : ∀ fuel (listed : Array Bool) env own β a w,listed.size = ops.size → (∀ j,j < kk → listed.getD j false = true) → (∀ j,kk ≤ j → j < ops.size → listed.getD j true = false) → ops.size - kk ≤ fuel → N env own → Rel E β env own a w → wpAny S.P .any ops Q fuel listed a w) : ∀ (fuel : Nat) {listed : Array Bool} {β : Nat → Option Nat} {env : Env} {own : Own} {a : Act} {w : World},
  listed.size = ops.size → (∀ j,F j → listed.getD j false = true) → Down ops (fun i=>listed.getD i false = true) → (∀ i,i < ops.size → listed.getD i true = false → ∀ n,D.own0 n ≠ none → memN (D.at i).ex n = false → own n = D.own0 n) →
  (∀ j,kk ≤ j → j < ops.size → listed.getD j true = false) → (remL kk listed).length + (ops.size - kk) ≤ fuel → Rel E β env own a w → runT S E.nt D ops.toList (remL kk listed) env own N → wpAny S.P .any ops Q fuel listed a w:=by
 simp only [drawOk,Bool.and_eq_true] at hok
 have good : GoodT ops (bfs ops.toList []):=bfs_good (fun k o hk=>by simpa using hk) (fun k hk=>by simp at hk) (fun i m o h=>by simp at h)
 have okI : ∀ i,i < ops.size → okAt ops (bfs ops.toList []) i = true:=fun i hi=>List.all_eq_true.1 hok.1 i (List.mem_range.2 hi)
 have gD : ∀ (listed : Array Bool) j,listed.size = ops.size → j < ops.size → listed.getD j true = listed.getD j false:=by
  intro listed j hs hj
  have : j < listed.size:=by omega
  simp [this]
 have rch : ∀ (listed : Array Bool),Down ops (fun i=>listed.getD i false = true) → ∀ i o,ops[i]? = some o → (∀ e ∈ bindsO o,listed.getD e false = true) → ∀ j,((bfs ops.toList []).getD i 0).testBit j = true → listed.getD j false = true:=by
  intro listed hD i o ho hb j hj
  cases hm : (bfs ops.toList [])[i]? with
  | none=>simp [List.getD,hm] at hj
  | some m=>exact good i m o hm ho j (by simpa [List.getD,hm] using hj) _ hD hb
 -- as long as something is left,something is ready
 have some_ready : ∀ (listed : Array Bool),listed.size = ops.size → ∀ i,i < ops.size → listed.getD i true = false → (∀ j,j < i → listed.getD j false = true) → i ∈ Region.ready .any ops listed:=by
  intro listed hs i hi hu hlt
  have ho : ops[i]? = some ops[i]:=by simp [hi]
  refine mem_ready.2 ⟨hi,hu,ops[i],ho,fun e he=>hlt e ?_⟩
  have:=okI i hi
  simp only [okAt,ho,Bool.and_eq_true] at this
  have:=List.all_eq_true.1 this.1 e he
  exact Nat.le_of_ble_eq_true this
 have all_of_nil : ∀ (listed : Array Bool),listed.size = ops.size → remL kk listed = [] → ∀ j,j < kk → listed.getD j false = true:=by
  intro listed hs hr j hj
  unfold remL at hr
  rw [List.filter_eq_nil_iff] at hr
  have:=hr j (List.mem_range.2 hj)
  rw [gD listed j hs (by omega)] at this
  simpa using this
 have nil_of_all : ∀ (listed : Array Bool),listed.size = ops.size → (∀ j,j < kk → listed.getD j false = true) → remL kk listed = []:=by
  intro listed hs hr
  unfold remL
  rw [List.filter_eq_nil_iff]
  intro j hj
  have hj:=List.mem_range.1 hj
  rw [gD listed j hs (by omega),hr j hj]
  simp
 intro fuel
 induction fuel with
 | zero =>
  intro listed β env own a w hs hF hD ha htu hlen hR hrun
  have hnil : remL kk listed = []:=List.length_eq_zero_iff.1 (by omega)
  rw [hnil] at hrun
  exact hQ 0 listed _ _ _ _ _ hs (all_of_nil listed hs hnil) htu (by omega) hrun hR
 | succ fuel ih =>
  intro listed β env own a w hs hF hD ha htu hlen hR hrun
  by_cases hnil : remL kk listed = []
  ·rw [hnil] at hrun
   exact hQ (fuel + 1) listed _ _ _ _ _ hs (all_of_nil listed hs hnil) htu (by rw [hnil] at hlen; simpa using hlen) hrun hR
  have below : ∀ i,i ∈ Region.ready .any ops listed → i < kk:=by
   intro i hi
   obtain ⟨hlt,hu,o,ho,hb⟩:=mem_ready.1 hi
   by_cases c : i < kk
   ·exact c
   exact absurd (nil_of_all listed hs fun j hj=>(htl i (by omega) hlt j (by omega)).elim (hF j) (rch listed hD i o ho hb j)) hnil
  refine ⟨fun hr=>?_,fun i hi=>?_⟩
  ·refine absurd (nil_of_all listed hs ?_) hnil
   intro i
   induction i using Nat.strongRecOn with
   | _ i ih =>
    intro hi
    cases hq : listed.getD i false with
    | true=>rfl
    | false =>
     have:=some_ready listed hs i (by omega) (by rw [gD listed i hs (by omega)]; exact hq) fun j hj=>ih j hj (by omega)
     rw [hr] at this
     cases this
  obtain ⟨hlt,hu,o,ho,hb⟩:=mem_ready.1 hi
  have hkl:=below i hi
  obtain ⟨l1,l2,e1,e2,e3⟩:=remL_split (n:=kk) (by omega) hkl hu
  have hoki:=okI i hlt
  simp only [okAt,ho,Bool.and_eq_true] at hoki
  rw [e1] at hrun
  have hfront:=runT_front ho (l2:=l2) (l1:=l1) (fun j hj=>by
   obtain ⟨h1,h2⟩:=e3 j hj
   have h3:=List.all_eq_true.1 hoki.2 j (List.mem_range.2 h1)
   simp only [Bool.or_eq_true] at h3
   rcases h3 with h3 | h3
   ·have:=rch listed hD i o ho hb j h3
    rw [← gD listed j hs (by omega),h2] at this
    cases this
   split at h3
   ·rename_i oj hj'
    exact ⟨oj,hj',h3⟩
   cases h3) hrun
  have hsnap : ∀ n B,(D.at i).snap n = some B → own n = some B:=by
   intro n B hB
   simp only [DC.snap] at hB
   cases hw : memN (D.at i).ex n with
   | true=>rw [hw] at hB; cases hB
   | false =>
    rw [hw] at hB
    simp only [cond_false] at hB
    have hB : D.own0 n = some B:=hB
    rw [ha i hlt hu n (by simp [hB]) hw]
    exact hB
  refine step_op hT hS hET hEG hlow hhi hR ho hsnap hfront fun env' e β' a' w' q1 q2 q3=>?_
  have hs' : (listed.setIfInBounds i true).size = ops.size:=by simpa using hs
  have gset : ∀ j,(listed.setIfInBounds i true).getD j false = true ↔ j = i ∨ listed.getD j false = true:=by
   intro j
   by_cases e : j = i
   ·subst e
    have : j < listed.size:=by omega
    simp [this]
   simp only [e,false_or,Array.getD_eq_getD_getElem?,Array.getElem?_setIfInBounds_ne (Ne.symm e)]
  refine ih hs' (fun j hj=>(gset j).2 (.inr (hF j hj))) ?_ ?_ ?_ ?_ q3 ?_
  ·intro k ok hk hL e he
   rcases (gset k).1 hL with rfl | hL
   ·rw [ho] at hk
    obtain rfl:=Option.some.inj hk
    exact (gset e).2 (.inr (hb e he))
   exact (gset e).2 (.inr (hD k ok hk hL e he))
  ·intro j hj huj n h0 hw
   have hne : j ≠ i:=by
    rintro rfl
    have:=(gset j).2 (.inl rfl)
    rw [← gD _ j hs' hj,huj] at this
    cases this
   have huj' : listed.getD j true = false:=by
    simpa only [Array.getD_eq_getD_getElem?,Array.getElem?_setIfInBounds_ne (Ne.symm hne)] using huj
   rw [app_ne (own:=own) (fun p hp=>?_),ha j hj huj' n h0 hw]
   intro hpn
   unfold EffOk at q1
   split at q1
   ·subst q1; cases hp
   ·rcases q1 with rfl | ⟨d,B,_,_,r2,rfl⟩
    ·cases hp
    simp only [List.mem_cons,List.not_mem_nil,or_false] at hp
    subst hp
    exact h0 (by rw [← hpn]; exact r2)
   all_goals
    have hin : memN (D.at i).W p.1 = true:=by
     first
      | exact q1 p hp
      | (rcases q1 with q1 | ⟨d,B,_,r2,rfl⟩; exact (q1 p hp).1; simp only [List.mem_cons,List.not_mem_nil,or_false] at hp; subst hp; exact absurd (by rw [← hpn]; exact r2) h0)
    rw [hpn] at hin
    -- what this one touches is kept from the other
    have hWi : ∃ ws,lookT D.W i = some ws ∧ memN ws n = true:=by
     simp only [DD.at] at hin
     cases hl : lookT D.W i with
     | none=>rw [hl] at hin; cases hin
     | some ws=>rw [hl] at hin; exact ⟨ws,rfl,hin⟩
    obtain ⟨ws,hl,hm⟩:=hWi
    have hmem:=lookT_mem hl
    simp only [DD.at] at hw
    cases hx : lookT D.el j with
    | none =>
     rw [hx] at hw
     simp only [Option.getD_none] at hw
     have : memN (D.W.flatMap (·.2)) n = true:=memN_mem.2 (List.mem_flatMap.2 ⟨_,hmem,memN_mem.1 hm⟩)
     rw [hw] at this
     cases this
    | some ex =>
     rw [hx] at hw
     simp only [Option.getD_some] at hw
     have:=List.all_eq_true.1 hok.2 j (List.mem_range.2 hj)
     rw [hx] at this
     have:=List.all_eq_true.1 this _ hmem
     simp only [Bool.or_eq_true] at this
     rcases this with hbit | hsub
     ·have:=rch listed hD i o ho hb j hbit
      rw [← gD listed j hs hj,huj'] at this
      cases this
     have:=List.all_eq_true.1 hsub n (memN_mem.1 hm)
     rw [hw] at this
     cases this
  ·intro j hj hjs
   simp only [Array.getD_eq_getD_getElem?,Array.getElem?_setIfInBounds_ne (show i ≠ j by omega)]
   simpa using htu j hj hjs
  ·rw [e2]
   rw [e1] at hlen
   simp only [List.length_append,List.length_cons] at hlen ⊢
   omega
  rw [e2]; exact q2
include hT hS hET hEG hlow hhi in
theorem draw_any (hok : drawOk ops D.W D.el = true) {kk : Nat} (hkk : kk ≤ ops.size) (htl : ∀ i,kk ≤ i → i < ops.size → ∀ j,j < i → ((bfs ops.toList []).getD i 0).testBit j = true) {N : Env → Own → Prop} {Q : Exit → Act → World → Prop} (hQ : ∀ fuel (listed : Array Bool) env own β a w,listed.size = ops.size → (∀ j,j < kk → listed.getD j false = true) → (∀ j,kk ≤ j → j < ops.size → listed.getD j true = false) → ops.size - kk ≤ fuel → N env own → Rel E β env own a w → wpAny S.P .any ops Q fuel listed a w) : ∀ (fuel : Nat) {listed : Array Bool} {β : Nat → Option Nat} {env : Env} {own : Own} {a : Act} {w : World},
  listed.size = ops.size → Down ops (fun i=>listed.getD i false = true) → (∀ i,i < ops.size → listed.getD i true = false → ∀ n,D.own0 n ≠ none → memN (D.at i).ex n = false → own n = D.own0 n) →
  (∀ j,kk ≤ j → j < ops.size → listed.getD j true = false) → (remL kk listed).length + (ops.size - kk) ≤ fuel → Rel E β env own a w → runT S E.nt D ops.toList (remL kk listed) env own N → wpAny S.P .any ops Q fuel listed a w :=
 fun fuel _ _ _ _ _ _ hs hD ha htu hl hR hr=>draw_anyF hT hS hET hEG hlow hhi hok hkk (F:=fun _=>False) (fun i h1 h2 j h3=>.inr (htl i h1 h2 j h3)) hQ fuel hs (fun _ h=>h.elim) hD ha htu hl hR hr
theorem frzL_rel : ∀ {l : List Nat} {β : Nat → Option Nat} {env : Env} {own : Own} {env1 : Env} {own1 : Own} {a : Act} {w : World},Rel E β env own a w → frzL l env own = some (env1,own1) → Rel E β env1 own1 a w
 | [],β,env,own,env1,own1,a,w,h,hf=>by
  simp only [frzL,Option.some.injEq,Prod.mk.injEq] at hf
  obtain ⟨rfl,rfl⟩:=hf
  exact h
 | n :: l,β,env,own,env1,own1,a,w,h,hf=>by
  simp only [frzL] at hf
  split at hf
  ·rename_i hn
   exact frzL_rel (h.frz hn) hf
  cases hf
include hT hS hET hEG hlow hhi in
theorem step_seq {Q : Exit → Act → World → Prop} {i : Nat} {o : Oper} {r : List Oper} (ho : ops[i]? = some o) {β : Nat → Option Nat} {env : Env} {own : Own} {a : Act} {w : World} {N : Env → Own → Prop} (h : Rel E β env own a w) (hk : runOps S E.nt ops.toList (o :: r) env own N) {next : Act → World → Prop}
  (hn : ∀ env own β a w,runOps S E.nt ops.toList r env own N → Rel E β env own a w → next a w) : wpOp S.P ops Q i next a w:=by
 simp only [runOps] at hk
 have doit : ∀ {env : Env},Rel E β env own a w → ((stepO S o env own).wp fun x=>match x with | (sv,e1,o1)=>onSet E.nt e1 o.dst sv fun env'=>runOps S E.nt ops.toList r env' o1 N) → o.wp S.P a w next Q:=by
  intro env h hk
  refine stepO_sound hT hS h hET hEG hlow hhi hk fun sv env' own' β' v w' e1 e2 e3=>?_
  obtain ⟨env2,k1,k2⟩:=onSet_rel e2 e1 e3
  exact hn _ _ _ _ _ k1 k2
 have skip : ∀ {env : Env},Rel E β env own a w → (onSet E.nt env o.dst (.t []) fun env'=>runOps S E.nt ops.toList r env' own N) → next (a.put o.dst undef) w:=by
  intro env h hk
  obtain ⟨env2,k1,k2⟩:=onSet_rel h hk den_undef
  exact hn _ _ _ _ _ k1 k2
 unfold wpOp
 rw [ho]
 simp only
 split at hk
 ·rename_i hg
  rw [if_pos (wanted_run hg)]
  exact .inl (doit h hk)
 ·rename_i hg
  rw [if_neg (by rw [wanted_skip h hg]; simp)]
  exact skip h hk
 ·rename_i t b want hg
  obtain ⟨hw,ht⟩:=wanted_ask h hg
  have hk1:=Ask.e hk
  split at hk1
  ·rename_i hb
   rw [if_pos (by rw [hw]; exact hb)]
   exact .inl (doit (h.rebind ht) hk1)
  rename_i hb
  rw [if_neg (by rw [hw,hb]; simp)]
  exact skip (h.rebind ht) hk1
 exact hk.elim
include hT hS hET hEG hlow hhi in
theorem tail_anyF (hok : drawOk ops D.W D.el = true) {kk : Nat} {F : Nat → Prop} (htl : ∀ i,kk ≤ i → i < ops.size → ∀ j,j < i → F j ∨ ((bfs ops.toList []).getD i 0).testBit j = true) (hFk : ∀ j,kk ≤ j → ¬ F j) {N : Env → Own → Prop} {Q : Exit → Act → World → Prop} (hQ : ∀ env own β a w,N env own → Rel E β env own a w → Q .normal a w) : ∀ (fuel m : Nat) {listed : Array Bool} {β : Nat → Option Nat} {env : Env} {own : Own} {a : Act} {w : World},
  listed.size = ops.size → kk ≤ m → m ≤ ops.size → (∀ j,j < m → listed.getD j false = true) → (∀ j,m ≤ j → j < ops.size → listed.getD j true = false) → ops.size - m ≤ fuel → Rel E β env own a w → runOps S E.nt ops.toList (ops.toList.drop m) env own N → wpAny S.P .any ops Q fuel listed a w:=by
 simp only [drawOk,Bool.and_eq_true] at hok
 have good : GoodT ops (bfs ops.toList []):=bfs_good (fun k o hk=>by simpa using hk) (fun k hk=>by simp at hk) (fun i m o h=>by simp at h)
 have okI : ∀ i,i < ops.size → okAt ops (bfs ops.toList []) i = true:=fun i hi=>List.all_eq_true.1 hok.1 i (List.mem_range.2 hi)
 have gD : ∀ (listed : Array Bool) j,listed.size = ops.size → j < ops.size → listed.getD j true = listed.getD j false:=by
  intro listed j hs hj
  have : j < listed.size:=by omega
  simp [this]
 have binds_lt : ∀ i o,ops[i]? = some o → i < ops.size → ∀ e ∈ bindsO o,e < i:=by
  intro i o ho hi e he
  have:=okI i hi
  simp only [okAt,ho,Bool.and_eq_true] at this
  exact Nat.le_of_ble_eq_true (List.all_eq_true.1 this.1 e he)
 have isM : ∀ m (listed : Array Bool),listed.size = ops.size → kk ≤ m → (∀ j,j < m → listed.getD j false = true) → (∀ j,m ≤ j → j < ops.size → listed.getD j true = false) → ∀ i,i ∈ Region.ready .any ops listed → i = m:=by
  intro m listed hs hkm h1 h2 i hi
  obtain ⟨hlt,hu,o,ho,hb⟩:=mem_ready.1 hi
  by_cases c : i < m
  ·have:=h1 i c
   rw [← gD listed i hs hlt,hu] at this
   cases this
  by_cases c2 : i = m
  ·exact c2
  have hbit:=(htl i (by omega) hlt m (by omega)).resolve_left (hFk m hkm)
  have hD : Down ops (fun i=>listed.getD i false = true):=by
   intro k o hk hL e he
   have hks : k < ops.size:=by
    by_cases c : k < ops.size
    ·exact c
    rw [Array.getElem?_eq_none (by omega)] at hk; cases hk
   have hkm' : k < m:=by
    by_cases c : k < m
    ·exact c
    have h3:=h2 k (by omega) hks
    rw [gD listed k hs hks] at h3
    rw [h3] at hL
    cases hL
   exact h1 e (by have:=binds_lt k o hk hks e he; omega)
  cases hm : (bfs ops.toList [])[i]? with
  | none=>simp [List.getD,hm] at hbit
  | some q =>
   have:=good i q o hm ho m (by simpa [List.getD,hm] using hbit) _ hD hb
   have h3:=h2 m (Nat.le_refl _) (by omega)
   rw [gD listed m hs (by omega)] at h3
   rw [h3] at this
   cases this
 intro fuel
 induction fuel with
 | zero =>
  intro m listed β env own a w hs hkm hms h1 h2 hf hR hrun
  have hm : m = ops.size:=by omega
  rw [List.drop_eq_nil_of_le (by simp; omega)] at hrun
  refine ⟨?_,hQ _ _ _ _ _ hrun hR⟩
  refine List.eq_nil_iff_forall_not_mem.2 fun i hi=>?_
  have:=isM m listed hs hkm h1 h2 i hi
  have:=(mem_ready.1 hi).1
  omega
 | succ fuel ih =>
  intro m listed β env own a w hs hkm hms h1 h2 hf hR hrun
  by_cases hm : m = ops.size
  ·rw [List.drop_eq_nil_of_le (by simp; omega)] at hrun
   refine ⟨fun _=>hQ _ _ _ _ _ hrun hR,fun i hi=>?_⟩
   have:=isM m listed hs hkm h1 h2 i hi
   have:=(mem_ready.1 hi).1
   omega
  have hlt : m < ops.size:=by omega
  have hd : ops.toList.drop m = ops[m] :: ops.toList.drop (m + 1):=by
   rw [List.drop_eq_getElem_cons (by simpa using hlt)]; rfl
  rw [hd] at hrun
  refine ⟨fun hr=>?_,fun i hi=>?_⟩
  ·have hme : m ∈ Region.ready .any ops listed:=mem_ready.2 ⟨hlt,h2 m (Nat.le_refl _) hlt,ops[m],by simp [hlt],fun e he=>h1 e (binds_lt m _ (by simp [hlt]) hlt e he)⟩
   rw [hr] at hme
   cases hme
  obtain rfl:=isM m listed hs hkm h1 h2 i hi
  refine step_seq hT hS hET hEG hlow hhi (o:=ops[i]) (by simp [hlt]) hR hrun fun env own β a w q1 q2=>?_
  refine ih (i + 1) (by simpa using hs) (by omega) (by omega) ?_ ?_ (by omega) q2 q1
  ·intro j hj
   by_cases e : j = i
   ·subst e
    have : j < listed.size:=by omega
    simp [this]
   simp only [Array.getD_eq_getD_getElem?,Array.getElem?_setIfInBounds_ne (Ne.symm e)]
   simpa using h1 j (by omega)
  intro j hj hjs
  simp only [Array.getD_eq_getD_getElem?,Array.getElem?_setIfInBounds_ne (show i ≠ j by omega)]
  simpa using h2 j (by omega) hjs
include hT hS hET hEG hlow hhi in
theorem tail_any (hok : drawOk ops D.W D.el = true) {kk : Nat} (htl : ∀ i,kk ≤ i → i < ops.size → ∀ j,j < i → ((bfs ops.toList []).getD i 0).testBit j = true) {N : Env → Own → Prop} {Q : Exit → Act → World → Prop} (hQ : ∀ env own β a w,N env own → Rel E β env own a w → Q .normal a w) : ∀ (fuel m : Nat) {listed : Array Bool} {β : Nat → Option Nat} {env : Env} {own : Own} {a : Act} {w : World},
  listed.size = ops.size → kk ≤ m → m ≤ ops.size → (∀ j,j < m → listed.getD j false = true) → (∀ j,m ≤ j → j < ops.size → listed.getD j true = false) → ops.size - m ≤ fuel → Rel E β env own a w → runOps S E.nt ops.toList (ops.toList.drop m) env own N → wpAny S.P .any ops Q fuel listed a w :=
 tail_anyF hT hS hET hEG hlow hhi hok (F:=fun _=>False) (fun i h1 h2 j h3=>.inr (htl i h1 h2 j h3)) (fun _ _ h=>h) hQ
include hT hS hET hEG hlow hhi in
theorem draw_sound {β : Nat → Option Nat} {env : Env} {own : Own} {a : Act} {w : World} {id : Nat} (h : Rel E β env own a w) {N : Env → Own → Prop} {Q : Exit → Act → World → Prop} (hk : DrawVC S E.nt ops env own N) (hQ : ∀ env own β a w,N env own → Rel E β env own a w → Q .normal a w) : (Code.region id ops true).wp S.P Q a w:=by
 obtain ⟨hm,W,el,fz,hok,hk⟩:=hk
 simp only [drawOkT,Bool.and_eq_true] at hok
 obtain ⟨hok,hok2⟩:=hok
 have hnone : ∀ i,i < ops.size → (Array.replicate ops.size false).getD i true = false:=fun i hi=>by simp [hi]
 have hrem : ∀ k,k ≤ ops.size → remL k (Array.replicate ops.size false) = List.range k:=by
  intro k hk
  unfold remL
  rw [List.filter_eq_self]
  intro i hi
  rw [hnone i (by have:=List.mem_range.1 hi; omega)]
  rfl
 have go : ∀ (kk : Nat) (env1 : Env) (own1 : Own) (fz : List Nat),kk ≤ ops.size → (∀ i,kk ≤ i → i < ops.size → ∀ j,j < i → ((bfs ops.toList []).getD i 0).testBit j = true) → frzL fz env own = some (env1,own1) →
   runD S E.nt ⟨own1,W,el⟩ ops.toList 0 (ops.toList.take kk) env1 own1 (fun e o=>runOps S E.nt ops.toList (ops.toList.drop kk) e o N) → (Code.region id ops true).wp S.P Q a w:=by
  intro kk env1 own1 fz hkk htl hf hk
  have h1:=frzL_rel h hf
  have h2 : Rel E β env1 own1 a { w with drawn:=w.drawn + 1 }:=h1.idle ⟨rfl,rfl,rfl,Nat.le_refl _,fun _ _ _=>rfl⟩
  refine wp_region_any hm (draw_any (D:=⟨own1,W,el⟩) hT hS hET hEG hlow hhi hok hkk htl (N:=fun e o=>runOps S E.nt ops.toList (ops.toList.drop kk) e o N) (fun fuel listed env own β a w q1 q2 q3 q4 q5 q6=>tail_any (D:=⟨own1,W,el⟩) hT hS hET hEG hlow hhi hok htl hQ fuel kk q1 (Nat.le_refl _) hkk q2 q3 q4 q6 q5) ops.size (by simp) ?_ (fun _ _ _ _ _ _=>rfl) (fun j _ hj=>hnone j hj) ?_ h2 ?_)
  ·intro k o hk hL
   simp only [Array.getD_eq_getD_getElem?] at hL
   rw [Array.getElem?_replicate] at hL
   split at hL <;> simp at hL
  ·rw [hrem kk hkk]; simp; omega
  rw [hrem kk hkk]
  have:=runD_T (ops.toList.take kk) (i:=0) (all:=ops.toList) (fun k o hk=>by
   rw [List.getElem?_take] at hk
   split at hk
   ·simpa using hk
   cases hk) hk
  rw [List.range_eq_range']
  simpa [Nat.min_eq_left hkk] using this
 split at hk
 ·rename_i fz' hfz
  split at hk
  ·rename_i env1 own1 hf
   refine go ops.size env1 own1 fz' (Nat.le_refl _) (fun i h1 h2=>absurd h2 (by omega)) hf ?_
   rw [List.take_of_length_le (by simp),List.drop_eq_nil_of_le (by simp)]
   exact hk
  exact hk.elim
 rename_i k fz' hfz
 rw [hfz] at hok2
 simp only [tailOk,Bool.and_eq_true] at hok2
 split at hk
 ·rename_i env1 own1 hf
  refine go k env1 own1 fz' (Nat.le_of_ble_eq_true hok2.1) (fun i h1 h2 j hj=>?_) hf hk
  have:=List.all_eq_true.1 hok2.2 i (List.mem_range.2 h2)
  simp only [Bool.or_eq_true] at this
  rcases this with this | this
  ·have:=Nat.le_of_ble_eq_true this; omega
  exact List.all_eq_true.1 this j (List.mem_range.2 hj)
 exact hk.elim
end
end Sx
namespace Sx
open Go
def AllP {α : Type} (p : α → Prop) : List α → Prop | []=>True | a :: l=>p a ∧ AllP p l
def SubE.{u} {α : Type u} : List (Nat × α) → (Nat → Option α) → Prop
 | [],_=>True
 | (k,v) :: l,f=>f k = some v ∧ SubE l f
def keysT.{u} {α : Type u} : List (Nat × α) → List Nat
 | []=>[]
 | (k,_) :: l=>k :: keysT l
theorem keysT_eq.{u} {α : Type u} : ∀ (l : List (Nat × α)),keysT l = l.map (·.1)
 | []=>rfl
 | (k,v) :: l=>by rw [keysT,keysT_eq l]; rfl
def Sub (l1 : List (Nat × SV)) (l2 : List (Nat × Blk)) (env : Env) (own : Own) : Prop:=SubE l1 env ∧ SubE l2 own
def SV.cells : SV → List C | .u x=>x.cells | .t l=>l.flatMap U.cells
def closedB (l1 : List (Nat × SV)) (l2 : List (Nat × Blk)) : Bool:=l1.all (fun p=>p.2.cells.all (okRef (keysT l2))) && l2.all (fun p=>p.2.okRef (keysT l2))
def adopt (T : Tab) : List (Nat × Nat × TypeId) → Env → Own → Option (Env × Own)
 | [],env,own=>some (env,own)
 | (t,n,u) :: l,env,own=>match env t,own n,T u with
  | some (.u (.c c)),none,some el=>bif isNilS c && n.ble 49999 then adopt T l (fset env t (.u (.c (.r n u)))) (fset own n (.row u (nilD el))) else none
  | _,_,_=>none
def LoopVC (T : Tab) (body : Env → Own → (Env → Own → Prop) → Prop) (env : Env) (own : Own) : Prop :=
 ∃ (ad : List (Nat × Nat × TypeId)) (env1 : Env) (own1 : Own),adopt T ad env own = some (env1,own1) ∧
 ∃ (α : Type) (I : α → List (Nat × SV) × List (Nat × Blk)) (p : α → Prop) (m : α → Nat),
  (∀ x,p x → closedB (I x).1 (I x).2 = true) ∧ (∃ x,p x ∧ Sub (I x).1 (I x).2 env1 own1) ∧
  ∀ x,p x → body (lookT (I x).1) (lookT (I x).2) fun env' own'=>∃ y,p y ∧ m y < m x ∧ Sub (I y).1 (I y).2 env' own'
def wpC (S : Pr) (nt : Nat) : Code → Env → Own → (Env → Own → Prop) → (Nat → Env → Own → Prop) → (Env → Own → Prop) → Prop
 | .skip,env,own,N,_,_=>N env own
 | .label _,env,own,N,_,_=>N env own
 | .region _ ops draw,env,own,N,_,_=>match draw with
  | false=>runOps S nt ops.toList ops.toList env own N
  | true=>DrawVC S nt ops env own N
 | .seq x y,env,own,N,X,R=>wpC S nt x env own (fun e o=>wpC S nt y e o N X R) X R
 | .cond c x y,env,own,N,X,R=>match c,evV env c with
  | .tmp t,some (.bool b)=>Ask b fun k=>match k with
   | true=>wpC S nt x (fset env t (boolSV true)) own N X R
   | false=>wpC S nt y (fset env t (boolSV false)) own N X R
  | _,some (.bool b)=>Ask b fun k=>match k with
   | true=>wpC S nt x env own N X R
   | false=>wpC S nt y env own N X R
  | _,_=>False
 | .block id c,env,own,N,X,R=>wpC S nt c env own N (fun j e o=>match Nat.beq j id with | true=>N e o | false=>X j e o) R
 | .exit id,env,own,_,X,_=>X id env own
 | .ret,env,own,_,_,R=>R env own
 | .loop c,env,own,_,X,R=>LoopVC S.T (fun e o K=>wpC S nt c e o K X R) env own
 | _,_,_,_,_,_=>False
section
variable {S : Pr} {E : Ctx} {β : Nat → Option Nat} {env : Env} {own : Own} {a : Act} {w : World}
theorem SubE.mem {α : Type} {f : Nat → Option α} : ∀ {l : List (Nat × α)},SubE l f → ∀ {k : Nat} {v : α},(k,v) ∈ l → f k = some v
 | [],_,_,_,hx=>by simp at hx
 | (k,v) :: l,h,k',v',hx=>by
  rcases List.mem_cons.1 hx with e | hx
  ·obtain ⟨rfl,rfl⟩:=Prod.mk.inj e; exact h.1
  exact SubE.mem h.2 hx
theorem AllP.mem {α : Type} {p : α → Prop} : ∀ {l : List α},AllP p l → ∀ x ∈ l,p x
 | [],_,x,hx=>by simp at hx
 | a :: l,h,x,hx=>by
  rcases List.mem_cons.1 hx with rfl | hx
  ·exact h.1
  exact AllP.mem h.2 x hx
theorem lookT_some {α : Type} : ∀ {l : List (Nat × α)} {n : Nat},memN (l.map (·.1)) n = true → ∃ v,lookT l n = some v
 | [],_,h=>by simp [memN] at h
 | (k,u) :: l,n,h=>by
  simp only [List.map_cons,memN] at h
  simp only [lookT]
  cases hb : n.beq k with
  | true=>exact ⟨u,rfl⟩
  | false=>rw [hb] at h; exact lookT_some h
theorem Rel.sub (h : Rel E β env own a w) {l1 : List (Nat × SV)} {l2 : List (Nat × Blk)} (hs : Sub l1 l2 env own) (hc : closedB l1 l2 = true) : Rel E β (lookT l1) (lookT l2) a w:=by
 simp only [closedB,Bool.and_eq_true,keysT_eq] at hc
 have o1 : ∀ n B,lookT l2 n = some B → own n = some B:=fun n B hB=>hs.2.mem (lookT_mem hB)
 have o2 : ∀ n,memN (l2.map (·.1)) n = true → lookT l2 n = own n:=by
  intro n hn
  obtain ⟨B,hB⟩:=lookT_some hn
  rw [hB,o1 n B hB]
 have sub : ∀ b,Av E.X β (lookT l2) b → Av E.X β own b:=by
  rintro b (hx | ⟨n,h1,h2⟩)
  ·exact .inl hx
  cases hB : lookT l2 n with
  | none=>exact absurd hB h1
  | some B=>exact .inr ⟨n,by simp [o1 n B hB],h2⟩
 have live : ∀ n,lookT l2 n ≠ none → own n ≠ none:=by
  intro n hn
  cases hB : lookT l2 n with
  | none=>exact absurd hB hn
  | some B=>simp [o1 n B hB]
 have s : Stay w (Av E.X β own) w (Av E.X β (lookT l2)):=⟨Nat.le_refl _,fun b _ hb=>⟨rfl,fun hh=>hb (sub b hh)⟩⟩
 have hC : ∀ {c : C} {v : Value},okRef (l2.map (·.1)) c = true → DenC E.T w β (Av E.X β own) own c v → DenC E.T w β (Av E.X β (lookT l2)) (lookT l2) c v:=by
  intro c v hok hd
  cases c with
  | v x=>exact hd
  | d t x=>exact Rd.stay s hd
  | z t=>exact hd
  | e cts row off=>obtain ⟨a,h1,h2⟩:=hd; exact ⟨a,h1,h2.stay s⟩
  | bad=>exact hd
  | p n off=>obtain ⟨b,t,l,h1,h2⟩:=hd; exact ⟨b,t,l,by rw [o2 n hok]; exact h1,h2⟩
  | r n t=>obtain ⟨x,h1,h2⟩:=hd; exact ⟨x,by rw [o2 n hok]; exact h1,h2⟩
  | q n i off=>obtain ⟨t,x,b,h1,h2⟩:=hd; exact ⟨t,x,b,by rw [o2 n hok]; exact h1,h2⟩
  | m n t=>obtain ⟨l,b,h1,h2⟩:=hd; exact ⟨l,b,by rw [o2 n hok]; exact h1,h2⟩
 have hCs : ∀ {l : List C} {vs : List Value},l.all (okRef (l2.map (·.1))) = true → All2 (DenC E.T w β (Av E.X β own) own) l vs → All2 (DenC E.T w β (Av E.X β (lookT l2)) (lookT l2)) l vs:=by
  intro l vs hall h2
  refine All2.of_get h2.length fun i c v h3 h4=>?_
  obtain ⟨v',h6,h7⟩:=h2.get h3
  rw [h4] at h6
  obtain rfl:=Option.some.inj h6
  exact hC (List.all_eq_true.1 hall c (List.mem_of_getElem? h3)) h7
 have hU : ∀ {u : U} {v : Value},u.cells.all (okRef (l2.map (·.1))) = true → DenU E.T w β (Av E.X β own) own u v → DenU E.T w β (Av E.X β (lookT l2)) (lookT l2) u v:=by
  intro u v hall hd
  cases u with
  | c x=>exact hC (by simpa [U.cells] using hall) hd
  | a l=>obtain ⟨cs,e1,e2⟩:=hd; exact ⟨cs,e1,hCs hall e2⟩
 refine ⟨h.defers,h.size,?_,⟨?_,?_,?_⟩,h.glob,h.frame,?_,h.xold,?_⟩
 ·intro t sv ht
  have hmem:=lookT_mem ht
  have hall:=List.all_eq_true.1 hc.1 _ hmem
  have hd:=h.vals t sv (hs.1.mem hmem)
  cases sv with
  | u x=>exact hU hall hd
  | t l =>
   obtain ⟨vs,e1,e2⟩:=hd
   refine ⟨vs,e1,All2.of_get e2.length fun i u v h3 h4=>?_⟩
   obtain ⟨v',h6,h7⟩:=e2.get h3
   rw [h4] at h6
   obtain rfl:=Option.some.inj h6
   exact hU (List.all_eq_true.2 fun c hc'=>List.all_eq_true.1 hall c (List.mem_flatMap.2 ⟨u,List.mem_of_getElem? h3,hc'⟩)) h7
 ·intro n B hB
  have hb:=h.blks.blk n B (o1 n B hB)
  have hall:=List.all_eq_true.1 hc.2 _ (lookT_mem hB)
  cases B with
  | cells t l=>obtain ⟨b,cs,c1,c2,c3⟩:=hb; exact ⟨b,cs,c1,c2,hCs hall c3⟩
  | row t x=>obtain ⟨cs,c1,c2⟩:=hb; exact ⟨cs,c1.stay s,c2⟩
  | map t l=>obtain ⟨b,es,clock,c1,c2,c3⟩:=hb; exact ⟨b,es,clock,c1,c2,c3.stay s⟩
 ·exact fun n m b h1 h2=>h.blks.inj n m b (live n h1) (live m h2)
 ·exact fun n b h1 h2=>h.blks.loc n b (live n h1) h2
 ·exact fun n b h1 h2=>h.mine n b (live n h1) h2
 exact fun n B B' h1 h2=>h.kept n B B' h1 (o1 n B' h2)
theorem adopt_rel (hET : E.T = S.T) (hlow : ∀ n,n < 50000 → E.own0 n = none) : ∀ {l : List (Nat × Nat × TypeId)} {env : Env} {own : Own} {env1 : Env} {own1 : Own} {β : Nat → Option Nat},Rel E β env own a w → adopt S.T l env own = some (env1,own1) →
  ∃ β',Rel E β' env1 own1 a w
 | [],env,own,env1,own1,β,h,hf=>by
  simp only [adopt,Option.some.injEq,Prod.mk.injEq] at hf
  obtain ⟨rfl,rfl⟩:=hf
  exact ⟨β,h⟩
 | (t,n,u) :: l,env,own,env1,own1,β,h,hf=>by
  simp only [adopt] at hf
  split at hf
  ·rename_i c el h1 h2 h3
   cases hb : (isNilS c && n.ble 49999) with
   | false=>rw [hb] at hf; cases hf
   | true =>
    rw [hb] at hf
    simp only [cond_true] at hf
    simp only [Bool.and_eq_true] at hb
    have hn:=Nat.le_of_ble_eq_true hb.2
    have hden : DenC E.T w β (Av E.X β own) own c (a.tmps.getD t undef):=h.vals t _ h1
    obtain ⟨ad,hv⟩:=nil_val hden hb.1
    obtain ⟨β',f1,f2,hR⟩:=h.newNil (d:=n) h2 (hlow n (by omega)) (t:=u) (x:=nilD el) (by
     rw [hET]
     cases el with
     | ints k=>exact .inl ⟨k,[],h3,rfl,by simp⟩
     | rows c=>exact .inr ⟨c,[],h3,rfl,fun _ _=>undef,by simp,by simp,by simp⟩) (by cases el <;> rfl)
    refine adopt_rel hET hlow (β:=β') ?_ hf
    have hrow : DenC E.T w β' (Av E.X β' (fset own n (.row u (nilD el)))) (fset own n (.row u (nilD el))) (.r n u) (a.tmps.getD t undef):=by
     refine ⟨nilD el,fset_same _ _ _,?_⟩
     rw [f2,hv]
     exact ⟨by cases el <;> rfl,ad,rfl⟩
    refine ⟨hR.defers,hR.size,fun k sv hk=>?_,hR.blks,hR.glob,hR.frame,hR.mine,hR.xold,hR.kept⟩
    by_cases e : k = t
    ·subst e
     rw [fset_same] at hk
     obtain rfl:=Option.some.inj hk
     exact hrow
    rw [fset_ne _ _ e] at hk
    exact hR.vals k sv hk
  cases hf
def Ends (E : Ctx) (P : Env → Own → Prop) (a : Act) (w : World) : Prop:=∃ env own β,P env own ∧ Rel E β env own a w
variable {G : Glob} (hT : TOk S.P S.tt) (hS : AllSound S G) (hET : E.T = S.T) (hEG : E.G = G) (hlow : ∀ n,n < 50000 → E.own0 n = none) (hhi : ∀ n,100000 ≤ n → E.own0 n = none)
include hT hS hET hEG hlow hhi in
theorem runOps_sound {ops : Array Oper} {Q : Exit → Act → World → Prop} : ∀ (l : List Oper) {β : Nat → Option Nat} {env : Env} {own : Own} {a : Act} {w : World} {N : Env → Own → Prop},Rel E β env own a w → runOps S E.nt ops.toList l env own N →
  (∀ a w,Ends E N a w → Q .normal a w) → wpList S.P ops Q l a w
 | [],β,env,own,a,w,N,h,hk,hQ=>hQ a w ⟨env,own,β,hk,h⟩
 | o :: r,β,env,own,a,w,N,h,hk,hQ=>by
  simp only [runOps] at hk
  have doit : ∀ {env : Env},Rel E β env own a w → ((stepO S o env own).wp fun x=>match x with | (sv,e1,o1)=>onSet E.nt e1 o.dst sv fun env'=>runOps S E.nt ops.toList r env' o1 N) → o.wp S.P a w (wpList S.P ops Q r) Q:=by
   intro env h hk
   refine stepO_sound hT hS h hET hEG hlow hhi hk fun sv env' own' β' v w' e1 e2 e3=>?_
   obtain ⟨env2,k1,k2⟩:=onSet_rel e2 e1 e3
   exact runOps_sound r k2 k1 hQ
  have skip : ∀ {env : Env},Rel E β env own a w → (onSet E.nt env o.dst (.t []) fun env'=>runOps S E.nt ops.toList r env' own N) → wpList S.P ops Q r (a.put o.dst undef) w:=by
   intro env h hk
   obtain ⟨env2,k1,k2⟩:=onSet_rel h hk den_undef
   exact runOps_sound r k2 k1 hQ
  unfold wpList
  split at hk
  ·rename_i hg
   rw [if_pos (wanted_run hg)]
   exact .inl (doit h hk)
  ·rename_i hg
   rw [if_neg (by rw [wanted_skip h hg]; simp)]
   exact skip h hk
  ·rename_i t b want hg
   obtain ⟨hw,ht⟩:=wanted_ask h hg
   have hk1:=Ask.e hk
   split at hk1
   ·rename_i hb
    rw [if_pos (by rw [hw]; exact hb)]
    exact .inl (doit (h.rebind ht) hk1)
   rename_i hb
   rw [if_neg (by rw [hw,hb]; simp)]
   exact skip (h.rebind ht) hk1
  exact hk.elim
end
end Sx
