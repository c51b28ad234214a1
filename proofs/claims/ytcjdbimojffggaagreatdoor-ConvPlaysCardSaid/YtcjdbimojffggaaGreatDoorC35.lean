/- Part of the proof: a machine of states for walks, and contracts of functions over it. Conditions: those that each theorem names. -/
import Derived.Test.YtcjdbimojffggaaGreatDoorC34
import Derived.Test.YtcjdbimojffggaaGreatDoorC33
import Derived.Laws.Strings
set_option linter.unusedVariables false
set_option linter.unusedSimpArgs false
namespace Sx
open Go
section
variable {S : Pr} {E : Ctx} {D : DD} {ops : Array Oper}
variable {G : Glob} (hT : TOk S.P S.tt) (hS : AllSound S G) (hET : E.T = S.T) (hEG : E.G = G) (hlow : ∀ n,n < 50000 → E.own0 n = none) (hhi : ∀ n,100000 ≤ n → E.own0 n = none)
def tailF (ops : Array Oper) (tbl : List Nat) (k : Nat) : Bool:=Nat.ble k ops.size && (List.range ops.size).all fun i=>Nat.ble (i + 1) k || (List.range i).all fun j=>j.beq 0 || (tbl.getD i 0).testBit j
include hT hS hET hEG hlow hhi in
theorem draw_float {β : Nat → Option Nat} {env : Env} {own : Own} {a : Act} {w : World} {id : Nat} (h : Rel E β env own a w) {o : Oper} {d : Nat} {x : Operand} {sv : SV} (ho : ops[0]? = some o) (hop : o.op = .move x) (hg : o.guard = none) (hd : o.dst = some d) (hdn : d < E.nt) (hx : ev env x = some sv)
  (hm : S.P.follows .mixedOrders = true) (hs : Region.noSelect ops = true) (hf : Region.free .any ops (Array.replicate ops.size false) 0 = true) (hr : (Region.ready .any ops (Array.replicate ops.size false)).contains 0 = true)
  {W el : List (Nat × List Nat)} {k : Nat} (hk1 : 1 ≤ k) (hok : drawOk ops W el = true) (htl : tailF ops (bfs ops.toList []) k = true) {N : Env → Own → Prop} {Q : Exit → Act → World → Prop} (hQp : ∀ c a w,¬ Q (.panic c) a w)
  (hrun : runD S E.nt ⟨own,W,el⟩ ops.toList 1 ((ops.toList.take k).drop 1) (fset env d sv) own (fun e o=>runOps S E.nt ops.toList (ops.toList.drop k) e o N)) (hQ : ∀ env own β a w,N env own → Rel E β env own a w → Q .normal a w) : (Code.region id ops true).wp S.P Q a w:=by
 have h2 : Rel E β env own a { w with drawn:=w.drawn + 1 }:=h.idle ⟨rfl,rfl,rfl,Nat.le_refl _,fun _ _ _=>rfl⟩
 simp only [tailF,Bool.and_eq_true] at htl
 have hkk:=Nat.le_of_ble_eq_true htl.1
 obtain ⟨n,hn⟩ : ∃ n,ops.size = n + 1:=⟨ops.size - 1,by omega⟩
 have hnone : ∀ i,i < ops.size → i ≠ 0 → ((Array.replicate ops.size false).setIfInBounds 0 true).getD i true = false:=by
  intro i hi h0
  simp only [Array.getD_eq_getD_getElem?,Array.getElem?_setIfInBounds_ne (Ne.symm h0)]
  simp [hi]
 have h00 : ((Array.replicate ops.size false).setIfInBounds 0 true).getD 0 false = true:=by simp [hn]
 have h01 : ((Array.replicate ops.size false).setIfInBounds 0 true).getD 0 true = true:=by simp [hn]
 have hbo : bindsO o = []:=by
  have hr':=List.contains_iff_mem.1 hr
  obtain ⟨_,_,o',ho',hb⟩:=mem_ready.1 hr'
  rw [ho] at ho'
  obtain rfl:=Option.some.inj ho'
  refine List.eq_nil_iff_forall_not_mem.2 fun e he=>?_
  have:=hb e he
  simp only [Array.getD_eq_getD_getElem?] at this
  rw [Array.getElem?_replicate] at this
  split at this <;> simp at this
 have hrem : remL k ((Array.replicate ops.size false).setIfInBounds 0 true) = List.range' 1 (k - 1):=by
  obtain ⟨k',rfl⟩ : ∃ k',k = k' + 1:=⟨k - 1,by omega⟩
  unfold remL
  rw [List.range_eq_range',List.range'_succ,List.filter_cons,h01]
  simp only [Bool.not_true,Bool.false_eq_true,if_false,Nat.add_sub_cancel]
  rw [List.filter_eq_self]
  intro i hi
  rw [List.mem_range'_1] at hi
  rw [hnone i (by omega) (by omega)]
  rfl
 have htl2 : ∀ i,k ≤ i → i < ops.size → ∀ j,j < i → j = 0 ∨ ((bfs ops.toList []).getD i 0).testBit j = true:=by
  intro i h1 h2 j hj
  have:=List.all_eq_true.1 htl.2 i (List.mem_range.2 h2)
  simp only [Bool.or_eq_true] at this
  rcases this with this | this
  ·have:=Nat.le_of_ble_eq_true this; omega
  have:=List.all_eq_true.1 this j (List.mem_range.2 hj)
  simp only [Bool.or_eq_true] at this
  exact this.imp Nat.eq_of_beq_eq_true fun h=>h
 refine wp_region_any hm ?_
 have key : wpAny S.P .any ops Q (n + 1) (Array.replicate ops.size false) a { w with drawn:=w.drawn + 1 }:=by
  refine wpAny_take (v:=a.eval x) ho hs hf hr (fun c a w hq=>absurd hq (hQp _ _ _)) (.inl ⟨by simp [Region.wanted,hg],fun w=>by simp [execOp,hop]⟩) ?_
  rw [hd]
  have h3:=h2.put hdn (ev_den h2 hx)
  refine draw_anyF (D:=⟨own,W,el⟩) hT hS hET hEG hlow hhi hok hkk (F:=(· = 0)) htl2 (N:=fun e o=>runOps S E.nt ops.toList (ops.toList.drop k) e o N) (fun fuel listed env own β a w q1 q2 q3 q4 q5 q6=>tail_anyF (D:=⟨own,W,el⟩) hT hS hET hEG hlow hhi hok (F:=(· = 0)) htl2 (fun j hj=>by omega) hQ fuel k q1 (Nat.le_refl _) hkk q2 q3 q4 q6 q5) n (by simp) ?_ ?_ (fun _ _ _ _ _ _=>rfl) (fun j h1 h2=>hnone j h2 (by omega)) ?_ h3 ?_
  ·rintro j rfl; exact h00
  ·intro i o' hi hL e he
   by_cases h0 : i = 0
   ·subst h0
    rw [ho] at hi
    obtain rfl:=Option.some.inj hi
    rw [hbo] at he
    cases he
   simp only [Array.getD_eq_getD_getElem?,Array.getElem?_setIfInBounds_ne (Ne.symm h0)] at hL
   rw [Array.getElem?_replicate] at hL
   split at hL <;> simp at hL
  ·rw [hrem,List.length_range']; omega
  rw [hrem]
  have:=runD_T ((ops.toList.take k).drop 1) (i:=1) (all:=ops.toList) (fun m o hk=>by
   rw [List.getElem?_drop,List.getElem?_take] at hk
   split at hk
   ·simpa using hk
   cases hk) hrun
  have hl : ((ops.toList.take k).drop 1).length = k - 1:=by simp; omega
  rwa [hl] at this
 rw [hn]
 rwa [hn] at key
end
section
variable {E : Ctx} {β : Nat → Option Nat} {env : Env} {own : Own} {a : Act} {w : World}
theorem All2.set_same {α γ : Type} {R : α → γ → Prop} : ∀ {l : List α} {m : List γ} (_ : All2 R l m) {i : Nat} {x : α},(∀ y,m[i]? = some y → R x y) → All2 R (l.set i x) m
 | [],[],_,_,_,_=>trivial
 | _ :: _,_ :: _,hh,0,_,h=>⟨h _ rfl,hh.2⟩
 | _ :: _,_ :: _,hh,i + 1,_,h=>⟨hh.1,All2.set_same hh.2 fun y hy=>h y (by simpa using hy)⟩
 | [],_ :: _,hh,_,_,_=>hh.elim
 | _ :: _,[],hh,_,_,_=>hh.elim
theorem Rel.adoptCell (h : Rel E β env own a w) {n m j : Nat} {t u : TypeId} {l : List C} {c : C} {ct : List Ct} (hn : own n = some (.cells t l)) (hj : l[j]? = some c) (hc : isNilS c = true) (hm : own m = none) (hm0 : E.own0 m = none) (hu : E.T u = some (.rows ct)) :
  ∃ β',Rel E β' env (fset (fset own m (.row u (.rows []))) n (.cells t (l.set j (.r m u)))) a w:=by
 obtain ⟨β',e1,e2,hR⟩:=h.newNil (d:=m) hm hm0 (t:=u) (x:=.rows []) (.inr ⟨ct,[],hu,rfl,fun _ _=>undef,by simp,by simp,by simp⟩) rfl
 have hnm : n ≠ m:=fun e=>by rw [e,hm] at hn; cases hn
 have hn2 : fset own m (.row u (.rows [])) n = some (.cells t l):=by rw [fset_ne _ _ hnm]; exact hn
 obtain ⟨b,cs,g1,g2,g3⟩:=hR.blks.blk n _ hn2
 refine ⟨β',hR.upd hn2 g1 (Fr.refl _ _) ⟨_,_,rfl⟩ fun s k=>⟨b,cs,g1,g2,(g3.mono fun _ _=>DenC.keep s k).set_same fun y hy=>?_⟩⟩
 obtain ⟨y',q1,q2⟩:=g3.get hj
 rw [hy] at q1
 obtain rfl:=Option.some.inj q1
 obtain ⟨ad,rfl⟩:=nil_val q2 hc
 refine ⟨.rows [],by rw [fset_ne _ _ (Ne.symm hnm),fset_same],?_⟩
 rw [e2]
 exact ⟨rfl,ad,rfl⟩
def rho (m c n : Nat) : Nat:=bif n.beq m then c else n
def envR (m c : Nat) (env : Env) : Env:=fun t=>match env t with | some sv=>some (sv.ren (rho m c)) | none=>none
def ownR (m c : Nat) (own : Own) : Own:=fun n=>bif n.beq c then (match own m with | some B=>some (B.ren (rho m c)) | none=>none) else bif n.beq m then none else match own n with | some B=>some (B.ren (rho m c)) | none=>none
theorem rho_same (m c : Nat) : rho m c m = c:=by simp [rho]
theorem rho_ne {m c n : Nat} (h : n ≠ m) : rho m c n = n:=by simp only [rho,beqn h,cond_false]
theorem Rel.rename (h : Rel E β env own a w) {m c : Nat} (hc : own c = none) (hc0 : E.own0 c = none) : ∃ β',Rel E β' (envR m c env) (ownR m c own) a w:=by
 by_cases hmc : m = c
 ·subst hmc
  have e : ∀ n,rho m m n = n:=fun n=>by
   by_cases h : n = m
   ·rw [h,rho_same]
   exact rho_ne h
  have eC : ∀ x : C,x.ren (rho m m) = x:=fun x=>by cases x <;> simp [C.ren,e]
  have eL : ∀ l : List C,l.map (C.ren (rho m m)) = l:=fun l=>by rw [List.map_congr_left (g:=id) (fun x _=>eC x)]; simp
  have eU : ∀ x : U,x.ren (rho m m) = x:=fun x=>by cases x <;> simp [U.ren,eC,eL]
  have eS : ∀ x : SV,x.ren (rho m m) = x:=fun x=>by
   cases x with
   | u x=>simp [SV.ren,eU]
   | t l=>simp only [SV.ren]; rw [List.map_congr_left (g:=id) (fun x _=>eU x)]; simp
  have eB : ∀ B : Blk,B.ren (rho m m) = B:=fun B=>by cases B <;> simp [Blk.ren,eL]
  have e1 : envR m m env = env:=by funext t; simp only [envR]; cases env t <;> simp [eS]
  have e2 : ownR m m own = own:=by
   funext n
   simp only [ownR]
   by_cases hn : n = m
   ·subst hn; rw [beqs,cond_true,hc]
   rw [beqn hn,cond_false,cond_false]; cases own n <;> simp [eB]
  exact ⟨β,by rw [e1,e2]; exact h⟩
 let β' : Nat → Option Nat:=fun n=>if n = c then β m else β n
 have b1 : β' c = β m:=by simp [β']
 have b2 : ∀ n,n ≠ c → β' n = β n:=fun n hn=>by simp [β',hn]
 have o1 : ∀ n B,own n = some B → ownR m c own (rho m c n) = some (B.ren (rho m c)):=by
  intro n B hB
  by_cases hn : n = m
  ·subst hn
   rw [rho_same]
   simp only [ownR,beqs,cond_true,hB]
  have hnc : n ≠ c:=fun e=>by rw [e,hc] at hB; cases hB
  rw [rho_ne hn]
  simp only [ownR,beqn hn,beqn hnc,cond_false,hB]
 have o2 : ∀ k B',ownR m c own k = some B' → ∃ n B,own n = some B ∧ k = rho m c n ∧ B' = B.ren (rho m c) ∧ β' k = β n:=by
  intro k B' hB
  simp only [ownR] at hB
  by_cases hk : k = c
  ·subst hk
   rw [beqs,cond_true] at hB
   cases hq : own m with
   | none=>rw [hq] at hB; cases hB
   | some B=>rw [hq] at hB; exact ⟨m,B,hq,(rho_same ..).symm,(Option.some.inj hB).symm,b1⟩
  rw [beqn hk,cond_false] at hB
  by_cases hk2 : k = m
  ·subst hk2; rw [beqs,cond_true] at hB; cases hB
  rw [beqn hk2,cond_false] at hB
  cases hq : own k with
  | none=>rw [hq] at hB; cases hB
  | some B=>rw [hq] at hB; exact ⟨k,B,hq,(rho_ne hk2).symm,(Option.some.inj hB).symm,b2 k hk⟩
 have b3 : ∀ n B,own n = some B → β' (rho m c n) = β n:=by
  intro n B hB
  by_cases hn : n = m
  ·subst hn; rw [rho_same,b1]
  rw [rho_ne hn,b2 n fun e=>by rw [e,hc] at hB; cases hB]
 have av : ∀ b,Av E.X β' (ownR m c own) b → Av E.X β own b:=by
  rintro b (hx | ⟨k,h1,h2⟩)
  ·exact .inl hx
  cases hq : ownR m c own k with
  | none=>exact absurd hq h1
  | some B' =>
   obtain ⟨n,B,q1,rfl,_,q4⟩:=o2 k B' hq
   exact .inr ⟨n,by simp [q1],by rw [← q4]; exact h2⟩
 have s : Stay w (Av E.X β own) w (Av E.X β' (ownR m c own)):=⟨Nat.le_refl _,fun b _ hb=>⟨rfl,fun hh=>hb (av b hh)⟩⟩
 have dC : ∀ {x : C} {v : Value},DenC E.T w β (Av E.X β own) own x v → DenC E.T w β' (Av E.X β' (ownR m c own)) (ownR m c own) (x.ren (rho m c)) v:=by
  intro x v hx
  refine DenC.ren s rfl (fun n B _ hB=>⟨b3 n B hB,_,o1 n B hB,?_,?_,?_⟩) hx
  ·rintro t l rfl; exact ⟨_,rfl⟩
  ·rintro t l rfl; rfl
  rintro t l rfl; rfl
 have dL : ∀ {l : List C} {vs : List Value},All2 (DenC E.T w β (Av E.X β own) own) l vs → All2 (DenC E.T w β' (Av E.X β' (ownR m c own)) (ownR m c own)) (l.map (C.ren (rho m c))) vs:=fun hl=>hl.map_left (C.ren (rho m c)) fun _ _=>dC
 have dU : ∀ {x : U} {v : Value},DenU E.T w β (Av E.X β own) own x v → DenU E.T w β' (Av E.X β' (ownR m c own)) (ownR m c own) (x.ren (rho m c)) v:=by
  intro x v hx
  cases x with
  | c x=>exact dC hx
  | a l=>obtain ⟨cs,e1,e2⟩:=hx; exact ⟨cs,e1,dL e2⟩
 refine ⟨β',h.defers,h.size,?_,⟨?_,?_,?_⟩,h.glob,h.frame,?_,h.xold,?_⟩
 ·intro t sv ht
  simp only [envR] at ht
  cases hq : env t with
  | none=>rw [hq] at ht; cases ht
  | some sv0 =>
   rw [hq] at ht
   obtain rfl:=Option.some.inj ht
   have hd:=h.vals t sv0 hq
   cases sv0 with
   | u x=>exact dU hd
   | t l=>obtain ⟨vs,e1,e2⟩:=hd; exact ⟨vs,e1,e2.map_left (U.ren (rho m c)) fun _ _=>dU⟩
 ·intro k B' hB
  obtain ⟨n,B,q1,rfl,rfl,q4⟩:=o2 k B' hB
  have hb:=h.blks.blk n B q1
  cases B with
  | cells t l=>obtain ⟨b,cs,c1,c2,c3⟩:=hb; exact ⟨b,cs,q4.trans c1,c2,dL c3⟩
  | row t x=>obtain ⟨cs,c1,c2⟩:=hb; exact ⟨cs,c1.stay s,by rw [q4]; exact c2⟩
  | map t l=>obtain ⟨b,es,clock,c1,c2,c3⟩:=hb; exact ⟨b,es,clock,q4.trans c1,c2,c3.stay s⟩
 ·intro k1 k2 b h1 h2 h3 h4
  cases hq1 : ownR m c own k1 with
  | none=>exact absurd hq1 h1
  | some B1 =>
   cases hq2 : ownR m c own k2 with
   | none=>exact absurd hq2 h2
   | some B2 =>
    obtain ⟨n1,C1,q1,rfl,_,q4⟩:=o2 k1 B1 hq1
    obtain ⟨n2,C2,q5,rfl,_,q8⟩:=o2 k2 B2 hq2
    rw [h.blks.inj n1 n2 b (by simp [q1]) (by simp [q5]) (by rw [← q4]; exact h3) (by rw [← q8]; exact h4)]
 ·intro k b h1 h2
  cases hq1 : ownR m c own k with
  | none=>exact absurd hq1 h1
  | some B1 =>
   obtain ⟨n1,C1,q1,rfl,_,q4⟩:=o2 k B1 hq1
   have:=h.blks.loc n1 b (by simp [q1]) (by rw [← q4]; exact h2)
   exact ⟨this.1,this.2.1,this.2.2⟩
 ·intro k b h1 h2
  cases hq1 : ownR m c own k with
  | none=>exact absurd hq1 h1
  | some B1 =>
   obtain ⟨n1,C1,q1,rfl,_,q4⟩:=o2 k B1 hq1
   exact h.mine n1 b (by simp [q1]) (by rw [← q4]; exact h2)
 intro k B0 B' h1 h2
 obtain ⟨n,B,q1,rfl,rfl,q4⟩:=o2 k B' h2
 by_cases hn : n = m
 ·subst hn; rw [rho_same,hc0] at h1; cases h1
 rw [rho_ne hn] at h1 q4 ⊢
 obtain ⟨e1,e2⟩:=h.kept n B0 B h1 q1
 refine ⟨q4.trans e1,?_⟩
 cases B0 <;> cases B <;> exact e2
end
end Sx
namespace Sx
open Go Go.Proofs
set_option maxRecDepth 30000
variable {G : Glob}
def cts62 : List Ct:=[.int .i64,.sl 30,.int .u64,.int .u64,.int .i64,.int .u64,.sl 32,.int .u32,.str,
 .sl 30,.int .u64,.int .u64,.int .u64,.bool,.int .u64,.bool,.int .u64,.bool,.int .u64,.sl 38,.sl 38,.sl 32,.int .u32,.str,
 .sl 30,.int .u64,.int .u64,.int .u64,.bool,.int .u64,.bool,.int .u64,.bool,.int .u64,.int .i32,.int .u64,.bool,.int .i32,.sl 38,.str,.bool,.int .i32,.sl 38,.str,.sl 32,.int .u32,.int .u64,.str,.int .i64]
theorem cts62_ok : TB 79 = some (.rows cts62):=by kernel_rfl
def oldB (nw ti : Int) (row : List D) : Bool:=decide (w64 (nw - (cellD row 48).toInt) ≥ ti)
def tick1S (row : List D) : List U → List Blk → Out RF
 | [.c (.v (.string s)),.a ws,.c (.p 50000 0)],[.cells 24 [.p 50001 0],.cells 81 [.v (.int .i64 st),.v (.int .i64 bu),.v (.int .i64 ti),.v (.int .i64 nw),.v mv]] =>
  .need (ws = rowCs cts62 row) (wp1 (oldB nw ti row) fun c=>.ret (.u (.c (Bo c)),[some (.cells 24 [.p 50001 0]),some (.cells 81 [I64 st,I64 bu,I64 ti,I64 nw,.v mv])],[]))
 | _,_=>.fail
theorem tick1_ok {row : List D} : OkF G 45 (tick1S row):=by
 refine okF false noneS Tryz.func45 rfl (by decide) fun K us lent hk=>?_
 unfold tick1S at hk
 split at hk
 ·rename_i s ws st bu ti nw mv
  refine ⟨by show 3 ≤ _; decide,?_⟩
  obtain ⟨rfl,hk⟩:=hk
  have hk:=hk _ rfl
  conv=>whnf
  refine ⟨mixed,[],[],[],by kernel_rfl,?_⟩;conv=>whnf
  exact hk
 exact hk.elim
end Sx
namespace Sx
open Go Go.Proofs
set_option maxRecDepth 30000
variable {G : Glob}
def rowsOf (l : LL) : List (List D):=l.map fun kr=>.str kr.1 :: kr.2
def asL (R : List (List D)) : LL:=R.map fun r=>((cellD r 0).toStr,r.drop 1)
theorem asL_rowsOf (l : LL) : asL (rowsOf l) = l:=by
 unfold asL rowsOf
 rw [List.map_map]
 exact List.map_id'' (fun kr=>rfl) l
theorem rowsOf_len (l : LL) : (rowsOf l).length = l.length:=List.length_map ..
theorem asL_len (R : List (List D)) : (asL R).length = R.length:=List.length_map ..
def findI (s : ByteArray) : LL → Option Nat
 | []=>none
 | p :: l=>if s = p.1 then some 0 else (findI s l).map (· + 1)
theorem findI_none {s : ByteArray} : ∀ {l : LL},findI s l = none → findM s l = none ∧ ∀ r,putM s r l = l ++ [(s,r)]
 | [],_=>⟨rfl,fun _=>rfl⟩
 | p :: l,h=>by
  unfold findI at h
  split at h
  ·cases h
  rename_i c
  simp only [Option.map_eq_none_iff] at h
  obtain ⟨h1,h2⟩:=findI_none h
  exact ⟨by unfold findM; rw [if_neg c,h1],fun r=>by unfold putM; rw [if_neg c,h2]; rfl⟩
theorem findI_some {s : ByteArray} : ∀ {l : LL} {i : Nat},findI s l = some i → ∃ r,l[i]? = some (s,r) ∧ findM s l = some r ∧ ∀ r',putM s r' l = l.set i (s,r')
 | [],_,h=>by cases h
 | p :: l,i,h=>by
  unfold findI at h
  split at h
  ·rename_i c
   obtain rfl:=Option.some.inj h
   subst c
   exact ⟨p.2,rfl,by unfold findM; rw [if_pos rfl],fun r'=>by unfold putM; rw [if_pos rfl]; rfl⟩
  rename_i c
  simp only [Option.map_eq_some_iff] at h
  obtain ⟨j,h1,rfl⟩:=h
  obtain ⟨r,h2,h3,h4⟩:=findI_some h1
  exact ⟨r,h2,by unfold findM; rw [if_neg c,h3],fun r'=>by unfold putM; rw [if_neg c,h4]; rfl⟩
theorem findI_at {s : ByteArray} : ∀ {l : LL} {i : Nat} {p : ByteArray × List D},findI s (l.take i) = none → l[i]? = some p → s = p.1 → findI s l = some i
 | [],_,_,_,h,_=>by simp at h
 | q :: l,0,p,_,h,e=>by
  simp only [List.getElem?_cons_zero,Option.some.injEq] at h
  subst h
  unfold findI; rw [if_pos e]
 | q :: l,i + 1,p,h0,h,e=>by
  simp only [List.getElem?_cons_succ] at h
  rw [List.take_succ_cons,findI] at h0
  split at h0
  ·cases h0
  rename_i c
  simp only [Option.map_eq_none_iff] at h0
  unfold findI
  rw [if_neg c,findI_at h0 h e]; rfl
theorem findI_snoc {s : ByteArray} {p : ByteArray × List D} (c : s ≠ p.1) : ∀ {l : LL},findI s l = none → findI s (l ++ [p]) = none
 | [],_=>by show findI s [p] = none; unfold findI; rw [if_neg c]; rfl
 | q :: l,h=>by
  unfold findI at h
  split at h
  ·cases h
  rename_i c2
  simp only [Option.map_eq_none_iff] at h
  rw [List.cons_append]
  unfold findI
  rw [if_neg c2,findI_snoc c h]; rfl
theorem findI_next {s : ByteArray} {l : LL} {i : Nat} {p : ByteArray × List D} (h0 : findI s (l.take i) = none) (h : l[i]? = some p) (c : s ≠ p.1) : findI s (l.take (i + 1)) = none:=by
 rw [List.take_add_one,h]
 exact findI_snoc c h0
def idxI : Option Nat → Int | none=>-1 | some i=>i
theorem asL_at {R : List (List D)} {i : Nat} (hi : i < R.length) : (asL R)[i]? = some ((cellD (R.getD i []) 0).toStr,(R.getD i []).drop 1):=by
 unfold asL
 rw [List.getElem?_map,List.getD_eq_getElem?_getD,List.getElem?_eq_getElem hi]; rfl
theorem bytes_eq {a b : ByteArray} : (a.toList == b.toList) = true ↔ a = b:=by
 rw [beq_iff_eq,ByteArray.toList_eq,ByteArray.toList_eq]
 exact ⟨fun h=>ByteArray.ext (Array.toList_inj.mp h),fun h=>by rw [h]⟩
def cts101 : List Ct:=.str :: cts62
theorem cts101_ok : TB 101 = some (.rows cts101):=by kernel_rfl
def rnewS : List U → List Blk → Out RF
 | [.c (.v (.int .i64 st)),.c (.v (.int .i64 bu)),.c (.v (.int .i64 ti))],[]=>wp1 (badN st bu ti) fun c=>bif c then .ret (.t [.c (.v (.pointer none)),.c (I64 9)],[],[])
  else .ret (.t [.c (.p 60000 0),.c (I64 0)],[],[rtB st bu ti 0 60001,.row 101 (.rows [])])
 | _,_=>.fail
theorem rnew_ok : OkF G 16 rnewS:=by
 refine sound_by false (S:=B []) (BT []) Tryz.func16 rfl (by decide) fun K us lent hk=>?_
 unfold rnewS at hk
 split at hk
 ·rename_i st bu ti
  refine ⟨by show 3 ≤ _; decide,fun E β a w Q hT hG hnt hlow hhi hR hQN hQR=>?_⟩
  have hk:=hk _ rfl
  obtain ⟨T,G',w0,X,L,nt,own0,β0⟩:=E
  simp only at hT hG hnt hlow hhi
  subst hT hG hnt
  refine wpC_sound (S:=B []) (BT []) noneS rfl rfl hlow hhi _ (N:=fun _ _=>False) (X:=fun _ _ _=>False) (R:=fun env own=>retF (B []) [60,61] [.tmp 6,.tmp 7] 0 false K env own ∨ (badN st bu ti = false ∧ Sub [(6,.u (.c (.p 34 0))),(7,.u (.c (I64 0)))] [(34,.cells 103 [I64 st,I64 bu,I64 ti,I64 0,.v (.slice none 0 0)])] env own)) hR ?_ (fun _ _ ⟨_,_,_,hh,_⟩=>hh.elim) (fun _ _ _ ⟨_,_,_,hh,_⟩=>hh.elim) ?_
  ·conv=>whnf
   refine Ask.i (fun c1=>?_) (fun c1=>?_)
   ·have c1 : decide (st < 1) = true:=c1
    rw [show badN st bu ti = true by simp [badN,c1]] at hk
    conv=>whnf
    exact .inl hk
   have c1 : decide (st < 1) = false:=c1;conv=>whnf
   refine Ask.i (fun c2=>?_) (fun c2=>?_)
   ·have c2 : decide (st > 1000) = true:=c2
    rw [show badN st bu ti = true by simp [badN,c2]] at hk
    conv=>whnf
    exact .inl hk
   have c2 : decide (st > 1000) = false:=c2;conv=>whnf
   refine Ask.i (fun c3=>?_) (fun c3=>?_)
   ·have c3 : decide (bu < 1) = true:=c3
    rw [show badN st bu ti = true by simp [badN,c3]] at hk
    conv=>whnf
    exact .inl hk
   have c3 : decide (bu < 1) = false:=c3;conv=>whnf
   refine Ask.i (fun c4=>?_) (fun c4=>?_)
   ·have c4 : decide (bu > 320) = true:=c4
    rw [show badN st bu ti = true by simp [badN,c4]] at hk
    conv=>whnf
    exact .inl hk
   have c4 : decide (bu > 320) = false:=c4;conv=>whnf
   refine Ask.i (fun c5=>?_) (fun c5=>?_)
   ·have c5 : decide (ti < 1) = true:=c5
    rw [show badN st bu ti = true by simp [badN,c5]] at hk
    conv=>whnf
    exact .inl hk
   have c5 : decide (ti < 1) = false:=c5;conv=>whnf
   refine Ask.i (fun c6=>?_) (fun c6=>?_)
   ·have c6 : decide (ti > 1000000) = true:=c6
    rw [show badN st bu ti = true by simp [badN,c6]] at hk
    conv=>whnf
    exact .inl hk
   have c6 : decide (ti > 1000000) = false:=c6;conv=>whnf
   exact .inr ⟨by rw [badN,c1,c2,c3,c4,c5,c6]; rfl,⟨rfl,rfl,trivial⟩,rfl,trivial⟩
  rintro a w ⟨env,own,β,hh | ⟨h1,h2⟩,hR⟩
  ·exact hQR a w ⟨env,own,β,hh,hR⟩
  rw [h1] at hk
  obtain ⟨β',hR⟩:=(hR.sub h2 rfl).adoptCell (n:=34) (m:=49) (j:=4) (u:=101) (ct:=cts101) rfl rfl rfl rfl (hlow 49 (by decide)) cts101_ok
  refine hQR a w ⟨_,_,_,?_,hR⟩;conv=>whnf
  exact hk
 exact hk.elim
def rlenS : List U → List Blk → Out RF
 | [.c (.p 50000 0)],[.cells 103 [.v (.int .i64 st),.v (.int .i64 bu),.v (.int .i64 ti),.v (.int .i64 nw),.r 50001 101],.row 101 (.rows R)]=>.ret (.u (.c (I64 (R.length : Nat))),RTk st bu ti nw (.rows R),[])
 | _,_=>.fail
theorem rlen_ok : OkF G 25 rlenS:=by
 refine okF false noneS Tryz.func25 rfl (by decide) fun K us lent hk=>?_
 unfold rlenS at hk
 split at hk
 ·rename_i st bu ti nw R
  refine ⟨by show 1 ≤ _; decide,?_⟩;conv=>whnf
  exact hk
 exact hk.elim
def rfindS : List U → List Blk → Out RF
 | [.c (.p 50000 0),.c (.v (.string s))],[.cells 103 [.v (.int .i64 st),.v (.int .i64 bu),.v (.int .i64 ti),.v (.int .i64 nw),.r 50001 101],.row 101 (.rows R)] =>
  .need (R.length ≤ 1000000000) (.all (Option Nat) (fun o=>findI s (asL R) = o) ⟨_,rfl⟩ fun o=>.ret (.u (.c (I64 (idxI o))),RTk st bu ti nw (.rows R),[]))
 | _,_=>.fail
theorem rfind_ok : OkF G 50 rfindS:=by
 refine okF false noneS Tryz.func50 rfl (by decide) fun K us lent hk=>?_
 unfold rfindS at hk
 split at hk
 ·rename_i s st bu ti nw R
  refine ⟨by show 2 ≤ _; decide,?_⟩
  obtain ⟨hlen,hk⟩:=hk
  have hk : ∀ o,findI s (asL R) = o → K (.u (.c (I64 (idxI o))),RTk st bu ti nw (.rows R),[]):=hk;conv=>whnf
  refine ⟨[],_,_,rfl,Nat,(fun i=>([(0,.u (.c (.p 50000 0))),(1,.u (.c (St s))),(5,.u (.c (I64 (i : Nat))))],[(50000,rtB st bu ti nw 50001),(50001,.row 101 (.rows R))])),
   (fun i=>i ≤ R.length ∧ findI s ((asL R).take i) = none),(fun i=>R.length - i),fun x _=>rfl,⟨0,⟨Nat.zero_le _,rfl⟩,⟨rfl,rfl,rfl,trivial⟩,rfl,rfl,trivial⟩,?_⟩
  rintro i ⟨p1,p2⟩;conv=>whnf
  refine Ask.i (fun c1=>?_) (fun c1=>?_)
  ·have c1 : (i : Int) < ((R.length : Nat) : Int):=of_decide_eq_true c1
   have hi : i < R.length:=by omega
   have hb : (0 : Int) ≤ (i : Int) ∧ (i : Int) < ((R.length : Nat) : Int):=⟨by omega,c1⟩
   have ha:=asL_at hi
   conv=>whnf
   refine ⟨hb,?_⟩;conv=>whnf
   refine Ask.i (fun c2=>?_) (fun c2=>?_)
   ·have c2 : ((cellD (R.getD i []) 0).toStr.toList == s.toList) = true:=c2
    conv=>whnf
    exact hk (some i) (findI_at p2 ha (bytes_eq.1 c2).symm)
   have c2 : ((cellD (R.getD i []) 0).toStr.toList == s.toList) = false:=c2;conv=>whnf
   refine ⟨i + 1,⟨hi,findI_next p2 ha (fun e=>by rw [bytes_eq.2 e.symm] at c2; cases c2)⟩,by show R.length - (i + 1) < R.length - i; omega,⟨rfl,rfl,congrArg (fun z : Int=>some (SV.u (.c (I64 z)))) (w64_eq (n:=(i : Int) + 1) (by omega)),trivial⟩,rfl,rfl,trivial⟩
  have c1 : ¬ (i : Int) < ((R.length : Nat) : Int):=of_decide_eq_false c1
  have hi : i = R.length:=by omega
  conv=>whnf
  rw [List.take_of_length_le (by rw [asL_len]; omega)] at p2
  exact hk none p2
 exact hk.elim
end Sx
namespace Sx
open Go Go.Proofs
set_option maxRecDepth 30000
variable {G : Glob}
structure RRow (Good : PtD → Prop) (s : ByteArray) (R : List (List D)) : Prop where
 eq : R = rowsOf (asL R)
 len : R.length ≤ 1000000
 row : RowOk Good s (asL R)
theorem row_at {R : List (List D)} {i : Nat} {s : ByteArray} {r : List D} (hR : R = rowsOf (asL R)) (h : (asL R)[i]? = some (s,r)) : R.getD i [] = .str s :: r ∧ i < R.length:=by
 have hi:=(List.getElem?_eq_some_iff.1 h).1
 rw [asL_len] at hi
 refine ⟨?_,hi⟩
 have e : (rowsOf (asL R))[i]? = some (.str s :: r):=by
  unfold rowsOf
  rw [List.getElem?_map,h]; rfl
 rw [← hR] at e
 rw [List.getD_eq_getElem?_getD,e]; rfl
def ptRow (r : List D) : List C:=(List.range 48).map fun j=>cOf (cts101.getD (1 + j) .oth) (cellD r (1 + j))
def rstateT (k : Nat) : List U → List Blk → Out RF
 | [.c (.p 50000 0),.c (.v (.string s))],[.cells 103 [.v (.int .i64 st),.v (.int .i64 bu),.v (.int .i64 ti),.v (.int .i64 nw),.r 50001 101],.row 101 (.rows R)] =>
  .need (RRow (GS k) s R) (.all (Option (PtD × Int)) (fun o=>lookP s (asL R) = o) ⟨_,rfl⟩ fun o=>match o with
   | none=>.ret (.t [.a zeroP.cells,.c (Bo false)],RTk st bu ti nw (.rows R),[])
   | some x=>.ret (.t [.a x.1.cells,.c (Bo true)],RTk st bu ti nw (.rows R),[]))
 | _,_=>.fail
theorem rstateT_ok {k : Nat} : OkF G 24 (rstateT k):=by
 have hS : AllSound (B [(50,.full (normF (B []) [60,9] rfindS))]) G:=.consF _ rfind_ok noneS
 refine okF false hS Tryz.func24 rfl (by decide) fun K us lent hk=>?_
 unfold rstateT at hk
 split at hk
 ·rename_i s st bu ti nw R
  refine ⟨by show 2 ≤ _; decide,?_⟩
  obtain ⟨hrow,hk⟩:=hk
  conv=>whnf
  refine ⟨Nat.le_trans hrow.len (by decide),?_⟩;conv=>whnf
  intro o ho
  have ho : findI s (asL R) = o:=ho
  cases o with
  | none =>
   have hk:=hk none (by show lookP s (asL R) = none; rw [lookP,(findI_none ho).1]; rfl)
   conv=>whnf
   exact hk
  | some i =>
   obtain ⟨r,h1,h2,_⟩:=findI_some ho
   obtain ⟨m,j,rfl,hm⟩:=hrow.row _ h2
   have hk:=hk (some (m,j)) (by show lookP s (asL R) = _; rw [lookP,h2]; rfl)
   obtain ⟨h3,h4⟩:=row_at hrow.eq h1
   conv=>whnf
   refine ⟨⟨by show (0 : Int) ≤ (i : Int); omega,by show (i : Int) < ((R.length : Nat) : Int); omega⟩,?_⟩;conv=>whnf
   show K (.t [.a (ptRow (R.getD i [])),.c (Bo true)],RTk st bu ti nw (.rows R),[])
   rw [h3]
   exact hk
 exact hk.elim
end Sx
namespace Sx
open Go Go.Proofs
set_option maxRecDepth 30000
variable {G : Glob}
theorem rowsOf_set {l : LL} {i : Nat} {s : ByteArray} {r : List D} : rowsOf (l.set i (s,r)) = (rowsOf l).set i (.str s :: r):=by unfold rowsOf; rw [List.map_set]
theorem rowsOf_snoc {l : LL} {s : ByteArray} {r : List D} : rowsOf (l ++ [(s,r)]) = rowsOf l ++ [.str s :: r]:=by unfold rowsOf; rw [List.map_append]; rfl
def only (Q : Exit → Act → World → Prop) : Exit → Act → World → Prop
 | .normal,a,w=>Q .normal a w
 | .ret,a,w=>Q .ret a w
 | _,_,_=>False
theorem only_of {Q : Exit → Act → World → Prop} : ∀ e a w,only Q e a w → Q e a w
 | .normal,_,_,h=>h
 | .ret,_,_,h=>h
 | .exit _,_,_,h=>h.elim
 | .goto _,_,_,h=>h.elim
 | .panic _,_,_,h=>h.elim
 | .outgrown,_,_,h=>h.elim
structure RPut (s : ByteArray) (R : List (List D)) : Prop where
 eq : R = rowsOf (asL R)
 len : R.length ≤ 1000000
 row : ∀ r,findM s (asL R) = some r → r.length = 49
def putOut (st bu ti nw : Int) (sv : SV) (R : List (List D)) : Option Nat → Out RF
 | some _=>.ret (sv,RTk st bu ti nw (.rows R),[])
 | none=>.ret (sv,[some (rtB st bu ti nw 60000),none],[.row 101 (.rows R)])
def rputT : List U → List Blk → Out RF
 | [.c (.p 50000 0),.c (.v (.string s)),.a q],[.cells 103 [.v (.int .i64 st),.v (.int .i64 bu),.v (.int .i64 ti),.v (.int .i64 nw),.r 50001 101],.row 101 (.rows R)]=>match asPt q with
  | some p=>.need (RPut s R) (.all (Option Nat) (fun o=>findI s (asL R) = o) ⟨_,rfl⟩ (putOut st bu ti nw (.t []) (rowsOf (putM s (p.row nw) (asL R)))))
  | none=>.fail
 | _,_=>.fail
theorem rput_ok : OkF G 51 rputT:=by
 have hS : AllSound (B [(50,.full (normF (B []) [60,9] rfindS))]) G:=.consF _ rfind_ok noneS
 refine sound_by true (S:=B [(50,.full (normF (B []) [60,9] rfindS))]) (BT _) Tryz.func51 rfl (by decide) fun K us lent hk=>?_
 unfold rputT at hk
 split at hk
 ·split at hk
  ·rename_i s q0 st bu ti nw R _ p hl
   rw [asPt_eq hl]
   obtain ⟨hP,hk⟩:=hk
   refine ⟨by show 3 ≤ _; decide,fun E β a w Q hT hG hnt hlow hhi hR hQN hQR=>Code.wp_mono only_of ?_⟩
   have hk : ∀ o,findI s (asL R) = o → (putOut st bu ti nw (.t []) (rowsOf (putM s (p.row nw) (asL R))) o).wp K:=hk
   obtain ⟨T,G',w0,X,L,nt,own0,β0⟩:=E
   simp only at hT hG hnt hlow hhi
   subst hT hG hnt
   refine wp_seq (wp_region_list (runOps_sound (S:=B [(50,.full (normF (B []) [60,9] rfindS))]) (BT _) hS rfl rfl hlow hhi _ (N:=Sub [(0,.u (.c (.p 50000 0))),(1,.u (.c (St s))),(5,.u (.c (.p 5 0)))] [(5,.cells 55 p.cells),(50000,rtB st bu ti nw 50001),(50001,.row 101 (.rows R))]) hR ?_ ?_))
   ·conv=>whnf
    exact ⟨⟨rfl,rfl,rfl,trivial⟩,rfl,rfl,rfl,trivial⟩
   rintro a w1 ⟨env1,own1,β1,hN1,hR⟩
   have hR:=hR.sub hN1 rfl
   refine wp_seq (wp_region_list (runOps_sound (S:=B [(50,.full (normF (B []) [60,9] rfindS))]) (BT _) hS rfl rfl hlow hhi _ (N:=fun env own=>∃ o,findI s (asL R) = o ∧ Sub [(0,.u (.c (.p 50000 0))),(1,.u (.c (St s))),(5,.u (.c (.p 5 0))),(6,.u (.c (I64 (idxI o))))] [(5,.cells 55 p.cells),(50000,rtB st bu ti nw 50001),(50001,.row 101 (.rows R))] env own) hR ?_ ?_))
   ·conv=>whnf
    refine ⟨by have:=hP.len; show R.length ≤ 1000000000; omega,?_⟩;conv=>whnf
    intro o ho
    have ho : findI s (asL R) = o:=ho;conv=>whnf
    exact ⟨o,ho,⟨rfl,rfl,rfl,rfl,trivial⟩,rfl,rfl,rfl,trivial⟩
   rintro a w2 ⟨env2,own2,β2,⟨o,ho,hN2⟩,hR⟩
   have hR:=hR.sub hN2 rfl
   have hk:=hk o ho
   cases o with
   | some i =>
    obtain ⟨r,h1,h2,h3⟩:=findI_some ho
    obtain ⟨h4,h5⟩:=row_at hP.eq h1
    refine wpC_sound (S:=B [(50,.full (normF (B []) [60,9] rfindS))]) (BT _) hS rfl rfl hlow hhi _ (N:=retF (B [(50,.full (normF (B []) [60,9] rfindS))]) [] [] 2 true K) (X:=fun _ _ _=>False) (R:=fun _ _=>False) hR ?_ hQN (fun _ _ _ ⟨_,_,_,hh,_⟩=>hh.elim) (fun _ _ ⟨_,_,_,hh,_⟩=>hh.elim);conv=>whnf
    refine ⟨mixed,[],[],[200013],by kernel_rfl,?_⟩;conv=>whnf
    refine ⟨⟨by show (0 : Int) ≤ (i : Int); omega,by show (i : Int) < ((R.length : Nat) : Int); omega⟩,?_⟩;conv=>whnf
    show K (.t [],RTk st bu ti nw (.rows (R.set i ((.str s :: p.row nw) ++ (R.getD i []).drop 50))),[])
    have e : R.set i ((.str s :: p.row nw) ++ (R.getD i []).drop 50) = rowsOf (putM s (p.row nw) (asL R)):=by
     rw [h3,rowsOf_set,← hP.eq,h4,List.drop_eq_nil_of_le (by rw [List.length_cons,hP.row _ h2]; omega),List.append_nil]
    rw [e]
    exact hk
   | none =>
    refine wp_seq ?_
    refine wp_seq (wp_region_list (runOps_sound (S:=B [(50,.full (normF (B []) [60,9] rfindS))]) (BT _) hS rfl rfl hlow hhi _ (N:=Sub [(0,.u (.c (.p 50000 0))),(1,.u (.c (St s))),(5,.u (.c (.p 5 0))),(11,.u (.c (Bo true)))] [(5,.cells 55 p.cells),(50000,rtB st bu ti nw 50001),(50001,.row 101 (.rows R))]) hR ?_ ?_))
    ·conv=>whnf
     exact ⟨⟨rfl,rfl,rfl,rfl,trivial⟩,rfl,rfl,rfl,trivial⟩
    rintro a w3 ⟨env3,own3,β3,hN3,hR⟩
    have hR:=hR.sub hN3 rfl
    refine wp_cond_split (evV_eq hR (x:=.tmp 11) rfl).1 (fun _=>?_) (fun h=>by cases h)
    refine wp_seq (draw_float (S:=B [(50,.full (normF (B []) [60,9] rfindS))]) (BT _) hS rfl rfl hlow hhi hR (d:=12) (x:=.tmp 0) (sv:=.u (.c (.p 50000 0))) rfl rfl rfl rfl (by show 12 < 41; decide) rfl mixed (by kernel_rfl) (by kernel_rfl) (by kernel_rfl) (W:=[]) (el:=[]) (k:=13) (by decide) (by kernel_rfl) (by kernel_rfl) (N:=Sub [] [(50000,rtB st bu ti nw 25),(25,.row 101 (.rows (R ++ [.str s :: p.row nw])))]) (fun _ _ _ h=>h) ?_ ?_)
    ·conv=>whnf
     refine ⟨by have:=hP.len; show R.length + 1 ≤ 137438953472; omega,?_⟩;conv=>whnf
     exact ⟨trivial,rfl,rfl,trivial⟩
    intro env own β a w hN hR
    have hR:=hR.sub hN rfl
    refine wp_ret (hQR a w ⟨_,_,_,?_,hR⟩)
    have e : R ++ [.str s :: p.row nw] = rowsOf (putM s (p.row nw) (asL R)):=by
     rw [(findI_none ho).2,rowsOf_snoc,← hP.eq]
    rw [e]
    conv=>whnf
    exact hk
  exact hk.elim
 exact hk.elim
end Sx
