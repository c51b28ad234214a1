/- Part of the proof: a machine of states for walks, and contracts of functions over it. Conditions: those that each theorem names. -/
import Derived.Test.YtcjdbimojffggaaGreatDoorC35
import Derived.Test.YtcjdbimojffggaaGreatDoorC34
set_option linter.unusedVariables false
set_option linter.unusedSimpArgs false
namespace Sx
open Go Go.Proofs Go.ChangeMaps
set_option maxRecDepth 30000
def G0 : Glob:=⟨0,[]⟩
theorem G0ok (w : World) : GOk G0 w:=⟨Nat.zero_le _,fun _ h=>by cases h⟩
theorem tick1_call {w : World} {A A1 : Nat → Prop} {β1 : Nat → Option Nat} {own1 : Own} {b1 b2 : Nat} {s : ByteArray} {row : List D} {y : Value} {st bu ti nw : Int} {mv : Value}
  (h1 : w.heap[b1]? = some (.cells #[.pointer (some ⟨b2,0,none⟩)] 24 (0,0)))
  (h2 : w.heap[b2]? = some (.cells #[.int .i64 st,.int .i64 bu,.int .i64 ti,.int .i64 nw,mv] 81 (0,0))) (hm : oneV mv = true)
  (h12 : b1 ≠ b2) (hA : ∀ b,A b → b < w.heap.size) (hA1 : A b1) (hA2 : A b2)
  (hy : DenU TB w β1 A1 own1 (.a (rowCs cts62 row)) y) (hAA : ∀ b,A b → A1 b) :
  Calls PR 45 #[.string s,y,.pointer (some ⟨b1,0,none⟩)] w fun e w'=>e = .returned (.bool (oldB nw ti row)) ∧ Fr w w' (fun _=>False):=by
 let β : Nat → Option Nat:=fun n=>if n = 50000 then some b1 else if n = 50001 then some b2 else none
 let X : Nat → Prop:=fun b=>A b ∧ b ≠ b1 ∧ b ≠ b2
 let lent : List Blk:=[.cells 24 [.p 50001 0],.cells 81 [I64 st,I64 bu,I64 ti,I64 nw,.v mv]]
 have e0 : lentOwn lent 50000 = some (.cells 24 [.p 50001 0]):=rfl
 have e1 : lentOwn lent 50001 = some (.cells 81 [I64 st,I64 bu,I64 ti,I64 nw,.v mv]):=rfl
 have c0 : β 50000 = some b1:=rfl
 have c1 : β 50001 = some b2:=rfl
 have two : ∀ n,lentOwn lent n ≠ none → n = 50000 ∨ n = 50001:=by
  intro n hn
  cases hB : lentOwn lent n with
  | none=>exact absurd hB hn
  | some B =>
   obtain ⟨i,rfl,hi⟩:=lentOwn_some hB
   have:=(List.getElem?_eq_some_iff.1 hi).1
   have : i < 2:=this
   omega
 have av : ∀ b,Av X β (lentOwn lent) b → A b:=by
  rintro b (hx | ⟨n,h3,h4⟩)
  ·exact hx.1
  rcases two n h3 with rfl | rfl
  ·rw [c0] at h4; exact Option.some.inj h4 ▸ hA1
  rw [c1] at h4; exact Option.some.inj h4 ▸ hA2
 have stA : Stay w A1 w (Av X β (lentOwn lent)):=⟨Nat.le_refl _,fun b _ hb=>⟨rfl,fun hh=>hb (hAA b (av b hh))⟩⟩
 have hy1 : All2 (DenU TB w β1 A1 own1) [.a (rowCs cts62 row)] [y]:=⟨hy,trivial⟩
 have hy2:=denUs_free (β':=β) (own':=lentOwn lent) stA (by rfl) hy1
 have hO : OwnOk TB G0 w β X (lentOwn lent):=by
  refine ⟨?_,?_,?_⟩
  ·intro n B hB
   rcases two n (by simp [hB]) with rfl | rfl
   ·rw [e0] at hB
    obtain rfl:=Option.some.inj hB
    exact ⟨b1,[.pointer (some ⟨b2,0,none⟩)],c0,h1,⟨b2,81,_,e1,c1,rfl⟩,trivial⟩
   rw [e1] at hB
   obtain rfl:=Option.some.inj hB
   exact ⟨b2,[.int .i64 st,.int .i64 bu,.int .i64 ti,.int .i64 nw,mv],c1,h2,⟨rfl,rfl⟩,⟨rfl,rfl⟩,⟨rfl,rfl⟩,⟨rfl,rfl⟩,⟨rfl,hm⟩,trivial⟩
  ·intro n m b h3 h4 h5 h6
   rcases two n h3 with rfl | rfl <;> rcases two m h4 with rfl | rfl
   ·rfl
   ·rw [c0] at h5; rw [c1] at h6; exact absurd ((Option.some.inj h5).trans (Option.some.inj h6).symm) h12
   ·rw [c1] at h5; rw [c0] at h6; exact absurd ((Option.some.inj h6).trans (Option.some.inj h5).symm) h12
   rfl
  intro n b h3 h4
  rcases two n h3 with rfl | rfl
  ·rw [c0] at h4
   obtain rfl:=Option.some.inj h4
   exact ⟨hA _ hA1,fun hx=>hx.2.1 rfl,Nat.zero_le _⟩
  rw [c1] at h4
  obtain rfl:=Option.some.inj h4
  exact ⟨hA _ hA2,fun hx=>hx.2.2 rfl,Nat.zero_le _⟩
 have hc:=(tick1_ok (G:=G0) (row:=row)).2 (fun x=>x = (.u (.c (Bo (oldB nw ti row))),[some (.cells 24 [.p 50001 0]),some (.cells 81 [I64 st,I64 bu,I64 ti,I64 nw,.v mv])],[]))
  [.c (.v (.string s)),.a (rowCs cts62 row),.c (.p 50000 0)] lent β X w [.string s,y,.pointer (some ⟨b1,0,none⟩)] (by show 2 ≤ _; decide) ⟨rfl,fun c hc=>by subst hc; rfl⟩ hO (G0ok w) (fun b hb=>hA b hb.1)
  ⟨⟨rfl,rfl⟩,hy2.1,⟨b1,24,_,e0,c0,rfl⟩,trivial⟩
 refine hc.mono fun e w' ⟨r,outs,news,β',v,q1,q2,q3,q4,q5,q6,q7,q8⟩=>?_
 simp only [Prod.mk.injEq] at q2
 obtain ⟨rfl,rfl,rfl⟩:=q2
 have f0 : β' 50000 = some b1:=(q7 50000 _ _ e0 rfl).1
 have f1 : β' 50001 = some b2:=(q7 50001 _ _ e1 rfl).1
 refine ⟨by rw [q1]; exact congrArg Ending.returned q5.1,q6.os,q6.tape,q6.output,q6.size,fun b hb _=>?_⟩
 by_cases d1 : b = b1
 ·subst d1
  obtain ⟨b',cs,k1,k2,k3⟩:=q4.blk 50000 (.cells 24 [.p 50001 0]) rfl
  rw [f0] at k1
  obtain rfl:=Option.some.inj k1
  match cs,k3 with
  | [c],⟨k4,_⟩ =>
   obtain ⟨b',t,l,k5,k6,k7⟩:=k4
   rw [f1] at k6
   obtain rfl:=Option.some.inj k6
   rw [k2,h1,k7]
 by_cases d2 : b = b2
 ·subst d2
  obtain ⟨b',cs,k1,k2,k3⟩:=q4.blk 50001 (.cells 81 [I64 st,I64 bu,I64 ti,I64 nw,.v mv]) rfl
  rw [f1] at k1
  obtain rfl:=Option.some.inj k1
  match cs,k3 with
  | [x1,x2,x3,x4,x5],⟨k4,k5,k6,k7,k8,_⟩ =>
   rw [k2,h2,k4.1,k5.1,k6.1,k7.1,k8.1]
 refine q6.heap b hb ?_
 rintro ⟨n,h3,h4⟩
 rcases two n h3 with rfl | rfl
 ·rw [c0] at h4; exact d1 (Option.some.inj h4).symm
 rw [c1] at h4; exact d2 (Option.some.inj h4).symm
end Sx
namespace Sx
open Go Go.Proofs Go.ChangeMaps
set_option maxRecDepth 30000
theorem put_at {a : Act} {d t : Nat} {v : Value} (hd : d < a.tmps.size) : (a.put (some d) v).tmps.getD t undef = if t = d then v else a.tmps.getD t undef:=by
 split
 ·rename_i e; subst e; simp [Act.put,hd]
 rename_i e; simp [Act.put,Array.getElem?_setIfInBounds_ne (Ne.symm e)]
theorem put_size {a : Act} {d : Nat} {v : Value} : (a.put (some d) v).tmps.size = a.tmps.size:=by simp [Act.put]
theorem eval_put {a : Act} {d t : Nat} {v : Value} (hd : d < a.tmps.size) : (a.put (some d) v).eval (.tmp t) = if t = d then v else a.eval (.tmp t):=put_at hd
structure DfA (w0 : World) (bm r : Nat) (clo : Value) (a : Act) (w : World) : Prop where
 defers : a.defers = []
 size : a.tmps.size = 19
 t0 : a.eval (.tmp 0) = .map (some bm)
 t1 : a.eval (.tmp 1) = clo
 t7 : a.eval (.tmp 7) = .pointer (some ⟨r,0,none⟩)
 fr : Fr w0 w fun x=>x = bm
structure DfI (w0 : World) (A : Nat → Prop) (bm r : Nat) (clo : Value) (p : ByteArray × List D → Bool) (l0 l : List (ByteArray × List D)) (es : Array MapEntry) (clock : Nat) (seen : Array Nat) (a : Act) (w : World) : Prop where
 dA : DfA w0 bm r clo a w
 hm : w.heap[bm]? = some (.map es clock)
 hr : w.heap[r]? = some (.mapIter (some bm) clock seen clock)
 it : Iter TB w0 A 79 p l0 l es clock seen
noncomputable def E1 (A : Nat → Prop) (w : World) : Ctx:={ T:=TB,G:=G0,w0:=w,X:=A,L:=fun _=>False,nt:=19,own0:=fun _=>none,β0:=fun _=>none }
def env0 (bm r : Nat) (clo : Value) : List (Nat × SV):=[(0,.u (.c (.v (.map (some bm))))),(1,.u (.c (.v clo))),(7,.u (.c (.v (.pointer (some ⟨r,0,none⟩)))))]
theorem DfA.rel {w0 w : World} {A : Nat → Prop} {bm r : Nat} {clo : Value} {a : Act}
  (h : DfA w0 bm r clo a w) (hclo : oneV clo = true) (hA : ∀ b,A b → b < w0.heap.size) : Rel (E1 A w) (fun _=>none) (lookT (env0 bm r clo)) (fun _=>none) a w:=by
 refine ⟨h.defers,h.size,?_,⟨fun n B hB=>(nomatch hB),fun n m b h1=>absurd rfl h1,fun n b h1=>absurd rfl h1⟩,G0ok w,Fr.refl _ _,fun n b h1=>absurd rfl h1,fun b hb=>Nat.lt_of_lt_of_le (hA b hb) h.fr.size,fun n B B' h1=>(nomatch h1)⟩
 intro t sv ht
 have hm:=lookT_mem ht
 simp only [env0,List.mem_cons,List.not_mem_nil,or_false,Prod.mk.injEq] at hm
 rcases hm with ⟨rfl,rfl⟩ | ⟨rfl,rfl⟩ | ⟨rfl,rfl⟩
 ·exact ⟨h.t0,rfl⟩
 ·exact ⟨h.t1,hclo⟩
 exact ⟨h.t7,rfl⟩
theorem DfA.back {w0 w w' : World} {A : Nat → Prop} {bm r : Nat} {clo : Value} {a a' : Act} {β : Nat → Option Nat} {env : Env} {own : Own} (h : DfA w0 bm r clo a w) (hR : Rel (E1 A w) β env own a' w')
  (h0 : env 0 = some (.u (.c (.v (.map (some bm)))))) (h1 : env 1 = some (.u (.c (.v clo)))) (h7 : env 7 = some (.u (.c (.v (.pointer (some ⟨r,0,none⟩)))))) : DfA w0 bm r clo a' w' :=
 ⟨hR.defers,hR.size,(hR.vals 0 _ h0).1,(hR.vals 1 _ h1).1,(hR.vals 7 _ h7).1,h.fr.trans hR.frame fun _ _ hh=>hh.elim⟩
theorem clo_run {o : Oper} {cal : Operand} {args : Array Operand} {ts : Array TypeId} {f : FuncId} {caps : Array Value} {a : Act} {w : World} (he : Entr PR f) (ho : o.op = .call ⟨.value cal,args,ts⟩) (hx : a.eval cal = .func (.func f) #[] caps) :
  (execOp a.eval o).run PR w = .ok (.enter f (args.map a.eval ++ caps)) w:=by
 obtain ⟨fn,h1,h2,h3⟩:=he
 have h4 : ¬ fn.body = none:=by cases hb : fn.body <;> simp_all
 have h5 : ¬ fn.name = "runtime.NumGoroutine" := by simpa using h3
 simp [execOp,ho,resolve,hx,Deferred.ofValue,invoke,callFunc,h1,h5,h4]
set_option maxHeartbeats 1000000 in
theorem delfunc_call {w : World} {A : Nat → Prop} {bm b1 b2 : Nat} {l : List (ByteArray × List D)} {es : Array MapEntry} {clock : Nat} {st bu ti nw : Int}
  (hm : w.heap[bm]? = some (.map es clock)) (rd : MapRd TB w A 79 l es clock) (keys : (l.map (·.1)).Nodup)
  (h1 : w.heap[b1]? = some (.cells #[.pointer (some ⟨b2,0,none⟩)] 24 (0,0)))
  (h2 : w.heap[b2]? = some (.cells #[.int .i64 st,.int .i64 bu,.int .i64 ti,.int .i64 nw,.map (some bm)] 81 (0,0)))
  (h12 : b1 ≠ b2) (hA : ∀ b,A b → b < w.heap.size) (hA1 : A b1) (hA2 : A b2) (hAm : A bm) (n1 : b1 ≠ bm) (n2 : b2 ≠ bm) :
  Calls PR 44 #[.map (some bm),.func (.func 45) #[] #[.pointer (some ⟨b1,0,none⟩)]] w fun e w'=>e = .returned (.tuple #[]) ∧
   (∃ es',w'.heap[bm]? = some (.map es' clock) ∧ MapRd TB w A 79 (l.filter fun kr=>!oldB nw ti kr.2) es' clock) ∧ Fr w w' fun x=>x = bm:=by
 have hu79 : PR.underlying 79 = some (.map 9 85):=by kernel_rfl
 have hu9 : PR.underlying 9 = some .string:=by kernel_rfl
 refine calls_of_wp Tryz.func44 rfl ?_
 refine wp_seq (wp_region_list ?_)
 show wpList PR _ _ [_,_] _ w
 refine list_run rfl (v:=.map (some bm)) (w':=w) (by simp [execOp,Act.eval]) ?_
 refine list_run rfl (v:=.pointer (some ⟨w.heap.size,0,none⟩)) (w':=w.alloc (.mapIter (some bm) clock #[] clock)) ?_ ?_
 ·simp [execOp,eval_put,run_range_map w 79 9 85 bm es clock hu79 hm]
 refine wpList_nil ?_
 have hlt : bm < w.heap.size:=hA _ hAm
 have hc0 : ∀ e ∈ es,e.born < clock:=rd.choose_spec.2.2.2.1
 refine wp_block (wp_loop_ix (α:=List (ByteArray × List D) × Array MapEntry × Array Nat) (fun x a w'=>DfI w A bm w.heap.size (.func (.func 45) #[] #[.pointer (some ⟨b1,0,none⟩)]) (fun kr=>!oldB nw ti kr.2) l x.1 x.2.1 clock x.2.2 a w') (fun x=>(leftOf x.2.1 x.2.2).size) (l,es,#[]) ?_ ?_)
 ·refine ⟨⟨rfl,by simp [Act.put],?_,?_,?_,⟨rfl,rfl,rfl,by simp,fun b hb _=>heap_alloc_old w _ hb⟩⟩,(heap_alloc_old w _ hlt).trans hm,heap_alloc_new w _,⟨rd,keys,fun j e kr _ _ hs=>by simp at hs,rfl⟩⟩
  ·simp [Act.put,Act.eval]
  ·simp [Act.put,Act.eval]
  simp [Act.put,Act.eval]
 rintro ⟨l1,es1,seen⟩ a w1 h
 simp only at h
 have hold : ∀ x ∈ es1.toList,x.born < clock:=by
  obtain ⟨_,_,_,_,hh,_⟩:=h.it.rd
  exact fun x hx=>hh x (Array.mem_toList_iff.1 hx)
 have e7 : a.eval (.tmp 7) = .pointer (some ⟨w.heap.size,0,none⟩):=h.dA.t7
 have hsz : a.tmps.size = 19:=h.dA.size
 refine wp_seq (wp_region_list ?_)
 rcases run_next_at (P:=PR) w1 0 w.heap.size bm clock clock seen es1 clock h.hr h.hm hold (Nat.le_refl _) with ⟨hz,hrun⟩ | ⟨e,he,w2,hw2,hrun⟩
 ·show wpList PR _ _ [_,_] a w1
  refine list_run rfl (v:=.tuple #[.bool false]) (w':=w1) (by simp [execOp,e7,hrun]) ?_
  refine list_run rfl (v:=.bool false) (w':=w1) (by simp [execOp,eval_put,hsz,Instr.extract]) ?_
  refine wpList_nil ?_
  refine wp_seq (wp_cond (t:=false) ?_ (wp_exit ?_))
  ·simp [eval_put,put_size,hsz]
  simp only [Exit.then,Exit.inBlock,if_true]
  have hl:=h.it.done hz
  refine ⟨h.dA.defers,.tuple #[],by simp [results,Tryz.f44],rfl,⟨es1,h.hm,?_⟩,h.dA.fr⟩
  rw [← hl]
  exact h.it.rd
 -- an entry
 have hlt1 : bm < w1.heap.size:=Nat.lt_of_lt_of_le hlt h.dA.fr.size
 have hrlt : w.heap.size < w1.heap.size:=by
  by_cases c : w.heap.size < w1.heap.size
  ·exact c
  have:=h.hr; rw [Array.getElem?_eq_none (by omega)] at this; cases this
 have hrne : w.heap.size ≠ bm:=by omega
 have f12 : Fr w1 w2 fun x=>x = w.heap.size:=by rcases hw2 with rfl | rfl <;> exact ⟨rfl,rfl,rfl,Nat.le_refl _,fun _ _ _=>rfl⟩
 let w3 : World:=setBlock w2 w.heap.size (.mapIter (some bm) clock (seen.push e.born) clock)
 have f13 : Fr w1 w3 fun x=>x = w.heap.size:=f12.trans setB_fr (fun _ _ hh=>hh)
 have f03 : Fr w w3 fun x=>x = bm:=h.dA.fr.trans f13 fun x hx hh=>absurd hh (by omega)
 have hm3 : w3.heap[bm]? = some (.map es1 clock):=(f13.heap bm hlt1 (by omega)).trans h.hm
 have hr3 : w3.heap[w.heap.size]? = some (.mapIter (some bm) clock (seen.push e.born) clock):=setB_at (Nat.lt_of_lt_of_le hrlt f12.size)
 obtain ⟨he1,he2⟩:=mem_left he
 obtain ⟨j,hj⟩:=List.mem_iff_getElem?.1 he1
 obtain ⟨ce,q1,q2,q3,q4,q5⟩:=h.it.rd
 obtain rfl : ce = cts62:=by rw [cts62_ok] at q1; exact (El.rows.inj (Option.some.inj q1)).symm
 have hj' : es1[j]? = some e:=by simpa using hj
 have hjl : j < l1.length:=by
  have:=(Array.getElem?_eq_some_iff.1 hj').1; omega
 obtain ⟨kr,hkr⟩ : ∃ kr,l1[j]? = some kr:=⟨_,List.getElem?_eq_getElem hjl⟩
 obtain ⟨q6,born,vs,q7,q8,q9⟩:=q5 j kr hkr
 rw [hj'] at q7
 have hen:=run_entry_at (P:=PR) w3 w.heap.size bm clock seen es1 clock e hr3 hm3 he1 q3
 obtain rfl:=Option.some.inj q7
 simp only at hrun hen he he1 he2 hj hj' hr3
 show wpList PR _ _ [_,_] a w1
 refine list_run rfl (v:=.tuple #[.bool true,.string kr.1,.agg vs.toArray]) (w':=w3) (by simp [execOp,e7,hrun]; rfl) ?_
 refine list_run rfl (v:=.bool true) (w':=w3) (by simp [execOp,eval_put,hsz,Instr.extract]) ?_
 refine wpList_nil ?_
 refine wp_seq (wp_cond (t:=true) ?_ (wp_skip ?_))
 ·simp [eval_put,put_size,hsz]
 refine wp_block (wp_seq (wp_region_list ?_))
 have dA2 : DfA w bm w.heap.size (.func (.func 45) #[] #[.pointer (some ⟨b1,0,none⟩)]) ((a.put (some 8) (.tuple #[.bool true,.string kr.1,.agg vs.toArray])).put (some 9) (.bool true)) w3 :=
  ⟨h.dA.defers,by simp [put_size,hsz],by simp [eval_put,put_size,hsz,h.dA.t0],by simp [eval_put,put_size,hsz,h.dA.t1],by simp [eval_put,put_size,hsz,h.dA.t7],f03⟩
 have hR0:=dA2.rel (A:=A) rfl hA
 have hlow : ∀ n,n < 50000 → (E1 A w3).own0 n = none:=fun _ _=>rfl
 have hhi : ∀ n,100000 ≤ n → (E1 A w3).own0 n = none:=fun _ _=>rfl
 have st03 : Stay w A w3 (Av A (fun _=>none) (fun _=>none)):=⟨f03.size,fun b hb hn=>⟨f03.heap b hb fun hh=>hn (hh ▸ hAm),fun hh=>hn (hh.resolve_right fun ⟨_,hh,_⟩=>hh rfl)⟩⟩
 have hden : DenS TB w3 (fun _=>none) (Av A (fun _=>none) (fun _=>none)) (fun _=>none) (.t [.c (St kr.1),.a (rowCs cts62 kr.2)]) (.tuple #[.string kr.1,.agg vs.toArray]) :=
  ⟨[.string kr.1,.agg vs.toArray],rfl,⟨rfl,rfl⟩,⟨vs,rfl,rowCs_den q6 q8 fun j ct v d a b c=>(q9 j ct v d a b c).stay st03⟩,trivial⟩
 have hR1:=hR0.put (d:=10) (by show 10 < 19; decide) hden
 have e7':=dA2.t7
 refine list_run rfl (v:=.tuple #[.string kr.1,.agg vs.toArray]) (w':=w3) (by simp [execOp,e7',hen]) ?_
 refine runOps_sound (S:=B []) (E:=E1 A w3) (G:=G0) (BT []) noneS rfl rfl hlow hhi _ (N:=Sub (env0 bm w.heap.size (.func (.func 45) #[] #[.pointer (some ⟨b1,0,none⟩)]) ++ [(4,.u (.c (St kr.1))),(5,.u (.c (.p 5 0)))]) [(5,.cells 85 (rowCs cts62 kr.2))]) hR1 ?_ ?_
 ·conv=>whnf
  exact ⟨⟨rfl,rfl,rfl,rfl,rfl,trivial⟩,⟨rfl,trivial⟩⟩
 rintro a4 w4 ⟨env4,own4,β4,hN4,hR4⟩
 have hR4:=hR4.sub hN4 rfl
 refine wp_seq (wp_region_list ?_)
 show wpList PR _ _ ([_,_,_] ++ [_]) a4 w4
 refine runOps_app (S:=B []) (E:=E1 A w3) (G:=G0) (BT []) noneS rfl rfl hlow hhi _ (N:=Sub (env0 bm w.heap.size (.func (.func 45) #[] #[.pointer (some ⟨b1,0,none⟩)]) ++ [(4,.u (.c (St kr.1))),(13,.u (.c (.v (.func (.func 45) #[] #[.pointer (some ⟨b1,0,none⟩)])))),(14,.u (.c (St kr.1))),(15,.u (.a (rowCs cts62 kr.2)))]) []) hR4 ?_ ?_
 ·conv=>whnf
  exact ⟨⟨rfl,rfl,rfl,rfl,rfl,rfl,rfl,trivial⟩,trivial⟩
 rintro a5 w5 ⟨env5,own5,β5,hN5,hR5⟩
 have hR5:=hR5.sub hN5 rfl
 have v13 : a5.eval (.tmp 13) = _:=(hR5.vals 13 _ rfl).1
 have v14 : a5.eval (.tmp 14) = .string kr.1:=(hR5.vals 14 _ rfl).1
 have v15 : DenU TB w5 β5 _ _ (.a (rowCs cts62 kr.2)) (a5.eval (.tmp 15)):=hR5.vals 15 _ rfl
 have dA5:=dA2.back hR5 rfl rfl rfl
 have c5:=tick1_call (A:=A) (s:=kr.1) ((dA5.fr.heap b1 (hA _ hA1) n1).trans h1) ((dA5.fr.heap b2 (hA _ hA2) n2).trans h2) rfl h12 (fun b hb=>Nat.lt_of_lt_of_le (hA b hb) dA5.fr.size) hA1 hA2 v15 (fun b hb=>.inl hb)
 refine list_call rfl (clo_run (tick1_ok (G:=G0) (row:=kr.2)).1 rfl v13) ?_
 rw [show (#[Operand.tmp 14,.tmp 15].map a5.eval ++ #[.pointer (some ⟨b1,0,none⟩)]) = #[.string kr.1,a5.eval (.tmp 15),.pointer (some ⟨b1,0,none⟩)] by simp [v14]]
 refine c5.mono fun e w6 ⟨c6,f6⟩=>⟨_,c6,wpList_nil ?_⟩
 have hR6:=(hR5.idle f6).put (d:=16) (sv:=.u (.c (Bo (oldB nw ti kr.2)))) (v:=.bool (oldB nw ti kr.2)) (by show 16 < 19; decide) ⟨rfl,rfl⟩
 have dA6:=dA2.back hR6 rfl rfl rfl
 have hm6:=(hR6.frame.heap bm (Nat.lt_of_lt_of_le hlt f03.size) id).trans hm3
 have hr6:=(hR6.frame.heap w.heap.size (Nat.lt_of_lt_of_le hrlt f13.size) id).trans hr3
 have v16:=(hR6.vals 16 _ rfl).1
 refine wp_cond_split v16 (fun ht=>?_) (fun hf=>?_)
 ·refine wp_region_list ?_
  show wpList PR _ _ ([_,_] ++ [_]) _ w6
  refine runOps_app (S:=B []) (E:=E1 A w3) (G:=G0) (BT []) noneS rfl rfl hlow hhi _ (N:=Sub (env0 bm w.heap.size (.func (.func 45) #[] #[.pointer (some ⟨b1,0,none⟩)]) ++ [(17,.u (.c (.v (.map (some bm))))),(18,.u (.c (St kr.1)))]) []) hR6 ?_ ?_
  ·conv=>whnf
   exact ⟨⟨rfl,rfl,rfl,rfl,rfl,trivial⟩,trivial⟩
  rintro a7 w7 ⟨env7,own7,β7,hN7,hR7⟩
  have hR7:=hR7.sub hN7 rfl
  have v17 : a7.eval (.tmp 17) = .map (some bm):=(hR7.vals 17 _ rfl).1
  have v18 : a7.eval (.tmp 18) = .string kr.1:=(hR7.vals 18 _ rfl).1
  have dA7:=dA2.back hR7 rfl rfl rfl
  have hm7:=(hR7.frame.heap bm (Nat.lt_of_lt_of_le hlt f03.size) id).trans hm3
  have hr7:=(hR7.frame.heap w.heap.size (Nat.lt_of_lt_of_le hrlt f13.size) id).trans hr3
  obtain ⟨kl,kk⟩:=keys_at h.it.rd
  obtain ⟨y,hy⟩:=find_at h.it.keys kl kk hkr
  refine list_run rfl (v:=.tuple #[]) (w':=setBlock w7 bm (.map (es1.eraseIdxIfInBounds j) clock)) ?_ (wpList_nil ?_)
  ·have:=delete_run (kt':=9) (ty:=0) hu79 hu9 hm7 hy
   simp [execOp,resolve,invoke,builtin,v17,v18,this]
  refine ⟨(l1.eraseIdx j,es1.eraseIdxIfInBounds j,seen.push born),⟨⟨dA7.defers,dA7.size,dA7.t0,dA7.t1,dA7.t7,dA7.fr.trans setB_fr fun _ _ hh=>hh⟩,setB_at ?_,?_,?_⟩,left_drop he⟩
  ·exact Nat.lt_of_lt_of_le hlt dA7.fr.size
  ·exact (setB_fr.heap _ (Nat.lt_of_lt_of_le (Nat.lt_of_lt_of_le hrlt f13.size) hR7.frame.size) hrne).trans hr7
  exact h.it.drop hj' hkr (by simp [ht])
 refine wp_skip ?_
 refine ⟨(l1,es1,seen.push born),⟨dA6,hm6,hr6,?_⟩,?_⟩
 ·exact h.it.keep hj' hkr (by simp [hf])
 exact left_shrinks es1 seen _ he
end Sx
namespace Sx
open Go Go.Proofs Go.ChangeMaps
set_option maxRecDepth 30000
variable {G : Glob}
def tickS : List U → List Blk → Out RF
 | [.c (.p 50000 0)],[.cells 81 [.v (.int .i64 st),.v (.int .i64 bu),.v (.int .i64 ti),.v (.int .i64 nw),.m 50001 79],.map 79 l] =>
  .need ((l.map (·.1)).Nodup) (.all (List (ByteArray × List D)) (fun l'=>(l.filter fun kr=>!oldB (w64 (nw + 1)) ti kr.2) = l') ⟨_,rfl⟩ fun l' =>
   .ret (.u (.c (I64 (w64 (((l.length : Nat) : Int) - ((l'.length : Nat) : Int))))),[some (tbB st bu ti (w64 (nw + 1))),some (.map 79 l')],[]))
 | _,_=>.fail
set_option maxHeartbeats 1000000 in
theorem tick_ok : OkF G 14 tickS:=by
 refine sound_by false (S:=B []) (BT []) Tryz.func14 rfl (by decide) fun K us lent hk=>?_
 unfold tickS at hk
 split at hk
 ·rename_i st bu ti nw l
  obtain ⟨hnd,hk⟩:=hk
  have hk:=hk _ rfl
  refine ⟨by show 1 ≤ _; decide,fun E β a w Q hT hG hnt hlow hhi hR hQN hQR=>?_⟩
  obtain ⟨T,G',w0,X,L,nt,own0,β0⟩:=E
  simp only at hT hG hnt hlow hhi
  subst hT hG hnt
  -- regions 0,1,2
  refine wp_seq (wp_region_list (runOps_sound (S:=B []) (BT []) noneS rfl rfl hlow hhi _ (N:=Sub [(1,.u (.c (.p 1 0)))] [(1,.cells 24 [.p 50000 0]),(50000,.cells 81 [I64 st,I64 bu,I64 ti,I64 nw,.m 50001 79]),(50001,.map 79 l)]) hR ?_ ?_))
  ·conv=>whnf
   exact ⟨⟨rfl,trivial⟩,⟨rfl,rfl,rfl,trivial⟩⟩
  rintro a w1 ⟨env1,own1,β1,hN1,hR⟩
  have hR:=hR.sub hN1 rfl
  refine wp_seq (wp_region_list (runOps_sound (S:=B []) (BT []) noneS rfl rfl hlow hhi _ (N:=Sub [(1,.u (.c (.p 1 0)))] [(1,.cells 24 [.p 50000 0]),(50000,.cells 81 [I64 st,I64 bu,I64 ti,I64 (w64 (nw + 1)),.m 50001 79]),(50001,.map 79 l)]) hR ?_ ?_))
  ·conv=>whnf
   exact ⟨⟨rfl,trivial⟩,⟨rfl,rfl,rfl,trivial⟩⟩
  rintro a w2 ⟨env2,own2,β2,hN2,hR⟩
  have hR:=hR.sub hN2 rfl
  refine wp_seq (wp_region_list (runOps_sound (S:=B []) (BT []) noneS rfl rfl hlow hhi _ (N:=Sub [(1,.u (.c (.p 1 0))),(3,.u (.c (I64 (l.length : Nat))))] [(1,.cells 24 [.p 50000 0]),(50000,.cells 81 [I64 st,I64 bu,I64 ti,I64 (w64 (nw + 1)),.m 50001 79]),(50001,.map 79 l)]) hR ?_ ?_))
  ·conv=>whnf
   exact ⟨⟨rfl,rfl,trivial⟩,⟨rfl,rfl,rfl,trivial⟩⟩
  rintro a w3 ⟨env3,own3,β3,hN3,hR⟩
  have hR:=hR.sub hN3 rfl
  refine wp_seq (wp_region_list ?_)
  show wpList PR _ _ ([_,_,_,_] ++ [_,_]) a w3
  refine runOps_app (S:=B []) (BT []) noneS rfl rfl hlow hhi _ (N:=Sub [(1,.u (.c (.p 1 0))),(3,.u (.c (I64 (l.length : Nat)))),(19,.u (.c (.m 50001 79)))] [(1,.cells 24 [.p 50000 0]),(50000,.cells 81 [I64 st,I64 bu,I64 ti,I64 (w64 (nw + 1)),.m 50001 79]),(50001,.map 79 l)]) hR ?_ ?_
  ·conv=>whnf
   exact ⟨⟨rfl,rfl,rfl,trivial⟩,⟨rfl,rfl,rfl,trivial⟩⟩
  rintro a w4 ⟨env4,own4,β4,hN4,hR⟩
  have hR:=hR.sub hN4 rfl
  -- what lies where
  obtain ⟨b1,cs1,g1,g2,g3⟩:=hR.blks.blk 1 _ rfl
  obtain ⟨b2,cs2,g4,g5,g6⟩:=hR.blks.blk 50000 _ rfl
  obtain ⟨bm,es,clock,g7,g8,g9⟩:=hR.blks.blk 50001 _ rfl
  match cs1,g2,g3,cs2,g5,g6 with
  | [x1],g2,⟨y1,_⟩,[x2,x3,x4,x5,x6],g5,⟨y2,y3,y4,y5,y6,_⟩ =>
  obtain ⟨b2',t2,l2,_,z1,rfl⟩:=y1
  rw [g4] at z1
  obtain rfl:=Option.some.inj z1
  obtain rfl:=y2.1
  obtain rfl:=y3.1
  obtain rfl:=y4.1
  obtain rfl:=y5.1
  obtain ⟨l6,b6,_,z2,rfl⟩:=y6
  rw [g7] at z2
  obtain rfl:=Option.some.inj z2
  have hav : ∀ b,Av X β4 (lookT [(1,.cells 24 [.p 50000 0]),(50000,.cells 81 [I64 st,I64 bu,I64 ti,I64 (w64 (nw + 1)),.m 50001 79]),(50001,.map 79 l)]) b → b < w4.heap.size:=by
   rintro b (hx | ⟨n,h1,h2⟩)
   ·exact Nat.lt_of_lt_of_le (hR.xold b hx) hR.frame.size
   exact (hR.blks.loc n b h1 h2).1
  have hv1 : a.eval (.tmp 1) = .pointer (some ⟨b1,0,none⟩):=by
   obtain ⟨b,t,l,_,z3,z4⟩:=hR.vals 1 _ rfl
   rw [g1] at z3
   obtain rfl:=Option.some.inj z3
   exact z4
  have hv19 : a.eval (.tmp 19) = .map (some bm):=by
   obtain ⟨l,b,_,z3,z4⟩:=hR.vals 19 _ rfl
   rw [g7] at z3
   obtain rfl:=Option.some.inj z3
   exact z4
  have ne : ∀ n m b c B1 B2,lookT [(1,Blk.cells 24 [.p 50000 0]),(50000,.cells 81 [I64 st,I64 bu,I64 ti,I64 (w64 (nw + 1)),.m 50001 79]),(50001,.map 79 l)] n = some B1 → lookT [(1,Blk.cells 24 [.p 50000 0]),(50000,.cells 81 [I64 st,I64 bu,I64 ti,I64 (w64 (nw + 1)),.m 50001 79]),(50001,.map 79 l)] m = some B2 → β4 n = some b → β4 m = some c → n ≠ m → b ≠ c :=
   fun n m b c B1 B2 h1 h2 h3 h4 hn e=>hn (hR.blks.inj n m b (by rw [h1]; exact Option.some_ne_none _) (by rw [h2]; exact Option.some_ne_none _) h3 (e ▸ h4))
  have so : ∀ n B1,lookT [(1,Blk.cells 24 [.p 50000 0]),(50000,.cells 81 [I64 st,I64 bu,I64 ti,I64 (w64 (nw + 1)),.m 50001 79]),(50001,.map 79 l)] n = some B1 → lookT [(1,Blk.cells 24 [.p 50000 0]),(50000,.cells 81 [I64 st,I64 bu,I64 ti,I64 (w64 (nw + 1)),.m 50001 79]),(50001,.map 79 l)] n ≠ none:=fun n B1 h1=>by rw [h1]; exact Option.some_ne_none _
  have hsz : 20 < a.tmps.size:=by
   have : a.tmps.size = 29:=hR.size
   omega
  refine list_run rfl (v:=.func (.func 45) #[] #[.pointer (some ⟨b1,0,none⟩)]) (w':=w4) (by simp [execOp,hv1,Instr.makeFunc]) ?_
  have hR:=hR.put (d:=20) (sv:=.u (.c .bad)) (v:=.func (.func 45) #[] #[.pointer (some ⟨b1,0,none⟩)]) (by show 20 < 29; decide) rfl
  have hv20 : (a.put (some 20) (.func (.func 45) #[] #[.pointer (some ⟨b1,0,none⟩)])).eval (.tmp 20) = .func (.func 45) #[] #[.pointer (some ⟨b1,0,none⟩)]:=by
   rw [eval_put hsz]; rfl
  have hv19 : (a.put (some 20) (.func (.func 45) #[] #[.pointer (some ⟨b1,0,none⟩)])).eval (.tmp 19) = .map (some bm):=by
   rw [eval_put hsz]; exact hv19
  refine list_call rfl (clo_run (f:=44) (caps:=#[]) ⟨_,Tryz.func44,rfl,by decide⟩ rfl rfl) ?_
  rw [show (#[Operand.tmp 19,.tmp 20].map (a.put (some 20) (.func (.func 45) #[] #[.pointer (some ⟨b1,0,none⟩)])).eval ++ #[]) = #[.map (some bm),.func (.func 45) #[] #[.pointer (some ⟨b1,0,none⟩)]] by simp [hv19,hv20]]
  refine (delfunc_call g8 g9 hnd g2 g5 (ne 1 50000 b1 b2 _ _ rfl rfl g1 g4 (by decide)) hav (.inr ⟨1,so 1 _ rfl,g1⟩) (.inr ⟨50000,so 50000 _ rfl,g4⟩) (.inr ⟨50001,so 50001 _ rfl,g7⟩)
   (ne 1 50001 b1 bm _ _ rfl rfl g1 g7 (by decide)) (ne 50000 50001 b2 bm _ _ rfl rfl g4 g7 (by decide))).mono fun e w5 ⟨c1,⟨es',c2,c3⟩,c4⟩=>⟨_,c1,wpList_nil ?_⟩
  have hR:=(hR.upd (n:=50001) (B1:=.map 79 (l.filter fun kr=>!oldB (w64 (nw + 1)) ti kr.2)) rfl g7 c4 ⟨_,rfl⟩ fun st kp=>⟨bm,es',clock,g7,c2,c3.stay st⟩).put (d:=21) (sv:=.t []) (v:=.tuple #[]) (by show 21 < 29; decide) ⟨[],rfl,trivial⟩
  refine wpC_sound (S:=B []) (BT []) noneS rfl rfl hlow hhi _ (N:=fun _ _=>False) (X:=fun _ _ _=>False) hR ?_ (fun _ _ ⟨_,_,_,hh,_⟩=>hh.elim) (fun _ _ _ ⟨_,_,_,hh,_⟩=>hh.elim) hQR;conv=>whnf
  exact hk
 exact hk.elim
end Sx
