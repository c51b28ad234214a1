/- Part of the proof: a machine of states for walks, and contracts of functions over it. Conditions: those that each theorem names. -/
import Derived.Test.YtcjdbimojffggaaGreatDoorC36
import Derived.Test.YtcjdbimojffggaaGreatDoorC44
import Derived.Test.YtcjdbimojffggaaGreatDoorC33
import Derived.Test.YtcjdbimojffggaaGreatDoorC14
set_option linter.unusedVariables false
set_option linter.unusedSimpArgs false
namespace Sx
open Go Go.Proofs Go.Maps
set_option maxRecDepth 30000
def linOk (ops : Array Oper) : Array Bool → List Nat → Bool
 | listed,[]=>decide (Region.ready .any ops listed = [])
 | listed,i :: r=>decide (Region.ready .any ops listed = [i]) && linOk ops (listed.setIfInBounds i true) r
theorem wpAny_lin {P : Program} {ops : Array Oper} {Q : Exit → Act → World → Prop} : ∀ (l : List Nat) {os : List Oper} {fuel : Nat} {listed : Array Bool} {a : Act} {w : World},l.length ≤ fuel → linOk ops listed l = true → l.map (fun i=>ops[i]?) = os.map some → wpList P ops Q os a w → wpAny P .any ops Q fuel listed a w
 | [],os,fuel,listed,a,w,_,hl,ho,h=>by
  have hr : Region.ready .any ops listed = []:=of_decide_eq_true hl
  cases os with
  | nil=>exact wpAny_done hr h fuel
  | cons o os=>cases ho
 | i :: r,os,fuel,listed,a,w,hf,hl,ho,h=>by
  cases os with
  | nil=>cases ho
  | cons o os =>
   simp only [linOk,Bool.and_eq_true] at hl
   have hr : Region.ready .any ops listed = [i]:=of_decide_eq_true hl.1
   simp only [List.map_cons,List.cons.injEq] at ho
   obtain ⟨fuel,rfl⟩ : ∃ f,fuel = f + 1:=⟨fuel - 1,by simp only [List.length_cons] at hf; omega⟩
   refine wpAny_all hr (by simp) fun j hj=>?_
   simp only [List.mem_cons,List.not_mem_nil,or_false] at hj
   subst hj
   unfold wpOp
   rw [ho.1]
   simp only
   unfold wpList at h
   have step : ∀ a w,wpList P ops Q os a w → wpAny P .any ops Q fuel (listed.setIfInBounds j true) a w:=fun a w hh=>wpAny_lin r (by simp only [List.length_cons] at hf; omega) hl.2 ho.2 hh
   split
   ·rename_i hw
    rw [if_pos hw] at h
    exact h.imp (Oper.wp_mono step) id
   rename_i hw
   rw [if_neg hw] at h
   exact step _ _ h
theorem list_v {S : Pr} {E : Ctx} {β : Nat → Option Nat} {env : Env} {own : Own} {a : Act} {w : World} (hT : TOk S.P S.tt) (hET : E.T = S.T) (h : Rel E β env own a w) {ops : Array Oper} {Q : Exit → Act → World → Prop} {o : Oper} {rest : List Oper} {d : Nat} (sv : SV) (hg : o.guard = none) (hd : o.dst = some d) (hdn : d < E.nt)
  (hk : (opV S own env o).wp fun x=>x = sv) (hn : ∀ v w',Rel E β (fset env d sv) own (a.put (some d) v) w' → Fr w w' (fun _=>False) → wpList S.P ops Q rest (a.put (some d) v) w') : wpList S.P ops Q (o :: rest) a w:=by
 obtain ⟨sv',v,w',rfl,hr,fr,hd'⟩:=opV_sound hT h (fun _ _ h=>h) hET hk
 refine list_run hg hr ?_
 rw [hd]
 exact hn v w' ((h.idle fr).put hdn hd') fr
theorem T57 : TB 57 = some (.rows [.str]):=by kernel_rfl
theorem esz57 : esz TB 57 = 1:=by unfold esz; rw [T57]; rfl
theorem rowRd_str {w : World} {A : Nat → Prop} {ss : List (List UInt8)} {cs : Array Value} (h : ∀ (i : Nat) (s : List UInt8),ss[i]? = some s → cs[i]? = some (Value.string ⟨s.toArray⟩)) : RowRd TB w A 57 (.rows (strRows ss)) cs:=by
 refine .inr ⟨[.str],strRows ss,T57,rfl,fun i _=>.string ⟨(ss.getD i []).toArray⟩,?_,?_,?_⟩
 ·intro i e hi
  simp only [strRows,List.getElem?_map,Option.map_eq_some_iff] at hi
  obtain ⟨s,_,rfl⟩:=hi
  rfl
 ·intro i e j d hi hj
  simp only [strRows,List.getElem?_map,Option.map_eq_some_iff] at hi
  obtain ⟨s,hs,rfl⟩:=hi
  match j,hj with
  | 0,_ =>
   have:=h i s hs
   simpa [List.getD,hs] using this
 intro i e j ct d hi hc hj
 simp only [strRows,List.getElem?_map,Option.map_eq_some_iff] at hi
 obtain ⟨s,hs,rfl⟩:=hi
 match j,hc,hj with
 | 0,hc,hj =>
  obtain rfl:=Option.some.inj hc
  obtain rfl:=Option.some.inj hj
  simp only [List.getD,hs,Option.getD_some]
  exact .str
theorem rowRd_back {w : World} {A : Nat → Prop} {ss : List (List UInt8)} {cs : Array Value} (h : RowRd TB w A 57 (.rows (strRows ss)) cs) : ∀ (i : Nat) (s : List UInt8),ss[i]? = some s → cs[i]? = some (Value.string ⟨s.toArray⟩):=by
 intro i s hi
 rcases h with ⟨k,l,h1,_⟩ | ⟨c,l,h1,h2,vs,h3,h4,h5⟩
 ·rw [T57] at h1; cases h1
 rw [T57] at h1
 obtain rfl:=El.rows.inj (Option.some.inj h1)
 obtain rfl:=D.rows.inj h2
 have hr : (strRows ss)[i]? = some [.str ⟨s.toArray⟩]:=by rw [strRows,List.getElem?_map,hi]; rfl
 have e1:=h4 i _ 0 _ hr rfl
 have e2:=h5 i _ 0 .str _ hr rfl rfl
 simp only [List.length_cons,List.length_nil,Nat.zero_add,Nat.mul_one,Nat.add_zero] at e1
 rw [e1]
 generalize vs i 0 = v at e2
 cases e2
 rfl
theorem slice_exec {a : Act} {o : Oper} {x : Operand} {lo hi : Option Operand} {ad : Option Addr} {n cap l m : Nat} {w : World} (ho : o.op = .slice 57 x lo hi none) (hx : a.eval x = .slice ad n cap)
  (hl : (lo = none ∧ l = 0) ∨ ∃ z k,lo = some z ∧ a.eval z = .int k l) (hh : (hi = none ∧ m = n) ∨ ∃ z k,hi = some z ∧ a.eval z = .int k m) (h1 : l ≤ m) (h2 : m ≤ cap) :
  (execOp a.eval o).run PR w = .ok (.value (.slice (if cap = l then ad else ad.map (·.add l)) (m - l) (cap - l))) w:=by
 have hu : PR.underlying 57 = some (.slice 9):=by kernel_rfl
 obtain ⟨i,h3,h4,h5⟩:=el_size (S:=B []) (BT []) (t:=57) (e:=9) (cts:=[.sl 57]) (z:=[.slice none 0 0]) (by_:=24) (by kernel_rfl) T57
 have hz : (Go.sizeOf 9).run PR w = .ok 1 w:=h5 w
 have hb2 : (Instr.sliceBounds true n cap (lo.map a.eval) (hi.map a.eval) none).run PR w = .ok (l,m,cap) w:=by
  refine bounds_run ?_ ?_ h1 h2
  ·rcases hl with ⟨rfl,e⟩ | ⟨z,k,rfl,e⟩
   ·exact .inl ⟨rfl,e⟩
   exact .inr ⟨k,by simp [e]⟩
  rcases hh with ⟨rfl,e⟩ | ⟨z,k,rfl,e⟩
  ·exact .inl ⟨rfl,e⟩
  exact .inr ⟨k,by simp [e]⟩
 simp [execOp,ho,Instr.sliceAt,run_underlying hu,Instr.slice,hx,hb2,hz]
def RowIn (β : Nat → Option Nat) (n : Nat) (w : World) (ss : List (List UInt8)) (ad : Option Addr) (cap : Nat) : Prop :=
 (β n = none ∧ ss = [] ∧ cap = 0) ∨ ∃ b cs te,β n = some b ∧ ad = some ⟨b,0,none⟩ ∧ w.heap[b]? = some (.cells cs te (0,0)) ∧ cs.size = cap ∧ ss.length ≤ cap ∧ ∀ (i : Nat) (s : List UInt8),ss[i]? = some s → cs[i]? = some (Value.string ⟨s.toArray⟩)
theorem row_in {E : Ctx} {β : Nat → Option Nat} {env : Env} {own : Own} {a : Act} {w : World} (hET : E.T = TB) (h : Rel E β env own a w) {t n : Nat} {ss : List (List UInt8)} (ht : env t = some (.u (.c (.r n 57)))) (hn : own n = some (.row 57 (.rows (strRows ss)))) :
  ∃ ad cap,a.eval (.tmp t) = .slice ad ss.length cap ∧ ss.length ≤ cap ∧ RowIn β n w ss ad cap:=by
 obtain ⟨x,h1,h2⟩:=h.vals t _ ht
 rw [hn] at h1
 have h1:=Option.some.inj h1
 simp only [Blk.row.injEq,true_and] at h1
 subst h1
 have hlen : (D.rows (strRows ss)).len = ss.length:=strRows_len ss
 rw [hlen,hET] at h2
 obtain ⟨cs0,g1,g2⟩:=h.blks.blk n _ hn
 rw [hET] at g1 g2
 cases hb : β n with
 | none =>
  rw [hb] at h2
  obtain ⟨h3,ad,h4⟩:=h2
  have : ss = []:=List.length_eq_zero_iff.1 h3
  subst this
  exact ⟨ad,0,h4,Nat.le_refl _,.inl ⟨hb,rfl,rfl⟩⟩
 | some b =>
  rw [hb] at h2 g2
  obtain ⟨cap,cs,te,h3,h4,h5,h6⟩:=h2
  obtain ⟨te',cap',g3,g4,g5⟩:=g2
  rw [h4] at g3
  simp only [Option.some.injEq,Obj.cells.injEq,and_true] at g3
  obtain ⟨rfl,rfl⟩:=g3
  rw [esz57,Nat.mul_one] at h5
  exact ⟨some ⟨b,0,none⟩,cap,h3,h6,.inr ⟨b,cs,te,hb,rfl,h4,h5,h6,rowRd_back g1⟩⟩
theorem RowIn.fr {β : Nat → Option Nat} {n : Nat} {w w' : World} {ss : List (List UInt8)} {ad : Option Addr} {cap : Nat} (h : RowIn β n w ss ad cap) (f : Fr w w' fun _=>False) : RowIn β n w' ss ad cap:=by
 rcases h with h | ⟨b,cs,te,h1,h2,h3,h4⟩
 ·exact .inl h
 exact .inr ⟨b,cs,te,h1,h2,(f.heap b (Array.getElem?_eq_some_iff.1 h3).1 (fun h=>h)).trans h3,h4⟩
theorem RowIn.of {β β' : Nat → Option Nat} {n : Nat} {w : World} {ss : List (List UInt8)} {ad : Option Addr} {cap : Nat} (h : RowIn β n w ss ad cap) (e : β' n = β n) : RowIn β' n w ss ad cap:=by
 rcases h with ⟨h1,h2⟩ | ⟨b,cs,te,h1,h2⟩
 ·exact .inl ⟨e.trans h1,h2⟩
 exact .inr ⟨b,cs,te,e.trans h1,h2⟩
theorem Rel.cutRow {E : Ctx} {β : Nat → Option Nat} {env : Env} {own : Own} {a : Act} {w : World} (hET : E.T = TB) (h : Rel E β env own a w) {n : Nat} {ss : List (List UInt8)} (k : Nat) (hn : own n = some (.row 57 (.rows (strRows ss)))) (hn0 : E.own0 n = none) :
  ∃ β',(∀ m,m ≠ n → β' m = β m) ∧ β' n = β n ∧ Rel E β' (env.drop n) (fset (own.drop n) n (.row 57 (.rows (strRows (ss.take k))))) a w:=by
 obtain ⟨cs0,g1,g2⟩:=h.blks.blk n _ hn
 rw [hET] at g1 g2
 have g3:=rowRd_back g1
 have hlen : ∀ l : List (List UInt8),(D.rows (strRows l)).len = l.length:=strRows_len
 rw [hlen] at g2
 refine h.swap (n:=n) (d:=n) (bo:=β n) (.inr rfl) hn0 (Fr.refl _ _) (fun b hb=>.inl ⟨by simp [hn],hb⟩) fun β' e1 e2 s=>⟨cs0,?_,?_⟩
 ·rw [hET]
  refine rowRd_str fun i s hi=>g3 i s ?_
  rw [List.getElem?_take] at hi
  split at hi
  ·exact hi
  cases hi
 rw [hET,hlen,e2]
 cases hb : β n with
 | none =>
  rw [hb] at g2
  have g2 : ss.length = 0:=g2
  show (ss.take k).length = 0
  rw [List.length_take]; omega
 | some b =>
  rw [hb] at g2
  obtain ⟨te,cap,q1,q2,q3⟩:=g2
  exact ⟨te,cap,q1,q2,by rw [List.length_take]; omega⟩
end Sx
namespace Sx
open Go Go.Proofs Go.Maps
set_option maxRecDepth 30000
theorem Rel.know {E : Ctx} {β : Nat → Option Nat} {env : Env} {own : Own} {a : Act} {w : World} (h : Rel E β env own a w) {t : Nat} {sv : SV} (hv : DenS E.T w β (Av E.X β own) own sv (a.eval (.tmp t))) : Rel E β (fset env t sv) own a w:=by
 refine ⟨h.defers,h.size,fun k s hk=>?_,h.blks,h.glob,h.frame,h.mine,h.xold,h.kept⟩
 by_cases e : k = t
 ·subst e
  rw [fset_same] at hk
  obtain rfl:=Option.some.inj hk
  exact hv
 rw [fset_ne _ _ e] at hk
 exact h.vals k s hk
theorem b57 : bytesT (B []) 57 = some 16:=by kernel_rfl
theorem app_text {E : Ctx} (hET : E.T = TB) (hE0 : E.own0 52 = none) (hnt : 52 < E.nt) {o : Oper} (ho : o.op = .call ⟨.builtin .append,#[.tmp 48,.tmp 51],#[57,57]⟩) {β : Nat → Option Nat} {env : Env} {own : Own} {a : Act} {w : World} {x : ByteArray} (h : Rel E β env own a w)
  (h48 : own 48 = some (.row 57 (.rows (strRows [x.data.toList])))) (he48 : env 48 = some (.u (.c (.r 48 57)))) {b48 : Nat} (hv48 : a.eval (.tmp 48) = .slice (some ⟨b48,0,none⟩) 1 1) (h52 : own 52 = none)
  {ad : Option Addr} {cap k : Nat} {ss : List (List UInt8)} (hv51 : a.eval (.tmp 51) = .slice (if cap = k then ad else ad.map (·.add k)) (ss.length - k) (cap - k)) (hin : RowIn β 53 w ss ad cap) (hcap : ss.length ≤ cap) (hk : k ≤ ss.length) (hlen : ss.length ≤ 1000000) (h53 : own 53 ≠ none) :
  ∃ nm β' v w' own',(nm = 48 ∨ nm = 52) ∧ (execOp a.eval o).run PR w = .ok (.value v) w' ∧ Rel E β' (fset env 52 (.u (.c (.r nm 57)))) own' (a.put (some 52) v) w' ∧ own' nm = some (.row 57 (.rows (strRows (x.data.toList :: ss.drop k)))) ∧ (∀ m,m ≠ 52 → m ≠ 48 → own' m = own m) ∧ RowIn β' 53 w' ss ad cap:=by
 obtain ⟨ad1,cap1,f1,f2,f3⟩:=row_in hET h he48 h48
 rw [hv48] at f1
 simp only [Value.slice.injEq] at f1
 obtain ⟨rfl,_,rfl⟩:=f1
 have hb48 : ∃ te,β 48 = some b48 ∧ w.heap[b48]? = some (.cells #[.string x] te (0,0)):=by
  rcases f3 with ⟨_,f4,_⟩ | ⟨b,cs,te,f4,f5,f6,f7,f8,f9⟩
  ·cases f4
  simp only [Option.some.injEq,Addr.mk.injEq,and_true] at f5
  subst f5
  refine ⟨te,f4,?_⟩
  have h0:=f9 0 _ rfl
  have : cs = #[.string x]:=by
   apply Array.ext_getElem?
   intro j
   match j with
   | 0=>rw [h0]; rfl
   | j + 1=>rw [Array.getElem?_eq_none (by omega)]; simp
  rw [← this]; exact f6
 obtain ⟨te48,hβ48,hb48⟩:=hb48
 obtain ⟨e,i,z,q1,q2,q3,q4,q5,q6⟩:=bytes_info (S:=B []) (BT []) b57 T57
 rw [show esz (B []).T 57 = 1 from esz57] at q6
 have hexec : (execOp a.eval o).run PR w = ((Builtin.append_ #[57,57] o.type #[.slice (some ⟨b48,0,none⟩) 1 1,.slice (if cap = k then ad else ad.map (·.add k)) (ss.length - k) (cap - k)]).run PR w).andThen fun v w=>.ok (.value v) w:=by
  rw [call_builtin ho]
  simp [builtin,hv48,hv51]
 have hdl : (ss.drop k).length = ss.length - k:=List.length_drop
 have hrun:=append_run (P:=PR) (w:=w) (ty:=o.type) q1 q2 q3 q4 (ad:=some ⟨b48,0,none⟩) (ad2:=if cap = k then ad else ad.map (·.add k)) (n:=1) (cap:=1) (m:=ss.length - k) (cap2:=cap - k) (olds:=[.string x]) (news:=(ss.drop k).map fun s=>Value.string ⟨s.toArray⟩)
  (by rw [q6]; rfl) (by rw [q6,List.length_map,hdl,Nat.mul_one])
  (fun a' ha j u hu=>by
   obtain rfl:=Option.some.inj ha
   rw [add_lit,cell_of_block hb48,Nat.zero_add]
   match j,hu with
   | 0,hu=>simpa using hu)
  (fun a' ha j u hu=>by
   simp only [List.getElem?_map,Option.map_eq_some_iff,List.getElem?_drop] at hu
   obtain ⟨s,hs,rfl⟩:=hu
   have hlt:=(List.getElem?_eq_some_iff.1 hs).1
   rcases hin with ⟨_,rfl,_⟩ | ⟨b,cs,te,g1,g2,g3,g4,g5,g6⟩
   ·simp at hlt
   rw [if_neg (by omega),g2] at ha
   simp only [Option.map_some,Option.some.injEq] at ha
   subst ha
   rw [add_lit,add_lit,cell_of_block g3]
   have:=g6 (k + j) s hs
   rw [show 0 + k + j = k + j by omega]
   exact this)
  (fun hh=>by cases hh)
  (fun hh=>by
   rcases hin with ⟨_,rfl,_⟩ | ⟨b,cs,te,g1,g2,_⟩
   ·simp
   subst g2
   split at hh <;> cases hh)
  (Nat.le_refl _) (fun u hu=>by
   obtain ⟨s,_,rfl⟩:=List.mem_map.1 hu
   rfl)
  (by rw [q5]; omega) (by omega) (fun hh=>.inl (by omega))
 have hsz : 52 < a.tmps.size:=by rw [h.size]; exact hnt
 rcases hrun with ⟨e1,e2,e3⟩ | ⟨e1,e0,_⟩ | ⟨e1,cap',rest,e2,e3,e4⟩
 ·have hd0 : ss.drop k = []:=List.drop_eq_nil_of_le (by omega)
  refine ⟨48,β,.slice (some ⟨b48,0,none⟩) 1 1,w,own,.inl rfl,by rw [hexec,e3]; rfl,h.put hnt ?_,by rw [hd0]; exact h48,fun _ _ _=>rfl,hin⟩
  have:=h.vals 48 _ he48
  rwa [show a.tmps.getD 48 undef = _ from hv48] at this
 ·omega
 have hR:=h.idle (fr_drew w _)
 have hrow : ∀ (W : World) (A : Nat → Prop),RowRd TB W A 57 (.rows (strRows (x.data.toList :: ss.drop k))) (([Value.string x] ++ ((ss.drop k).map fun (s : List UInt8)=>Value.string ⟨s.toArray⟩) ++ rest).toArray):=fun W A=>rowRd_str fun j s hj=>by
  match j,hj with
  | 0,hj =>
   obtain rfl:=Option.some.inj hj
   rfl
  | j + 1,hj =>
   have hj : (ss.drop k)[j]? = some s:=by simpa using hj
   have hlt:=(List.getElem?_eq_some_iff.1 hj).1
   have : ((((ss.drop k).map fun (s : List UInt8)=>Value.string ⟨s.toArray⟩) ++ rest))[j]? = some (Value.string ⟨s.toArray⟩):=by
    rw [List.getElem?_append_left (by simpa using hlt),List.getElem?_map,hj]; rfl
   simpa using this
 have hat : ∀ (W : World) (o : Obj),o = .cells ([Value.string x] ++ ((ss.drop k).map fun (s : List UInt8)=>Value.string ⟨s.toArray⟩) ++ rest).toArray e → (W.alloc o).heap[W.heap.size]? = some (.cells ([Value.string x] ++ ((ss.drop k).map fun (s : List UInt8)=>Value.string ⟨s.toArray⟩) ++ rest).toArray e (0,0)):=fun W o ho=>by rw [heap_new,ho]
 have hcs : (([Value.string x] ++ ((ss.drop k).map fun (s : List UInt8)=>Value.string ⟨s.toArray⟩) ++ rest).toArray).size = cap' * esz TB 57:=by
  rw [esz57]
  simp only [List.size_toArray,List.length_append,List.length_map,hdl,e3,q6,List.length_cons,List.length_nil]
  omega
 have hl2 : (D.rows (strRows (x.data.toList :: ss.drop k))).len = 1 + (ss.length - k):=by
  show (strRows _).length = _
  rw [strRows_len,List.length_cons,hdl]; omega
 obtain ⟨β',b1,b2,hR,s,kp⟩:=hR.new (n:=52) h52 hE0 (o:=.cells ([Value.string x] ++ ((ss.drop k).map fun (s : List UInt8)=>Value.string ⟨s.toArray⟩) ++ rest).toArray e) (B:=.row 57 (.rows (strRows (x.data.toList :: ss.drop k)))) (fun β' b1 b2 s kp=>⟨_,by rw [hET]; exact hrow _ _,by
  rw [b2,hl2,hET]
  exact ⟨e,cap',hat _ _ rfl,hcs,e2⟩⟩)
 refine ⟨52,β',.slice (some ⟨w.heap.size,0,none⟩) (1 + (ss.length - k)) cap',_,_,.inr rfl,by rw [hexec,e4]; rfl,hR.put hnt ?_,fset_same _ _ _,fun m h1 h2=>fset_ne _ _ h1,?_⟩
 ·refine ⟨.rows (strRows (x.data.toList :: ss.drop k)),fset_same _ _ _,?_⟩
  rw [b2,hl2,hET]
  exact ⟨cap',_,e,rfl,hat _ _ rfl,hcs,e2⟩
 exact ((hin.fr (fr_drew w _)).fr (fr_alloc _ _ _)).of (b1 53 (by decide))
end Sx
namespace Sx
open Go Go.Proofs Go.Maps
set_option maxRecDepth 30000
variable {G : Glob}
def rkeysT : List U → List Blk → Out RF
 | [.c (.p 50000 0)],[.cells 103 [.v (.int .i64 st),.v (.int .i64 bu),.v (.int .i64 ti),.v (.int .i64 nw),.r 50001 101],.row 101 (.rows R)] =>
  .need (R.length ≤ 1000000) (.all (List (List D)) (fun ks=>keyRows (asL R) = ks) ⟨_,rfl⟩ fun ks=>.ret (.u (.c (.d 57 (.rows ks))),RTk st bu ti nw (.rows R),[]))
 | _,_=>.fail
def keyAt (R : List (List D)) (i : Nat) : ByteArray:=(cellD (R.getD i []) 0).toStr
def kOwn (st bu ti nw : Int) (R : List (List D)) (ss : List (List UInt8)) : List (Nat × Blk):=[(53,.row 57 (.rows (strRows ss))),(50000,rtB st bu ti nw 50001),(50001,.row 101 (.rows R))]
set_option maxHeartbeats 4000000 in
theorem rkeys_ok : OkF G 27 rkeysT:=by
 refine sound_by false (S:=B []) (BT []) Tryz.func27 rfl (by decide) fun K us lent hk=>?_
 unfold rkeysT at hk
 split at hk
 ·rename_i st bu ti nw R
  obtain ⟨hlen,hk⟩:=hk
  refine ⟨by show 1 ≤ _; decide,fun E β a w Q hT hG hnt hlow hhi hR hQN hQR=>Code.wp_mono only_of ?_⟩
  have hk : ∀ ks,keyRows (asL R) = ks → K (.u (.c (.d 57 (.rows ks))),RTk st bu ti nw (.rows R),[]):=hk
  obtain ⟨T,G',w0,X,L,nt,own0,β0⟩:=E
  simp only at hT hG hnt hlow hhi
  subst hT hG hnt
  refine wpL_sound (S:=B []) (BT []) noneS rfl rfl hlow hhi (l:=[_,_]) (X:=fun _ _ _=>False) (R:=fun _ _=>False) (N:=Sub [(0,.u (.c (.p 50000 0))),(3,.u (.c (.v (.slice none 0 0))))] [(50000,rtB st bu ti nw 50001),(50001,.row 101 (.rows R))]) (fun _ _ _ ⟨_,_,_,hh,_⟩=>hh.elim) (fun _ _ ⟨_,_,_,hh,_⟩=>hh.elim) ?_ hR ?_
  rotate_left
  ·conv=>whnf
   exact ⟨⟨rfl,rfl,trivial⟩,rfl,rfl,trivial⟩
  rintro a w ⟨env,own,β,hN,hR⟩
  have hR:=hR.sub hN rfl
  refine wp_seq (wpL_sound (S:=B []) (BT []) noneS rfl rfl hlow hhi (l:=[_]) (X:=fun _ _ _=>False) (R:=fun _ _=>False) (N:=Sub [(0,.u (.c (.p 50000 0))),(3,.u (.c (.v (.slice none 0 0)))),(4,.u (.c (I64 ((0 : Nat) : Int))))] [(50000,rtB st bu ti nw 50001),(50001,.row 101 (.rows R))]) (fun _ _ _ ⟨_,_,_,hh,_⟩=>hh.elim) (fun _ _ ⟨_,_,_,hh,_⟩=>hh.elim) ?_ hR ?_)
  rotate_left
  ·conv=>whnf
   exact ⟨⟨rfl,rfl,rfl,trivial⟩,rfl,rfl,trivial⟩
  rintro a w ⟨env,own,β,hN,hR⟩
  have hR:=hR.sub hN rfl
  obtain ⟨β,hR⟩:=adopt_rel (S:=B []) rfl hlow (l:=[(3,53,57)]) hR rfl
  have hR:=hR.sub (l1:=[(0,.u (.c (.p 50000 0))),(3,.u (.c (.r 53 57))),(4,.u (.c (I64 ((0 : Nat) : Int))))]) (l2:=kOwn st bu ti nw R []) ⟨⟨rfl,rfl,rfl,trivial⟩,rfl,rfl,rfl,trivial⟩ rfl
  refine wp_block (wp_loop_ix (fun (i : Nat) a w=>i ≤ R.length ∧ ∃ β ss,Srt ss ∧ ss.Perm (((asL R).take i).map fun kr=>kr.1.data.toList) ∧ Rel { T:=(B []).T,G:=G',w0:=w0,X:=X,L:=L,nt:=Tryz.f27.ntmps,own0:=own0,β0:=β0 } β (lookT [(0,.u (.c (.p 50000 0))),(3,.u (.c (.r 53 57))),(4,.u (.c (I64 (i : Nat))))]) (lookT (kOwn st bu ti nw R ss)) a w)
   (fun i=>R.length - i) 0 ⟨Nat.zero_le _,β,[],List.Pairwise.nil,.refl _,hR⟩ ?_)
  rintro i a w ⟨p1,β,ss,hs,hp,hR⟩
  have hsl : ss.length = i:=by rw [hp.length_eq,List.length_map,List.length_take,asL_len]; omega
  refine wpL_sound (S:=B []) (BT []) noneS rfl rfl hlow hhi (l:=[_]) (X:=fun j env own=>j = 0 ∧ i = R.length ∧ Sub [(0,.u (.c (.p 50000 0))),(3,.u (.c (.r 53 57)))] (kOwn st bu ti nw R ss) env own) (R:=fun _ _=>False)
   (N:=fun env own=>i < R.length ∧ Sub [(0,.u (.c (.p 50000 0))),(3,.u (.c (.r 53 57))),(4,.u (.c (I64 (i : Nat))))] (kOwn st bu ti nw R ss) env own) ?_ (fun _ _ ⟨_,_,_,hh,_⟩=>hh.elim) ?_ hR ?_
  rotate_right
  ·conv=>whnf
   refine Ask.i (fun c1=>?_) (fun c1=>?_)
   ·have c1 : (i : Int) < ((R.length : Nat) : Int):=of_decide_eq_true c1
    conv=>whnf
    exact ⟨by omega,⟨rfl,rfl,rfl,trivial⟩,rfl,rfl,rfl,trivial⟩
   have c1 : ¬ (i : Int) < ((R.length : Nat) : Int):=of_decide_eq_false c1
   conv=>whnf
   exact ⟨rfl,by omega,⟨rfl,rfl,trivial⟩,rfl,rfl,rfl,trivial⟩
  ·rintro j a w ⟨env,own,β,⟨rfl,hi,hN⟩,hR⟩
   have hR:=hR.sub hN rfl
   have e : keyRows (asL R) = strRows ss:=by
    rw [List.take_of_length_le (by rw [asL_len]; omega)] at hp
    rw [keyRows,← sorted_is hs hp]
   have hk:=hk _ e
   show (Code.seq _ _).wp _ _ a w
   refine wpC_sound (S:=B []) (BT []) noneS rfl rfl hlow hhi _ (N:=fun _ _=>False) (X:=fun _ _ _=>False) hR ?_ (fun _ _ ⟨_,_,_,hh,_⟩=>hh.elim) (fun _ _ _ ⟨_,_,_,hh,_⟩=>hh.elim) hQR;conv=>whnf
   exact hk
  rintro a w ⟨env,own,β,⟨hi,hN⟩,hR⟩
  have hR:=hR.sub hN rfl
  have ha:=asL_at hi
  obtain ⟨x,hx⟩ : ∃ x,keyAt R i = x:=⟨_,rfl⟩
  have hiR : (0 : Int) ≤ (i : Int) ∧ (i : Int) < ((R.length : Nat) : Int):=by omega
  refine wp_seq (wp_block ?_)
  refine wpL_sound (S:=B []) (BT []) noneS rfl rfl hlow hhi (l:=[_,_]) (X:=fun _ _ _=>False) (R:=fun _ _=>False) (N:=fun env own=>∃ k : Nat,k ≤ ss.length ∧ (∀ s ∈ ss.take k,leB s x.data.toList = true) ∧ (∀ s ∈ ss.drop k,leB x.data.toList s = true) ∧
    Sub [(0,.u (.c (.p 50000 0))),(3,.u (.c (.r 53 57))),(4,.u (.c (I64 (i : Nat)))),(5,.u (.c (I64 (k : Nat))))] (kOwn st bu ti nw R ss) env own) (fun _ _ _ ⟨_,_,_,hh,_⟩=>hh.elim) (fun _ _ ⟨_,_,_,hh,_⟩=>hh.elim) ?_ hR ?_
  rotate_right
  ·conv=>whnf
   refine ⟨[],_,_,rfl,Nat,(fun k=>([(0,.u (.c (.p 50000 0))),(3,.u (.c (.r 53 57))),(4,.u (.c (I64 (i : Nat)))),(5,.u (.c (I64 (k : Nat))))],kOwn st bu ti nw R ss)),
    (fun k=>k ≤ ss.length ∧ ∀ s ∈ ss.drop k,leB x.data.toList s = true),(fun k=>k),fun x _=>rfl,⟨ss.length,⟨Nat.le_refl _,by simp⟩,⟨rfl,rfl,rfl,congrArg (fun z : Nat=>some (SV.u (.c (I64 (z : Int))))) (strRows_len ss),trivial⟩,rfl,rfl,rfl,trivial⟩,?_⟩
   rintro k ⟨k1,k2⟩
   cases k with
   | zero =>
    conv=>whnf
    refine ⟨mixed,[],[],[],by kernel_rfl,?_⟩;conv=>whnf
    exact ⟨0,Nat.zero_le _,by simp,k2,⟨rfl,rfl,rfl,rfl,trivial⟩,rfl,rfl,rfl,trivial⟩
   | succ k =>
    have ew : w64 (((k + 1 : Nat) : Int) - 1) = (k : Int):=by rw [w64_eq (by omega)]; omega
    have hks : ss[k]? = some (ss[k]'(by omega)):=List.getElem?_eq_getElem (by omega)
    conv=>whnf
    refine ⟨mixed,[],[],[],by kernel_rfl,?_⟩;conv=>whnf
    refine Ask.i (fun c0=>?_) (fun c0=>absurd (of_decide_eq_false c0) (by show ¬ ¬ (((k + 1 : Nat) : Int) > 0); omega));conv=>whnf
    refine ⟨by
     show 0 ≤ w64 (((k + 1 : Nat) : Int) - 1) ∧ w64 (((k + 1 : Nat) : Int) - 1) < (((strRows ss).length : Nat) : Int)
     rw [ew,strRows_len]; omega,?_⟩
    conv=>whnf
    refine ⟨hiR,?_⟩
    have eg : (cellD ((strRows ss).getD (w64 (((k + 1 : Nat) : Int) - 1)).toNat []) 0).toStr = ⟨(ss[k]'(by omega)).toArray⟩:=by
     rw [ew,Int.toNat_natCast,strRows_at hks]; rfl
    conv=>whnf
    refine Ask.i (fun c=>?_) (fun c=>?_)
    ·have c : (!(Op.bytesLess (cellD ((strRows ss).getD (w64 (((k + 1 : Nat) : Int) - 1)).toNat []) 0).toStr.toList (keyAt R i).toList || (cellD ((strRows ss).getD (w64 (((k + 1 : Nat) : Int) - 1)).toNat []) 0).toStr.toList == (keyAt R i).toList)) = true:=c
     rw [eg,hx,ba_list,ByteArray.toList_eq] at c
     have c:=gtr_true c
     conv=>whnf
     refine ⟨k,⟨by omega,fun s hs=>?_⟩,by show k < k + 1; omega,⟨rfl,rfl,rfl,congrArg (fun z : Int=>some (SV.u (.c (I64 z)))) ew,trivial⟩,rfl,rfl,rfl,trivial⟩
     rw [List.drop_eq_getElem_cons (by omega)] at hs
     rcases List.mem_cons.1 hs with rfl | hs
     ·exact c
     exact k2 s hs
    have c : (!(Op.bytesLess (cellD ((strRows ss).getD (w64 (((k + 1 : Nat) : Int) - 1)).toNat []) 0).toStr.toList (keyAt R i).toList || (cellD ((strRows ss).getD (w64 (((k + 1 : Nat) : Int) - 1)).toNat []) 0).toStr.toList == (keyAt R i).toList)) = false:=c
    rw [eg,hx,ba_list,ByteArray.toList_eq] at c
    have c:=gtr_false c
    conv=>whnf
    exact ⟨k + 1,k1,take_le hs hks c,k2,⟨rfl,rfl,rfl,rfl,trivial⟩,rfl,rfl,rfl,trivial⟩
  rintro a w ⟨env,own,β,⟨k,hkl,h1,h2,hN⟩,hR⟩
  have hR:=hR.sub hN rfl
  have hne : ∀ y : List UInt8,True:=fun _=>trivial
  refine (?_ : ∀ Q8 : Exit → Act → World → Prop,(∀ c a w,¬ Q8 (.panic c) a w) → (∀ a w,Ends { T:=(B []).T,G:=G',w0:=w0,X:=X,L:=L,nt:=Tryz.f27.ntmps,own0:=own0,β0:=β0 } (Sub [(0,.u (.c (.p 50000 0))),(3,.u (.c (.r 53 57))),(4,.u (.c (I64 (i : Nat))))] (kOwn st bu ti nw R (ss.take k ++ x.data.toList :: ss.drop k))) a w → Q8 .normal a w) → Code.wp PR _ Q8 a w) _ (fun _ _ _ h=>h) ?_
  rotate_left
  ·rintro a w ⟨env,own,β,hN,hR⟩
   have hR:=hR.sub hN rfl
   show Code.wp _ _ _ a w
   refine wpC_sound (S:=B []) (BT []) noneS rfl rfl hlow hhi _ (N:=Sub [(0,.u (.c (.p 50000 0))),(3,.u (.c (.r 53 57))),(4,.u (.c (I64 ((i + 1 : Nat) : Int))))] (kOwn st bu ti nw R (ss.take k ++ x.data.toList :: ss.drop k))) (X:=fun _ _ _=>False) (R:=fun _ _=>False) hR ?_ ?_ (fun _ _ _ ⟨_,_,_,hh,_⟩=>hh.elim) (fun _ _ ⟨_,_,_,hh,_⟩=>hh.elim)
   ·conv=>whnf
    exact ⟨⟨rfl,rfl,congrArg (fun z : Int=>some (SV.u (.c (I64 z)))) (w64_eq (n:=(i : Int) + 1) (by omega)),trivial⟩,rfl,rfl,rfl,trivial⟩
   rintro a w ⟨env,own,β,hN,hR⟩
   refine ⟨i + 1,⟨hi,β,_,ins_sorted hs h1 h2,ins_perm.trans ?_,hR.sub hN rfl⟩,by show R.length - (i + 1) < R.length - i; omega⟩
   rw [List.take_add_one,ha,List.map_append]
   refine hp.append ?_
   rw [← hx]
   exact .refl _
  intro Q8 hQp hQn
  refine wp_region_any (mixed (sp:=[])) ?_
  show wpAny PR .any _ Q8 18 (Array.replicate 18 false) a _
  have hR:=hR.idle (fr_drew w fun _=>False)
  obtain ⟨ad,cap,hv3,hcap,hin⟩:=row_in rfl hR (t:=3) (n:=53) (ss:=ss) rfl rfl
  have hR:=hR.know (t:=3) (sv:=.u (.c (.v (.slice ad ss.length cap)))) ⟨hv3,rfl⟩
  have hy1 : (if cap = 0 then ad else ad.map (·.add 0)) = ad:=by
   split
   ·rfl
   cases ad <;> rfl
  refine wpAny_take (i:=0) (v:=.slice ad ss.length cap) rfl (by kernel_rfl) (by kernel_rfl) (by kernel_rfl) (fun c a w h=>absurd h (hQp _ _ _)) (.inl ⟨rfl,fun w=>by simp [execOp,hv3]⟩) ?_
  have hR:=hR.put (d:=37) (sv:=.u (.c (.v (.slice ad ss.length cap)))) (v:=.slice ad ss.length cap) (by show 37 < 55; decide) ⟨rfl,rfl⟩
  refine wpAny_take (i:=1) (v:=.int .i64 (k : Nat)) rfl (by kernel_rfl) (by kernel_rfl) (by kernel_rfl) (fun c a w h=>absurd h (hQp _ _ _)) (.inl ⟨rfl,fun w=>by simp [execOp,(evV_eq hR (x:=.tmp 5) rfl).1]⟩) ?_
  have hR:=hR.put (d:=38) (sv:=.u (.c (I64 (k : Nat)))) (v:=.int .i64 (k : Nat)) (by show 38 < 55; decide) ⟨rfl,rfl⟩
  refine wpAny_take (i:=2) (v:=.slice ad k cap) rfl (by kernel_rfl) (by kernel_rfl) (by kernel_rfl) (fun c a w h=>absurd h (hQp _ _ _)) (.inl ⟨rfl,fun w=>by
   have := slice_exec (w := w) (o := { dst := some 39, op := .slice 57 (.tmp 37) none (some (.tmp 38)) none, type := 57, pos := "", after := #[], guard := none }) rfl (evV_eq hR (x := .tmp 37) rfl).1 (lo := none) (hi := some (.tmp 38)) (.inl ⟨rfl, rfl⟩) (.inr ⟨_, _, rfl, (evV_eq hR (x := .tmp 38) rfl).1⟩) (Nat.zero_le k) (by omega)
   rw [hy1,Nat.sub_zero,Nat.sub_zero] at this
   exact this⟩) ?_
  have hR:=hR.put (d:=39) (sv:=.u (.c (.v (.slice ad k cap)))) (v:=.slice ad k cap) (by show 39 < 55; decide) ⟨rfl,rfl⟩
  refine wpAny_take (i:=7) (v:=.int .i64 (i : Nat)) rfl (by kernel_rfl) (by kernel_rfl) (by kernel_rfl) (fun c a w h=>absurd h (hQp _ _ _)) (.inl ⟨rfl,fun w=>by simp [execOp,(evV_eq hR (x:=.tmp 4) rfl).1]⟩) ?_
  have hR:=hR.put (d:=44) (sv:=.u (.c (I64 (i : Nat)))) (v:=.int .i64 (i : Nat)) (by show 44 < 55; decide) ⟨rfl,rfl⟩
  refine wpAny_take (i:=12) (v:=.slice ad ss.length cap) rfl (by kernel_rfl) (by kernel_rfl) (by kernel_rfl) (fun c a w h=>absurd h (hQp _ _ _)) (.inl ⟨rfl,fun w=>by simp [execOp,(evV_eq hR (x:=.tmp 3) rfl).1]⟩) ?_
  have hR:=hR.put (d:=49) (sv:=.u (.c (.v (.slice ad ss.length cap)))) (v:=.slice ad ss.length cap) (by show 49 < 55; decide) ⟨rfl,rfl⟩
  refine wpAny_take (i:=13) (v:=.int .i64 (k : Nat)) rfl (by kernel_rfl) (by kernel_rfl) (by kernel_rfl) (fun c a w h=>absurd h (hQp _ _ _)) (.inl ⟨rfl,fun w=>by simp [execOp,(evV_eq hR (x:=.tmp 5) rfl).1]⟩) ?_
  have hR:=hR.put (d:=50) (sv:=.u (.c (I64 (k : Nat)))) (v:=.int .i64 (k : Nat)) (by show 50 < 55; decide) ⟨rfl,rfl⟩
  refine wpAny_take (i:=14) (v:=.slice (if cap = k then ad else ad.map (·.add k)) (ss.length - k) (cap - k)) rfl (by kernel_rfl) (by kernel_rfl) (by kernel_rfl) (fun c a w h=>absurd h (hQp _ _ _)) (.inl ⟨rfl,fun w =>
   slice_exec (w := w) (o := { dst := some 51, op := .slice 57 (.tmp 49) (some (.tmp 50)) none none, type := 57, pos := "", after := #[], guard := none }) rfl (evV_eq hR (x := .tmp 49) rfl).1 (lo := some (.tmp 50)) (hi := none) (.inr ⟨_, _, rfl, (evV_eq hR (x := .tmp 50) rfl).1⟩) (.inl ⟨rfl, rfl⟩) hkl hcap⟩) ?_
  have hR:=hR.put (d:=51) (sv:=.u (.c (.v (.slice (if cap = k then ad else ad.map (·.add k)) (ss.length - k) (cap - k))))) (v:=.slice (if cap = k then ad else ad.map (·.add k)) (ss.length - k) (cap - k)) (by show 51 < 55; decide) ⟨rfl,rfl⟩
  have hR:=hR.sub (l1:=[(0,.u (.c (.p 50000 0))),(4,.u (.c (I64 (i : Nat)))),(39,.u (.c (.v (.slice ad k cap)))),(44,.u (.c (I64 (i : Nat)))),(51,.u (.c (.v (.slice (if cap = k then ad else ad.map (·.add k)) (ss.length - k) (cap - k)))))]) (l2:=kOwn st bu ti nw R ss) ⟨⟨rfl,rfl,rfl,rfl,rfl,trivial⟩,rfl,rfl,rfl,trivial⟩ rfl
  refine wpAny_lin [3,4,5,6,8,9,10,11,15,16,17] (os:=[_,_,_,_,_,_,_,_,_,_,_]) (by decide) (by kernel_rfl) rfl ?_
  refine list_v (S:=B []) (BT []) rfl hR (d:=40) (.u (.c (.p 50000 0))) rfl rfl (by show 40 < 55; decide) rfl fun v w1 hR f1=>?_
  refine list_v (S:=B []) (BT []) rfl hR (d:=41) (.u (.c (.p 50000 0))) rfl rfl (by show 41 < 55; decide) rfl fun v w2 hR f2=>?_
  refine list_v (S:=B []) (BT []) rfl hR (d:=42) (.u (.c (.p 50000 4))) rfl rfl (by show 42 < 55; decide) rfl fun v w3 hR f3=>?_
  refine list_v (S:=B []) (BT []) rfl hR (d:=43) (.u (.c (.r 50001 101))) rfl rfl (by show 43 < 55; decide) rfl fun v w4 hR f4=>?_
  refine list_v (S:=B []) (BT []) rfl hR (d:=45) (.u (.c (.q 50001 (i : Nat) 0))) rfl rfl (by show 45 < 55; decide) ⟨hiR,rfl⟩ fun v w5 hR f5=>?_
  refine list_v (S:=B []) (BT []) rfl hR (d:=46) (.u (.c (.q 50001 (i : Nat) 0))) rfl rfl (by show 46 < 55; decide) rfl fun v w6 hR f6=>?_
  refine list_v (S:=B []) (BT []) rfl hR (d:=47) (.u (.c (St (keyAt R i)))) rfl rfl (by show 47 < 55; decide) rfl fun v w7 hR f7=>?_
  rw [hx] at hR
  have hR:=hR.sub (l1:=[(0,.u (.c (.p 50000 0))),(4,.u (.c (I64 (i : Nat)))),(39,.u (.c (.v (.slice ad k cap)))),(47,.u (.c (St x))),(51,.u (.c (.v (.slice (if cap = k then ad else ad.map (·.add k)) (ss.length - k) (cap - k)))))]) (l2:=kOwn st bu ti nw R ss) ⟨⟨rfl,rfl,rfl,rfl,rfl,trivial⟩,rfl,rfl,rfl,trivial⟩ rfl
  have hin:=((((((hin.fr f1).fr f2).fr f3).fr f4).fr f5).fr f6).fr f7
  -- the text as a list of its own
  have hu : PR.underlying 57 = some (.slice 9):=by kernel_rfl
  refine list_run rfl (buildSlice_run (S:=B []) (BT []) (t:=57) (e:=9) (len:=1) (sz:=0) (ps:=#[(0,.tmp 47)]) (qs:=[(0,.string x)]) rfl hu (by kernel_rfl) (by decide) (by simp [(evV_eq hR (x:=.tmp 47) rfl).1]) rfl (by simp [Value.cells])) ?_
  obtain ⟨β1,b1,b2,hR,s1,kp1⟩:=hR.new (n:=48) rfl (hlow 48 (by decide)) (o:=.cells (([(0,Value.string x)] : List (Nat × Value)).flatMap fun p=>p.2.cells.toList).toArray 9) (B:=.row 57 (.rows (strRows [x.data.toList]))) (fun β' b1 b2 s kp=>⟨#[.string x],rowRd_str (fun j t hj=>by
   match j,hj with
   | 0,hj =>
    obtain rfl:=Option.some.inj hj
    rfl),by
   rw [b2]
   exact ⟨9,1,heap_new _ _,by rw [show esz (B []).T 57 = 1 from esz57]; rfl,Nat.le_refl _⟩⟩)
  have hin:=(hin.fr (fr_alloc w7 (.cells (([(0,Value.string x)] : List (Nat × Value)).flatMap fun p=>p.2.cells.toList).toArray 9) _)).of (b1 53 (by decide))
  have hR:=hR.put (d:=48) (sv:=.u (.c (.r 48 57))) (v:=.slice (some ⟨w7.heap.size,0,none⟩) 1 1) (by show 48 < 55; decide) ⟨.rows (strRows [x.data.toList]),fset_same _ _ _,by
   rw [b2]
   exact ⟨1,#[.string x],9,rfl,heap_new _ _,by rw [show esz (B []).T 57 = 1 from esz57]; rfl,Nat.le_refl _⟩⟩
  have hv48 : ∀ a' : Act,a'.tmps.size = 55 → (a'.put (some 48) (.slice (some ⟨w7.heap.size,0,none⟩) 1 1)).eval (.tmp 48) = .slice (some ⟨w7.heap.size,0,none⟩) 1 1:=fun a' h=>by simp [Act.put,Act.eval,h]
  have hsz:=hR.size
  obtain ⟨nm, β2, v15, w15, own15, hnm, hr15, hR, hown, hoth, hin⟩ := app_text (o := { dst := some 52, op := .call ⟨.builtin .append, #[.tmp 48, .tmp 51], #[57, 57]⟩, type := 57, pos := "", after := #[], guard := none }) (x := x) rfl (hlow 52 (by decide)) (by show 52 < 55; decide) rfl hR (fset_same _ _ _) (fset_same _ _ _) (hv48 _ (by simpa [Act.put] using hsz)) rfl (evV_eq hR (x := .tmp 51) rfl).1 hin hcap hkl (by omega) (show (some (Blk.row 57 (.rows (strRows ss))) : Option Blk) ≠ none from Option.some_ne_none _)
  refine list_run rfl (v:=v15) (w':=w15) hr15 ?_
  have hv39:=(evV_eq hR (x:=.tmp 39) rfl).1
  have o53 : own15 53 = some (.row 57 (.rows (strRows ss))):=(hoth 53 (by decide) (by decide)).trans rfl
  have o50 : own15 50000 = some (rtB st bu ti nw 50001):=(hoth 50000 (by decide) (by decide)).trans rfl
  have o51 : own15 50001 = some (.row 101 (.rows R)):=(hoth 50001 (by decide) (by decide)).trans rfl
  have hR:=hR.sub (l1:=[(0,.u (.c (.p 50000 0))),(4,.u (.c (I64 (i : Nat)))),(52,.u (.c (.r nm 57)))]) (l2:=[(nm,.row 57 (.rows (strRows (x.data.toList :: ss.drop k)))),(53,.row 57 (.rows (strRows ss))),(50000,rtB st bu ti nw 50001),(50001,.row 101 (.rows R))]) ⟨⟨rfl,rfl,rfl,trivial⟩,hown,o53,o50,o51,trivial⟩ (by rcases hnm with rfl | rfl <;> rfl)
  obtain ⟨β3,c1,c2,hR⟩:=hR.cutRow rfl (n:=53) (ss:=ss) k (by rcases hnm with rfl | rfl <;> rfl) (hlow 53 (by decide))
  have hR:=hR.sub (l1:=[(0,.u (.c (.p 50000 0))),(4,.u (.c (I64 (i : Nat)))),(52,.u (.c (.r nm 57)))]) (l2:=[(nm,.row 57 (.rows (strRows (x.data.toList :: ss.drop k)))),(53,.row 57 (.rows (strRows (ss.take k)))),(50000,rtB st bu ti nw 50001),(50001,.row 101 (.rows R))]) (by rcases hnm with rfl | rfl <;> exact ⟨⟨rfl,rfl,rfl,trivial⟩,rfl,rfl,rfl,rfl,trivial⟩) (by rcases hnm with rfl | rfl <;> rfl)
  have htk : (ss.take k).length = k:=by rw [List.length_take]; omega
  have hR:=hR.know (t:=39) (sv:=.u (.c (.r 53 57))) ⟨.rows (strRows (ss.take k)),by rcases hnm with rfl | rfl <;> rfl,by
   rw [show (D.rows (strRows (ss.take k))).len = k from (strRows_len _).trans htk,show Act.eval _ (.tmp 39) = _ from hv39]
   rcases hin with ⟨g1,g2,g3⟩ | ⟨b,cs,te,g1,g2,g3,g4,g5,_⟩
   ·rw [c2,g1]
    subst g2 g3
    have : k = 0:=by simpa using hkl
    subst this
    exact ⟨rfl,ad,rfl⟩
   rw [c2,g1]
   exact ⟨cap,cs,te,by rw [g2],g3,by rw [show esz (B []).T 57 = 1 from esz57,g4,Nat.mul_one],by omega⟩⟩
  have e9 : strRows (ss.take k) ++ strRows (x.data.toList :: ss.drop k) = strRows (ss.take k ++ x.data.toList :: ss.drop k):=by unfold strRows; rw [List.map_append]
  have hb9 : (strRows (ss.take k)).length + (strRows (x.data.toList :: ss.drop k)).length ≤ 137438953472:=by
   rw [strRows_len,strRows_len,htk,List.length_cons,List.length_drop]; omega
  refine runOps_sound (S:=B []) (BT []) noneS rfl rfl hlow hhi _ (N:=Sub [(0,.u (.c (.p 50000 0))),(3,.u (.c (.r 53 57))),(4,.u (.c (I64 (i : Nat))))] (kOwn st bu ti nw R (ss.take k ++ x.data.toList :: ss.drop k))) hR ?_ ?_
  ·rcases hnm with rfl | rfl
   ·conv=>whnf
    refine ⟨hb9,?_⟩;conv=>whnf
    exact ⟨⟨rfl,rfl,rfl,trivial⟩,congrArg (fun z=>some (Blk.row 57 (.rows z))) e9,rfl,rfl,trivial⟩
   conv=>whnf
   refine ⟨hb9,?_⟩;conv=>whnf
   exact ⟨⟨rfl,rfl,rfl,trivial⟩,congrArg (fun z=>some (Blk.row 57 (.rows z))) e9,rfl,rfl,trivial⟩
  rintro a w ⟨env,own,β,hN,hR⟩
  exact hQn a w ⟨env,own,β,hN,hR⟩
 exact hk.elim
end Sx
namespace Sx
open Go Go.Proofs
set_option maxRecDepth 30000
variable {G : Glob}
def numEqT (k : Nat) : List U → Out SV
 | [.a l,.a m]=>match asNum l with
  | some e=>.need (l = m ∧ NGood k e) (one (Bo true))
  | none=>.fail
 | _=>.fail
theorem numEq_ok {k : Nat} : Ok G 41 (numEqT k):=by
 have hS : AllSound (B [(69,.pure (normG (B []) [30,30] (keysEqS k))),(70,.pure (normG (B []) [32,32] (exsEqS k)))]) G:=.cons _ (keysEq_all k) (.cons _ (exsEq_ok k) noneS)
 refine okP hS Tryz.func41 rfl (by decide) fun K us hk=>?_
 unfold numEqT at hk
 split at hk
 ·rename_i l m
  split at hk
  ·rename_i e he
   obtain ⟨⟨rfl,h1,h2,h3,h4⟩,hk⟩:=hk
   rw [asNum_eq he]
   refine ⟨by show 2 ≤ _; decide,?_⟩;conv=>whnf
   refine ⟨⟨h1,h2,rfl⟩,?_⟩;conv=>whnf
   refine Ask.i (fun _=>?_) (fun c=>nf (e.start) c);conv=>whnf
   refine Ask.i (fun _=>?_) (fun c=>nf (e.time) c);conv=>whnf
   refine Ask.i (fun _=>?_) (fun c=>nf (e.kind) c);conv=>whnf
   refine Ask.i (fun _=>?_) (fun c=>nf (e.n) c);conv=>whnf
   refine ⟨⟨h3,h4,rfl⟩,?_⟩;conv=>whnf
   refine Ask.i (fun _=>?_) (fun c=>nf (e.flags) c);conv=>whnf
   exact fin hk (Bo_self e.unk.toList)
  exact hk.elim
 exact hk.elim
def histEqT (k : Nat) : List U → Out SV
 | [.a l,.a m]=>match asHist l with
  | some e=>.need (l = m ∧ HGood k e) (one (Bo true))
  | none=>.fail
 | _=>.fail
theorem histEq_ok {k : Nat} : Ok G 42 (histEqT k):=by
 have hS : AllSound (B [(69,.pure (normG (B []) [30,30] (keysEqS k))),(71,.pure (normG (B []) [37,37] optEqS)),(72,.pure (normG (B []) [38,38] numsS)),(70,.pure (normG (B []) [32,32] (exsEqS k)))]) G:=.cons _ (keysEq_all k) (.cons _ optEq_ok (.cons _ nums_ok (.cons _ (exsEq_ok k) noneS)))
 refine okP hS Tryz.func42 rfl (by decide) fun K us hk=>?_
 unfold histEqT at hk
 split at hk
 ·rename_i l m
  split at hk
  ·rename_i e he
   obtain ⟨⟨rfl,h1,h2,h3,h4,h5,h6⟩,hk⟩:=hk
   rw [asHist_eq he]
   refine ⟨by show 2 ≤ _; decide,?_⟩;conv=>whnf
   refine ⟨⟨h1,h2,rfl⟩,?_⟩;conv=>whnf
   refine Ask.i (fun _=>?_) (fun c=>nf (e.start) c);conv=>whnf
   refine Ask.i (fun _=>?_) (fun c=>nf (e.time) c);conv=>whnf
   refine Ask.i (fun _=>?_) (fun c=>nf (e.count) c);conv=>whnf
   refine ⟨⟨rfl,rfl⟩,?_⟩;conv=>whnf
   refine ⟨⟨rfl,rfl⟩,?_⟩;conv=>whnf
   refine ⟨⟨rfl,rfl⟩,?_⟩;conv=>whnf
   refine ⟨⟨by show e.cs.length ≤ 68719476736; omega,by show e.cs.length ≤ 68719476736; omega⟩,?_⟩;conv=>whnf
   refine Ask.i (fun _=>?_) (fun c=>absurd rfl (of_decide_eq_false c));conv=>whnf
   refine ⟨⟨by show e.bs.length ≤ 68719476736; omega,by show e.bs.length ≤ 68719476736; omega⟩,?_⟩;conv=>whnf
   refine Ask.i (fun _=>?_) (fun c=>absurd rfl (of_decide_eq_false c));conv=>whnf
   refine ⟨⟨h3,h4,rfl⟩,?_⟩;conv=>whnf
   refine Ask.i (fun _=>?_) (fun c=>nf (e.flags) c);conv=>whnf
   exact fin hk (Bo_self e.unk.toList)
  exact hk.elim
 exact hk.elim
def plainT : List U → Out SV
 | [.a l]=>match asPt l with
  | some p=>agg p.cells
  | none=>.fail
 | _=>.fail
theorem plain_ok : Ok G 13 plainT:=by
 refine okP noneS Tryz.func13 rfl (by decide) fun K us hk=>?_
 unfold plainT at hk
 split at hk
 ·split at hk
  ·rename_i l _ p hl
   rw [asPt_eq hl]
   refine ⟨by show 1 ≤ _; decide,?_⟩;conv=>whnf
   exact hk
  exact hk.elim
 exact hk.elim
def SameOk (k : Nat) (p : PtD) : Prop:=NGood k p.n ∧ HGood k p.h ∧ EGood k p.e
def sameT (k : Nat) : List U → Out SV
 | [.a l,.a m]=>match asPt l with
  | some p=>.need (l = m ∧ SameOk k p) (one (Bo true))
  | none=>.fail
 | _=>.fail
theorem same_ok {k : Nat} : Ok G 12 (sameT k):=by
 have hS : AllSound (B [(41,.pure (normG (B []) [35,35] (numEqT k))),(42,.pure (normG (B []) [40,40] (histEqT k))),(43,.pure (normG (B []) [44,44] (expEqS k)))]) G:=.cons _ numEq_ok (.cons _ histEq_ok (.cons _ expEq_ok noneS))
 refine okP hS Tryz.func12 rfl (by decide) fun K us hk=>?_
 unfold sameT at hk
 split at hk
 ·rename_i l m
  split at hk
  ·rename_i p hl
   obtain ⟨⟨rfl,gN,gH,gE⟩,hk⟩:=hk
   rw [asPt_eq hl]
   refine ⟨by show 2 ≤ _; decide,?_⟩;conv=>whnf
   refine Ask.i (fun _=>?_) (fun c=>nf (p.kd) c);conv=>whnf
   refine ⟨⟨rfl,gN⟩,?_⟩;conv=>whnf
   refine ⟨⟨rfl,gH⟩,?_⟩;conv=>whnf
   refine ⟨⟨rfl,gE.1,gE.2.1,gE.2.2.1,gE.2.2.2.1,Nat.le_trans gE.2.2.2.2.1 (by decide),Nat.le_trans gE.2.2.2.2.2 (by decide)⟩,?_⟩;conv=>whnf
   exact hk
  exact hk.elim
 exact hk.elim
theorem good0 {k : Nat} : SameOk (k + 1) zeroP :=
 ⟨⟨.rows rfl (by decide) (by simp) (by simp),.rows (by decide) (by simp),.rows rfl (by decide) (by simp) (by simp),.rows (by decide) (by simp)⟩,
  ⟨.rows rfl (by decide) (by simp) (by simp),.rows (by decide) (by simp),.rows rfl (by decide) (by simp) (by simp),.rows (by decide) (by simp),by decide,by decide⟩,
  ⟨.rows rfl (by decide) (by simp) (by simp),.rows (by decide) (by simp),.rows rfl (by decide) (by simp) (by simp),.rows (by decide) (by simp),by decide,by decide⟩⟩
theorem GS.same {k : Nat} {p : PtD} (h : GS (k + 1) p) : SameOk (k + 1) p:=by
 have z:=good0 (k:=k)
 have sA:=h.st
 clear h
 cases sA with
 | n h=>exact ⟨h.1,z.2.1,z.2.2⟩
 | h h=>exact ⟨z.1,h.good,z.2.2⟩
 | x h=>exact ⟨z.1,z.2.1,h.good⟩
theorem lessG_good {k : Nat} {mono : Bool} {a b m : NumD} (hA : NGood k a) (h : lessG mono a b = some m) : NGood k m:=by
 unfold lessG at h
 cases h1 : kindsB a.kind b.kind with
 | false=>rw [h1] at h; cases h
 | true =>
  rw [h1] at h
  cases h2 : a.kind == 1 with
  | true =>
   rw [h2] at h
   cases h3 : mono && lessV a.n b.n with
   | true=>rw [h3] at h; cases h
   | false =>
    rw [h3] at h
    obtain rfl:=Option.some.inj h
    exact hA
  | false =>
   rw [h2] at h
   simp only [cond_true,cond_false,lesI] at h
   cases h3 : difBad a.n b.n || mono && decide (w64 a.n < w64 b.n) with
   | true=>rw [h3] at h; cases h
   | false =>
    rw [h3] at h
    obtain rfl:=Option.some.inj h
    exact hA
theorem lhR_good {k : Nat} {a b m : HistD} (hA : HGood k a) (h : (lhR a b).1 = some m) : HGood k m:=by
 unfold lhR at h
 cases h1 : unlikeB a b with
 | true=>rw [h1] at h; cases h
 | false =>
  rw [h1] at h
  cases h2 : lBad a b with
  | true=>rw [h2] at h; cases h
  | false =>
   rw [h2] at h
   obtain rfl:=Option.some.inj h
   obtain ⟨a1,a2,a3,a4,a5,a6⟩:=hA
   refine ⟨a1,a2,a3,a4,?_,a6⟩
   show (lZip a.cs b.cs).length ≤ 3750
   unfold lZip
   rw [List.length_zipWith]; omega
theorem lexR_good {k : Nat} {a b m : ExpD} (hA : EGood k a) (h : (lexR a b).1 = some m) : EGood k m:=by
 unfold lexR at h
 cases h1 : (a.scale != b.scale || a.thr != b.thr) with
 | true=>rw [h1] at h; cases h
 | false =>
  rw [h1] at h
  simp only [cond_false] at h
  cases h2 : lexBad a b with
  | true=>rw [h2] at h; cases h
  | false =>
   rw [h2] at h
   obtain rfl:=Option.some.inj h
   obtain ⟨a1,a2,a3,a4,a5,a6⟩:=hA
   refine ⟨a1,a2,a3,a4,?_,?_⟩
   ·show (trim (rsP a).1 (lexP a b).1).2.length ≤ 3750
    refine Nat.le_trans (trim_len _ _) ?_
    unfold lexP takeL
    rw [takeGo_len]
    show (bif a.hasP then a.cP else []).length ≤ 3750
    cases a.hasP
    ·exact Nat.zero_le _
    exact a5
   show (trim (rsN a).1 (lexN a b).1).2.length ≤ 3750
   refine Nat.le_trans (trim_len _ _) ?_
   unfold lexN takeL
   rw [takeGo_len]
   show (bif a.hasN then a.cN else []).length ≤ 3750
   cases a.hasN
   ·exact Nat.zero_le _
   exact a6
theorem take_same {k : Nat} {mono : Bool} {a b r : PtD} (hA : GS (k + 1) a) (hB : GS (k + 1) b) (h : takeV mono a b = some r) : SameOk (k + 1) r:=by
 have z:=good0 (k:=k)
 have sA:=hA.st
 have sB:=hB.st
 unfold takeV at h
 cases h1 : (a.kd != b.kd || startOf a != startOf b) with
 | true=>rw [h1] at h; cases h
 | false =>
  rw [h1] at h
  clear hA hB h1
  cases sA with
  | n nA =>
   obtain ⟨m,h2,rfl⟩:=Option.map_eq_some_iff.1 h
   exact ⟨lessG_good nA.1 h2,z.2.1,z.2.2⟩
  | h hA =>
   obtain ⟨m,h2,rfl⟩:=Option.map_eq_some_iff.1 h
   exact ⟨z.1,lhR_good hA.good h2,z.2.2⟩
  | x xA =>
   obtain ⟨m,h2,rfl⟩:=Option.map_eq_some_iff.1 h
   exact ⟨z.1,z.2.1,lexR_good xA.good h2⟩
end Sx
