/- Part of the proof: a machine of states for walks, and contracts of functions over it. Conditions: those that each theorem names. -/
import Derived.Test.YtcjdbimojffggaaGreatDoorC39
import Derived.Test.YtcjdbimojffggaaGreatDoorC11
import Derived.Maps.OwnSet
import Derived.Test.YtcjdbimojffggaaGreatDoorC35
import Derived.Test.YtcjdbimojffggaaGreatDoorC40
set_option linter.unusedVariables false
set_option linter.unusedSimpArgs false
namespace Sx
open Go Go.Proofs Go.ChangeMaps Go.Maps
set_option maxRecDepth 30000
def RU : Value → Option (DataW Unit × List MemPlace):=fun _=>some (.nil,[])
theorem insert_perm {H : Type} (x : Lit × DataW H) : ∀ l : List (Lit × DataW H),(DataW.insert x l).Perm (x :: l)
 | []=>.refl _
 | y :: r=>by
  unfold DataW.insert
  split
  ·exact .refl _
  exact ((insert_perm x r).cons y).trans (.swap ..)
theorem sorted_perm {H : Type} : ∀ l : List (Lit × DataW H),(l.foldr DataW.insert []).Perm l
 | []=>.refl _
 | x :: r=>(insert_perm x _).trans ((sorted_perm r).cons x)
theorem owns_of {w : World} {A : Nat → Prop} {l : List (ByteArray × List D)} {es : Array MapEntry} {clock bm : Nat} (hm : w.heap[bm]? = some (.map es clock)) (rd : MapRd TB w A 79 l es clock) (hn : (l.map (·.1)).Nodup) (hs : ∀ kr ∈ l,kr.1.size ≤ 1000) (hl : l.length ≤ 1000) :
  ∃ D0 : DataW Unit,w.ownsMap Tryz.prog 9 RU bm es.size D0 ∧ Maps.size D0 = l.length ∧ (strKeys D0).Perm (l.map fun kr=>kr.1.data.toList):=by
 obtain ⟨c,h1,h2,h3,h4,h5⟩:=rd
 have hk : ∀ x ∈ es.toList,∃ kr ∈ l,x.key = .string kr.1:=by
  intro x hx
  obtain ⟨j,hj⟩:=List.mem_iff_getElem?.1 hx
  have hj' : es[j]? = some x:=by simpa using hj
  have hjl : j < l.length:=by have:=(Array.getElem?_eq_some_iff.1 hj').1; omega
  obtain ⟨_,born,vs,q,_⟩:=h5 j _ (List.getElem?_eq_getElem hjl)
  rw [hj'] at q
  obtain rfl:=Option.some.inj q
  exact ⟨_,List.getElem_mem hjl,rfl⟩
 have hkeys : es.toList.map (·.key) = l.map fun kr=>Value.string kr.1:=by
  refine List.ext_getElem? fun j=>?_
  simp only [List.getElem?_map,Array.getElem?_toList]
  by_cases hjl : j < l.length
  ·obtain ⟨_,born,vs,q,_⟩:=h5 j _ (List.getElem?_eq_getElem hjl)
   rw [q,List.getElem?_eq_getElem hjl]; rfl
  rw [List.getElem?_eq_none (by omega),Array.getElem?_eq_none (by omega)]; rfl
 have hu9 : Tryz.prog.underlying 9 = some .string:=by kernel_rfl
 have hst : MapKept.Stamped es clock:=by
  refine ⟨fun x hx=>h4 x (Array.mem_toList_iff.1 hx),h3,?_⟩
  rw [hkeys]
  have : (l.map fun kr=>Value.string kr.1) = (l.map (·.1)).map Value.string:=by simp
  rw [this]
  exact List.pairwise_map.2 (hn.imp fun h e=>h (Value.string.inj e))
 have hmx : (1000 : Nat) ≤ maxLen:=by decide
 have hrd : ∀ x ∈ es.toList,∃ kr ∈ l,x.key = .string kr.1 ∧ WideElems.rd Tryz.prog 9 RU x = some (.string kr.1.data.toList,.nil):=by
  intro x hx
  obtain ⟨kr,hkr,e⟩:=hk x hx
  have:=hs kr hkr
  exact ⟨kr,hkr,e,WideElems.rd_mk (R:=RU) (yv:=(.nil,[])) (key:=x.key) (val:=x.val) (born:=x.born) (by rw [e]; exact WideMaps.keyOf_string_mk hu9 (by omega)) rfl⟩
 refine ⟨_,⟨es,clock,hm,⟨by omega,hst,fun x hx=>?_⟩,Nat.le_refl _,rfl⟩,?_,?_⟩
 ·obtain ⟨kr,_,_,e⟩:=hrd x hx
  exact ⟨_,e⟩
 ·simp [Maps.size,length_sorted,h2]
 refine ((sorted_perm _).map _).trans ?_
 rw [List.map_map]
 have e : ∀ x ∈ es.toList,(((fun p : Lit × DataW Unit=>strOf p.1) ∘ WideElems.rg Tryz.prog 9 RU) x) = (match x.key with | .string s=>s.data.toList | _=>[]):=by
  intro x hx
  obtain ⟨kr,_,e1,e2⟩:=hrd x hx
  show strOf (WideElems.rg Tryz.prog 9 RU x).1 = _
  rw [WideElems.rg_of e2,e1]
  rfl
 rw [List.map_congr_left e]
 have e2 : (es.toList.map fun x=>(match x.key with | .string s=>s.data.toList | _=>[])) = (es.toList.map (·.key)).map fun v=>(match v with | .string s=>s.data.toList | _=>[]):=by rw [List.map_map]; rfl
 rw [e2,hkeys,List.map_map]
 exact .refl _
end Sx
namespace Sx
open Go Go.Proofs Go.Maps
set_option maxRecDepth 30000
variable {G : Glob}
def strRows (ss : List (List UInt8)) : List (List D):=ss.map fun s=>[.str ⟨s.toArray⟩]
def keyRows (l : List (ByteArray × List D)) : List (List D):=strRows ((l.map fun kr=>kr.1.data.toList).mergeSort leB)
theorem bytesL_eq : ∀ (x y : List UInt8),Op.bytesLess x y = decide (x < y)
 | [],[]=>by simp [Op.bytesLess]
 | _ :: _,[]=>by simp [Op.bytesLess]
 | [],_ :: _=>by simp [Op.bytesLess]
 | a :: x,b :: y=>by
  rw [Op.bytesLess,bytesL_eq x y]
  simp only [List.cons_lt_cons_iff]
  by_cases h1 : a < b <;> by_cases h2 : a = b <;> by_cases h3 : x < y <;> simp [h1,h2,h3]
theorem gtr_true {a b : List UInt8} (h : (!(Op.bytesLess a b || a == b)) = true) : leB b a = true:=by
 rw [bytesL_eq] at h
 simp only [Bool.not_eq_true',Bool.or_eq_false_iff,decide_eq_false_iff_not] at h
 exact decide_eq_true (List.not_lt.1 h.1)
theorem gtr_false {a b : List UInt8} (h : (!(Op.bytesLess a b || a == b)) = false) : leB a b = true:=by
 rw [bytesL_eq] at h
 simp only [Bool.not_eq_false',Bool.or_eq_true,decide_eq_true_eq,beq_iff_eq] at h
 rcases h with h | rfl
 ·exact decide_eq_true (List.le_of_lt h)
 exact decide_eq_true (List.le_refl _)
theorem leB_trans {a b c : List UInt8} (h1 : leB a b = true) (h2 : leB b c = true) : leB a c = true:=by
 simp only [leB,decide_eq_true_eq] at *
 exact List.le_trans h1 h2
def Srt (ss : List (List UInt8)) : Prop:=ss.Pairwise fun a b=>leB a b = true
theorem ins_sorted {ss : List (List UInt8)} {k : Nat} {x : List UInt8} (hs : Srt ss) (h1 : ∀ s ∈ ss.take k,leB s x = true) (h2 : ∀ s ∈ ss.drop k,leB x s = true) : Srt (ss.take k ++ x :: ss.drop k):=by
 refine List.pairwise_append.2 ⟨hs.sublist (List.take_sublist ..),List.pairwise_cons.2 ⟨h2,hs.sublist (List.drop_sublist ..)⟩,fun a ha b hb=>?_⟩
 rcases List.mem_cons.1 hb with rfl | hb
 ·exact h1 a ha
 exact leB_trans (h1 a ha) (h2 b hb)
theorem take_le {ss : List (List UInt8)} {k : Nat} {x s : List UInt8} (hs : Srt ss) (hk : ss[k]? = some s) (hx : leB s x = true) : ∀ t ∈ ss.take (k + 1),leB t x = true:=by
 intro t ht
 rw [List.take_add_one,hk] at ht
 rcases List.mem_append.1 ht with ht | ht
 ·obtain ⟨j,hj⟩:=List.mem_iff_getElem?.1 ht
  rw [List.getElem?_take] at hj
  split at hj
  ·rename_i hlt
   obtain ⟨a1,a2⟩:=List.getElem?_eq_some_iff.1 hj
   obtain ⟨b1,b2⟩:=List.getElem?_eq_some_iff.1 hk
   have:=List.pairwise_iff_getElem.1 hs j k a1 b1 hlt
   rw [a2,b2] at this
   exact leB_trans this hx
  cases hj
 simp only [Option.toList,List.mem_cons,List.not_mem_nil,or_false] at ht
 rw [ht]; exact hx
theorem ins_perm {ss : List (List UInt8)} {k : Nat} {x : List UInt8} : (ss.take k ++ x :: ss.drop k).Perm (ss ++ [x]):=by
 refine List.perm_middle.trans ?_
 rw [List.take_append_drop]
 exact (List.perm_append_singleton x ss).symm
theorem sorted_is {ss l : List (List UInt8)} (hs : Srt ss) (hp : ss.Perm l) : ss = l.mergeSort leB:=by
 rw [← mergeSort_of_perm hp,List.mergeSort_of_pairwise hs]
theorem strRows_len (ss : List (List UInt8)) : (strRows ss).length = ss.length:=List.length_map ..
theorem strRows_at {ss : List (List UInt8)} {k : Nat} {s : List UInt8} (h : ss[k]? = some s) : (strRows ss).getD k [] = [.str ⟨s.toArray⟩]:=by
 rw [List.getD_eq_getElem?_getD,strRows,List.getElem?_map,h]; rfl
theorem ba_list (s : List UInt8) : (⟨s.toArray⟩ : ByteArray).toList = s:=by rw [ByteArray.toList_eq]
def textsT : List U → Out SV
 | [.c (.d 57 (.rows x)),.c (.d 57 (.rows y))]=>.need (x = y ∧ x.length ≤ 1000000) (one (Bo true))
 | _=>.fail
theorem neqS (s : ByteArray) : (!(s.toList == s.toList)) = false:=by simp
theorem texts_ok : Ok G 26 textsT:=by
 refine okP noneS Tryz.func26 rfl (by decide) fun K us hk=>?_
 unfold textsT at hk
 split at hk
 ·rename_i x y
  obtain ⟨⟨rfl,hlen⟩,hk⟩:=hk
  refine ⟨by show 2 ≤ _; decide,?_⟩;conv=>whnf
  refine Ask.i (fun c=>absurd c ?_) (fun _=>?_)
  ·show ¬ (!decide (((x.length : Nat) : Int) = ((x.length : Nat) : Int))) = true
   simp
  conv=>whnf
  refine ⟨[],_,_,rfl,Nat,(fun i=>([(0,.u (.c (.d 57 (.rows x)))),(1,.u (.c (.d 57 (.rows x)))),(5,.u (.c (I64 (i : Nat))))],[])),
   (fun i=>i ≤ x.length),(fun i=>x.length - i),fun x _=>rfl,⟨0,Nat.zero_le _,⟨rfl,rfl,rfl,trivial⟩,trivial⟩,?_⟩
  intro i p1;conv=>whnf
  refine Ask.i (fun c1=>?_) (fun c1=>?_)
  ·have c1 : (i : Int) < ((x.length : Nat) : Int):=of_decide_eq_true c1
   have hb : (0 : Int) ≤ (i : Int) ∧ (i : Int) < ((x.length : Nat) : Int):=⟨by omega,c1⟩
   conv=>whnf
   refine ⟨mixed,[],[],[],by kernel_rfl,?_⟩;conv=>whnf
   refine ⟨hb,?_⟩;conv=>whnf
   refine ⟨hb,?_⟩;conv=>whnf
   refine Ask.i (fun c2=>?_) (fun c2=>?_)
   ·have c2 : (!((cellD (x.getD i []) 0).toStr.toList == (cellD (x.getD i []) 0).toStr.toList)) = true:=c2
    rw [neqS] at c2
    cases c2
   conv=>whnf
   exact ⟨i + 1,by show i + 1 ≤ x.length; omega,by show x.length - (i + 1) < x.length - i; omega,⟨rfl,rfl,congrArg (fun z : Int=>some (SV.u (.c (I64 z)))) (w64_eq (n:=(i : Int) + 1) (by omega)),trivial⟩,trivial⟩
  conv=>whnf
  exact hk
 exact hk.elim
end Sx
namespace Sx
open Go Go.Proofs Go.ChangeMaps Go.Maps
set_option maxRecDepth 30000
variable {G : Glob}
def tkeysT : List U → List Blk → Out RF
 | [.c (.p 50000 0)],[.cells 81 [.v (.int .i64 st),.v (.int .i64 bu),.v (.int .i64 ti),.v (.int .i64 nw),.m 50001 79],.map 79 l] =>
  .need ((l.map (·.1)).Nodup ∧ (∀ kr ∈ l,kr.1.size ≤ 1000) ∧ l.length ≤ 1000) (.all (List (List D)) (fun ks=>keyRows l = ks) ⟨_,rfl⟩ fun ks =>
   .ret (.u (.c (.d 57 (.rows ks))),TBk st bu ti nw l,[]))
 | _,_=>.fail
theorem krow_rd {w : World} {A : Nat → Prop} {base : Nat} {v : Value} {n : Nat} {ss : List (List UInt8)} (h : w.ownsRow base 9 1 v n (ss.map encStr)) (hA : ∀ b,base ≤ b → ¬ A b) :
  Rd TB w A (.sl 57) v (.rows (strRows ss)):=by
 have ht : TB 57 = some (.rows [.str]):=by kernel_rfl
 obtain ⟨h1,⟨rfl,rfl⟩ | ⟨g,cap,cur,rfl,h3,h4,h5,_,h7,h8⟩⟩:=h
 ·cases ss with
  | nil=>exact .nilR ht
  | cons s ss=>simp at h1
 have hlen : ss.length = n:=by simpa using h1
 subst hlen
 have hg : g < w.heap.size:=(Array.getElem?_eq_some_iff.1 h4).1
 have e : ss.length = (strRows ss).length:=by simp [strRows]
 rw [e]
 refine .rows (fun i _=>encStr (ss.getD i [])) ht (by simpa [strRows] using h5) ?_ ?_ ?_
 ·intro i r hi
  simp only [strRows,List.getElem?_map,Option.map_eq_some_iff] at hi
  obtain ⟨s,_,rfl⟩:=hi
  rfl
 ·intro i r j d hi hj
  simp only [strRows,List.getElem?_map,Option.map_eq_some_iff] at hi
  obtain ⟨s,hs,rfl⟩:=hi
  match j,hj with
  | 0,hj =>
   have hil : i < ss.length:=(List.getElem?_eq_some_iff.1 hs).1
   have e0 : i * [Ct.str].length + 0 = i:=by simp
   rw [e0,add_lit]
   refine ⟨hA g h3,hg,?_⟩
   rw [cell_of_block h4]
   have : (cur.toList.take (ss.length * 1))[i]? = (ss.map encStr)[i]?:=by rw [h8]
   rw [List.getElem?_take_of_lt (by omega),List.getElem?_map,hs] at this
   rw [Nat.zero_add,← Array.getElem?_toList,this]
   simp [List.getD,hs]
 intro i r j ct d hi hc hj
 simp only [strRows,List.getElem?_map,Option.map_eq_some_iff] at hi
 obtain ⟨s,hs,rfl⟩:=hi
 match j,hc,hj with
 | 0,hc,hj =>
  obtain rfl:=Option.some.inj hc
  obtain rfl:=Option.some.inj hj
  simp only [List.getD,hs,Option.getD_some]
  exact .str
set_option maxHeartbeats 1000000 in
theorem tkeys_ok : OkF G 15 tkeysT:=by
 refine sound_by false (S:=B []) (BT []) Tryz.func15 rfl (by decide) fun K us lent hk=>?_
 unfold tkeysT at hk
 split at hk
 ·rename_i st bu ti nw l
  obtain ⟨⟨hnd,hks,hln⟩,hk⟩:=hk
  refine ⟨by show 1 ≤ _; decide,fun E β a w Q hT hG hnt hlow hhi hR hQN hQR=>?_⟩
  obtain ⟨T,G',w0,X,L,nt,own0,β0⟩:=E
  simp only at hT hG hnt hlow hhi
  subst hT hG hnt
  refine wp_seq (wp_region_list (runOps_sound (S:=B []) (BT []) noneS rfl rfl hlow hhi _ (N:=Sub [(0,.u (.c (.p 50000 0)))] [(50000,.cells 81 [I64 st,I64 bu,I64 ti,I64 nw,.m 50001 79]),(50001,.map 79 l)]) hR ?_ ?_))
  ·conv=>whnf
   exact ⟨⟨rfl,trivial⟩,⟨rfl,rfl,trivial⟩⟩
  rintro a w1 ⟨env1,own1,β1,hN1,hR⟩
  have hR:=hR.sub hN1 rfl
  refine wp_seq (wp_region_list ?_)
  show wpList PR _ _ ([_,_,_,_] ++ [_,_,_]) a w1
  refine runOps_app (S:=B []) (BT []) noneS rfl rfl hlow hhi _ (N:=Sub [(6,.u (.c (.m 50001 79)))] [(50000,.cells 81 [I64 st,I64 bu,I64 ti,I64 nw,.m 50001 79]),(50001,.map 79 l)]) hR ?_ ?_
  ·conv=>whnf
   exact ⟨⟨rfl,trivial⟩,⟨rfl,rfl,trivial⟩⟩
  rintro a w4 ⟨env4,own4,β4,hN4,hR⟩
  have hR:=hR.sub hN4 rfl
  obtain ⟨bm,es,clock,g7,g8,g9⟩:=hR.blks.blk 50001 _ rfl
  have hsz : a.tmps.size = 9:=hR.size
  have hv6 : a.eval (.tmp 6) = .map (some bm):=by
   obtain ⟨l,b,_,z3,z4⟩:=hR.vals 6 _ rfl
   rw [g7] at z3
   obtain rfl:=Option.some.inj z3
   exact z4
  refine list_call rfl (clo_run (f:=47) (caps:=#[]) ⟨_,Tryz.func47,rfl,by decide⟩ rfl rfl) ?_
  rw [show (#[Operand.tmp 6].map a.eval ++ #[]) = #[.map (some bm)] by simp [hv6]]
  refine (callsIn_wide.1 (Tryz.maps_Keys_47 (some bm) w4)).mono fun e w5 ⟨c1,c2⟩=>⟨_,c1,?_⟩
  subst c2
  have f45 : Fr w4 (w4.alloc (.cells #[.map (some bm)] 79)) fun _=>False:=⟨rfl,rfl,rfl,by simp,fun b hb _=>Go.RowKit.Below.heap_alloc w4 _ b hb⟩
  have hR5:=(hR.idle f45).put (d:=7) (sv:=.u (.c .bad)) (v:=.func (.func 76) #[] #[.pointer (some ⟨w4.heap.size,0,none⟩)]) (by show 7 < 9; decide) rfl
  refine list_call rfl (clo_run (f:=46) (caps:=#[]) ⟨_,Tryz.func46,rfl,by decide⟩ rfl rfl) ?_
  rw [show (#[Operand.tmp 7].map (a.put (some 7) (.func (.func 76) #[] #[.pointer (some ⟨w4.heap.size,0,none⟩)])).eval ++ #[]) = #[.func (.func 76) #[] #[.pointer (some ⟨w4.heap.size,0,none⟩)]] by simp [eval_put,hsz]]
  obtain ⟨D0,ho1,ho2,ho3⟩:=owns_of g8 g9 hnd hks hln
  have hmx : (1000 : Nat) ≤ maxLen:=by decide
  refine (callsIn_wide.1 (Tryz.slices_Sorted_keys bm es.size D0 RU w4 ho1 (by omega) (by omega))).mono fun e w6 ⟨v,ss,d1,d2,d3,d4,d5⟩=>⟨v,d1,?_⟩
  have hss : strRows (ss.mergeSort leB) = keyRows l:=by rw [keyRows,mergeSort_of_perm (d2.trans ho3)]
  have hlen : (strKeys D0).length = l.length:=by rw [ho3.length_eq]; simp
  have d3' : w6.ownsRow (w4.alloc (.cells #[.map (some bm)] 79)).heap.size 9 1 v ss.length ((ss.mergeSort leB).map encStr):=d3
  have f56 : Fr (w4.alloc (.cells #[.map (some bm)] 79)) w6 fun _=>False:=⟨d5.os,d5.tape,d5.output,d5.size,fun b hb _=>d5.block b hb⟩
  have hR6:=hR5.idle f56
  have hk2:=krow_rd (w:=w6) (A:=Av X β4 (lookT [(50000,.cells 81 [I64 st,I64 bu,I64 ti,I64 nw,.m 50001 79]),(50001,.map 79 l)]) ) d3' (by
   intro b hb hav
   have hb' : (w4.alloc (.cells #[.map (some bm)] 79)).heap.size ≤ b:=hb
   rcases hav with hx | ⟨n,q1,q2⟩
   ·have:=hR5.xold b hx
    have:=hR5.frame.size
    simp only at *
    omega
   have:=(hR5.blks.loc n b q1 q2).1
   omega)
  obtain ⟨ks,hks2⟩ : ∃ ks,keyRows l = ks:=⟨_,rfl⟩
  rw [hss,hks2] at hk2
  have hk:=hk ks hks2
  have hR7:=hR6.put (d:=8) (sv:=.u (.c (.d 57 (.rows ks)))) (v:=v) (by show 8 < 9; decide) hk2
  refine runOps_sound (S:=B []) (BT []) noneS rfl rfl hlow hhi _ (N:=Sub [(2,.u (.c (.d 57 (.rows ks))))] [(50000,.cells 81 [I64 st,I64 bu,I64 ti,I64 nw,.m 50001 79]),(50001,.map 79 l)]) hR7 ?_ ?_
  ·conv=>whnf
   exact ⟨⟨rfl,trivial⟩,⟨rfl,rfl,trivial⟩⟩
  rintro a w8 ⟨env8,own8,β8,hN8,hR8⟩
  have hR8:=hR8.sub hN8 rfl
  refine wpC_sound (S:=B []) (BT []) noneS rfl rfl hlow hhi .ret (N:=fun _ _=>False) (X:=fun _ _ _=>False) hR8 ?_ (fun _ _ ⟨_,_,_,hh,_⟩=>hh.elim) (fun _ _ _ ⟨_,_,_,hh,_⟩=>hh.elim) hQR;conv=>whnf
  exact hk
 exact hk.elim
end Sx
