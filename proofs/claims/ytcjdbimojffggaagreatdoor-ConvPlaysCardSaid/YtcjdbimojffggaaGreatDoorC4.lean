/- Part of the proof: a machine of states for walks, and contracts of functions over it. Conditions: those that each theorem names. -/
import Derived.Test.YtcjdbimojffggaaGreatDoorC3
import Derived.Laws.OwnMore
import Derived.Laws.MakeOwn
set_option linter.unusedVariables false
set_option linter.unusedSimpArgs false
namespace Sx
open Go
section
variable {S : Pr} {E : Ctx} {β : Nat → Option Nat} {env : Env} {own snap : Own} {a : Act} {w : World}
variable (hT : TOk S.P S.tt) (h : Rel E β env own a w) (hs : ∀ n B,snap n = some B → own n = some B) (hET : E.T = S.T)
theorem fill_seq (sz : Nat) : ∀ (ps : List (Nat × Value)) (k : Nat) (cs : List Value),ps.map (·.1) = List.range' k ps.length → (∀ p ∈ ps,p.2.cells.size = sz) → (k + ps.length) * sz ≤ cs.length →
  Instr.fill (fun i=>some (i * sz,sz)) cs.toArray ps = some (cs.take (k * sz) ++ ps.flatMap (fun p=>p.2.cells.toList) ++ cs.drop ((k + ps.length) * sz)).toArray
 | [],k,cs,_,_,_=>by simp [Instr.fill]
 | (i,y) :: ps,k,cs,h1,h2,h3=>by
  simp only [List.map_cons,List.length_cons,List.range'_succ,List.cons.injEq] at h1
  obtain ⟨rfl,h1⟩:=h1
  have hy:=h2 _ (List.mem_cons_self ..)
  simp only at hy
  simp only [List.length_cons] at h3
  have e0 : (i + (ps.length + 1)) * sz = i * sz + sz + ps.length * sz:=by rw [Nat.add_mul,Nat.add_mul,Nat.one_mul]; omega
  rw [e0] at h3
  have hput:=foldl_put y.cells.toList (i * sz) cs (by rw [Array.length_toList,hy]; omega)
  have ih:=fill_seq sz ps (i + 1) (cs.take (i * sz) ++ y.cells.toList ++ cs.drop (i * sz + y.cells.toList.length)) h1 (fun p hp=>h2 p (List.mem_cons_of_mem _ hp)) (by
   simp only [List.length_append,List.length_take,List.length_drop,Array.length_toList,hy]
   rw [show (i + 1 + ps.length) * sz = i * sz + sz + ps.length * sz from by rw [Nat.add_mul,Nat.add_mul,Nat.one_mul]]
   omega)
  simp only [Instr.fill,hy]
  rw [if_neg (by simp; omega)]
  have e1 : (y.cells.zipIdx.foldl (fun (cs : Array Value) (x : Value × Nat)=>match x with | (c,j)=>cs.setIfInBounds (i * sz + j) c) cs.toArray) = (cs.take (i * sz) ++ y.cells.toList ++ cs.drop (i * sz + y.cells.toList.length)).toArray:=by
   apply Array.ext'
   rw [← hput]
   simp only [← Array.foldl_toList,Array.toList_zipIdx]
  have e2 : y.cells.toList.length = sz:=by rw [Array.length_toList,hy]
  have l1 : (cs.take (i * sz)).length = i * sz:=by simp; omega
  rw [show (Array.foldl (fun (cs : Array Value) (x : Value × Nat)=>match x with | (c,j)=>cs.setIfInBounds (i * sz + j) c) cs.toArray y.cells.zipIdx) = _ from e1,ih]
  congr 2
  have t1 : (i + 1) * sz = i * sz + sz:=by rw [Nat.add_mul,Nat.one_mul]
  rw [e2]
  have t2 : (cs.take (i * sz) ++ y.cells.toList ++ cs.drop (i * sz + sz)).take ((i + 1) * sz) = cs.take (i * sz) ++ y.cells.toList:=by
   rw [List.take_append_of_le_length (by simp only [List.length_append,l1,e2]; omega)]
   exact List.take_of_length_le (by simp only [List.length_append,l1,e2]; omega)
  have t3 : (cs.take (i * sz) ++ y.cells.toList ++ cs.drop (i * sz + sz)).drop ((i + 1 + ps.length) * sz) = cs.drop ((i + (ps.length + 1)) * sz):=by
   rw [e0,show (i + 1 + ps.length) * sz = i * sz + sz + ps.length * sz from by rw [Nat.add_mul,Nat.add_mul,Nat.one_mul],List.drop_append,List.drop_of_length_le (by simp only [List.length_append,l1,e2]; omega)]
   simp only [List.length_append,l1,e2,List.nil_append,List.drop_drop]
   congr 1
   omega
  rw [t2,t3]
  simp
theorem fr_alloc (w : World) (o : Obj) (L : Nat → Prop) : Fr w (w.alloc o) L:=⟨rfl,rfl,rfl,by simp,fun b hb _=>Go.RowKit.Below.heap_alloc w o b hb⟩
theorem not_av (h : Rel E β env own a w) {b : Nat} (hb : w.heap.size ≤ b) : ¬ Av E.X β own b:=by
 rintro (hx | ⟨n,h1,h2⟩)
 ·have:=h.xold _ hx; have:=h.frame.size; omega
 have:=(h.blks.loc n b h1 h2).1; omega
theorem stay_alloc (h : Rel E β env own a w) (o : Obj) : Stay w (Av E.X β own) (w.alloc o) (Av E.X β own):=⟨by simp,fun b hb hn=>⟨Go.RowKit.Below.heap_alloc w o b hb,hn⟩⟩
theorem dOf_rd {T : Tab} {A : Nat → Prop} {ct : Ct} {c : C} {d : D} {v : Value} (hd : dOf T ct c = some d) (hc : DenC T w β A own c v) : Rd T w A ct v d:=by
 unfold dOf at hd
 split at hd
 ·split at hd
  ·rename_i k k' n e
   obtain rfl:=Option.some.inj hd
   obtain rfl : v = _:=hc.1
   rw [e]
   exact .int
  cases hd
 ·obtain rfl:=Option.some.inj hd
  obtain rfl : v = _:=hc.1
  exact .bool
 ·obtain rfl:=Option.some.inj hd
  obtain rfl : v = _:=hc.1
  exact .str
 ·rename_i t t' x
  cases hb : t.beq t' with
  | false=>simp [hb] at hd
  | true =>
   simp only [hb,cond_true,Option.some.injEq] at hd
   obtain rfl:=Nat.eq_of_beq_eq_true hb
   subst hd
   exact hc
 ·obtain rfl : v = _:=hc.1
  split at hd
  ·obtain rfl:=Option.some.inj hd
   exact .nilI ‹_›
  ·obtain rfl:=Option.some.inj hd
   exact .nilR ‹_›
  cases hd
 cases hd
theorem elemsD_rd {T : Tab} {A : Nat → Prop} : ∀ {cts : List Ct} {l : List C} {ds : List D} {vs : List Value},elemsD T cts l = some ds → All2 (DenC T w β A own) l vs →
  ds.length = cts.length ∧ vs.length = cts.length ∧ ∀ (j : Nat) ct d,cts[j]? = some ct → ds[j]? = some d → ∃ v,vs[j]? = some v ∧ Rd T w A ct v d
 | [],[],ds,[],h1,_=>by simp only [elemsD,Option.some.injEq] at h1; subst h1; simp
 | ct :: cts,c :: l,ds,v :: vs,h1,h2=>by
  simp only [elemsD] at h1
  split at h1
  ·rename_i d hd
   split at h1
   ·rename_i r hr
    obtain rfl:=Option.some.inj h1
    obtain ⟨e1,e2,e3⟩:=elemsD_rd hr h2.2
    refine ⟨by simp [e1],by simp [e2],?_⟩
    intro j ct' d' hj hd'
    rcases j with _ | j
    ·simp only [List.getElem?_cons_zero,Option.some.injEq] at hj hd'
     subst hj hd'
     exact ⟨v,rfl,dOf_rd hd h2.1⟩
    simpa using e3 j ct' d' (by simpa using hj) (by simpa using hd')
   cases h1
  cases h1
 | [],_ :: _,_,_,h1,_=>by simp [elemsD] at h1
 | _ :: _,[],_,_,h1,_=>by simp [elemsD] at h1
 | _,_ :: _,_,[],_,h2=>h2.elim
 | _,[],_,_ :: _,_,h2=>h2.elim
theorem flat_get {sz : Nat} : ∀ {ps : List (Nat × Value)},(∀ p ∈ ps,p.2.cells.size = sz) → ∀ {i : Nat} {p : Nat × Value},ps[i]? = some p → ∀ {j : Nat} {v : Value},p.2.cells.toList[j]? = some v →
  (ps.flatMap fun p=>p.2.cells.toList)[i * sz + j]? = some v
 | [],_,i,p,hi,_,_,_=>by simp at hi
 | q :: ps,hq,i,p,hi,j,v,hj=>by
  have h0 : q.2.cells.toList.length = sz:=by rw [Array.length_toList]; exact hq q (List.mem_cons_self ..)
  simp only [List.flatMap_cons]
  rcases i with _ | i
  ·simp only [List.getElem?_cons_zero,Option.some.injEq] at hi
   subst hi
   have:=(List.getElem?_eq_some_iff.1 hj).1
   rw [List.getElem?_append_left (by omega)]
   simpa using hj
  simp only [List.getElem?_cons_succ] at hi
  have e : (i + 1) * sz + j = sz + (i * sz + j):=by rw [Nat.add_mul,Nat.one_mul]; omega
  rw [e,List.getElem?_append_right (by omega),h0,Nat.add_sub_cancel_left]
  exact flat_get (fun p hp=>hq p (List.mem_cons_of_mem _ hp)) hi hj
theorem mapO_len {α β : Type} {f : α → Option β} : ∀ {l : List α} {m : List β},mapO f l = some m → m.length = l.length
 | [],m,h=>by simp only [mapO,Option.some.injEq] at h; subst h; rfl
 | a :: l,m,h=>by
  simp only [mapO] at h
  split at h
  ·split at h
   ·rename_i hl
    obtain rfl:=Option.some.inj h
    simp [mapO_len hl]
   cases h
  cases h
theorem mapO_get {α β : Type} {f : α → Option β} : ∀ {l : List α} {m : List β},mapO f l = some m → ∀ {i : Nat} {y : β},m[i]? = some y → ∃ x,l[i]? = some x ∧ f x = some y
 | [],m,h,i,y,hi=>by simp only [mapO,Option.some.injEq] at h; subst h; simp at hi
 | a :: l,m,h,i,y,hi=>by
  simp only [mapO] at h
  split at h
  ·rename_i b hb
   split at h
   ·rename_i l' hl
    obtain rfl:=Option.some.inj h
    rcases i with _ | i
    ·simp only [List.getElem?_cons_zero,Option.some.injEq] at hi
     subst hi
     exact ⟨a,rfl,hb⟩
    simp only [List.getElem?_cons_succ] at hi ⊢
    exact mapO_get hl hi
   cases h
  cases h
theorem buildSlice_run (hT : TOk S.P S.tt) {o : Oper} {t e : TypeId} {len sz : Nat} {ps : Array (Nat × Operand)} {qs : List (Nat × Value)} (ho : o.op = .buildSlice t len ps) (hu : S.P.underlying t = some (.slice e))
  (hsz : sizeT S e = some (sz + 1)) (hle : len * (sz + 1) ≤ 2 ^ 24) (hq : qs = ps.toList.map fun p=>(p.1,a.eval p.2)) (h1 : qs.map (·.1) = List.range len) (h2 : ∀ p ∈ qs,p.2.cells.size = sz + 1) :
  (execOp a.eval o).run S.P w = .ok (.value (.slice (some ⟨w.heap.size,0,none⟩) len len)) (w.alloc (.cells (qs.flatMap fun p=>p.2.cells.toList).toArray e)):=by
 obtain ⟨ie,hie,hsi⟩:=sizeT_info hT hsz
 have hl : qs.length = len:=by have:=congrArg List.length h1; simpa using this
 have hzr : ∃ z,(zeroValue e).run S.P w = .ok z w:=by
  unfold sizeT at hsz
  cases he : S.tt e with
  | none=>simp [he] at hsz
  | some i=>obtain ⟨z,hz,_⟩:=(hT.get he).zeroV w; exact ⟨z,hz⟩
 obtain ⟨z,hz⟩:=hzr
 have hfill:=fun cs hcs=>fill_seq (sz + 1) qs 0 cs (by rw [h1,hl,List.range_eq_range']) h2 hcs
 have hps : (Array.map (fun (x : Nat × Operand)=>match x with | (i,x)=>(i,a.eval x)) ps).toList = qs:=by rw [hq]; simp
 by_cases h0 : len = 0
 ·subst h0
  have hqs : qs = []:=List.length_eq_zero_iff.1 hl
  subst hqs
  have hps' : (Array.map (fun (x : Nat × Operand)=>match x with | (i,x)=>(i,a.eval x)) ps).toList = []:=hps
  simp [execOp,ho,Instr.buildSlice,run_underlying hu,Go.sizeOf,typeInfo,hie,hsi]
  have e0 : ps = #[]:=by
   have:=congrArg List.length hps'
   simp at this
   exact this
  subst e0
  simp [Instr.fill,newRow,newObj,Sem.run]
  have e1 : Array.map (fun _ : Nat=>(default : Value)) (Array.range 0) = #[]:=by apply Array.ext'; simp
  rw [e1]
 have hne : ¬ len * (sz + 1) = 0:=by
  intro e
  rcases Nat.mul_eq_zero.1 e with e | e <;> omega
 have hnl : ¬ (len * (sz + 1) > 2 ^ 24):=by omega
 have hf:=hfill ((List.range (len * (sz + 1))).map fun i=>z.cells[i % z.cells.size]!) (by simp [hl])
 simp only [execOp,ho,Instr.buildSlice,Sem.run_bind,run_underlying hu,Result.andThen_ok,Go.sizeOf,typeInfo,run_program,hie,Sem.run_pure,hsi,if_neg hnl,if_neg hne,hz,hps]
 have ea : (Array.map (fun x=>z.cells[x % z.cells.size]!) (Array.range (len * (sz + 1)))) = ((List.range (len * (sz + 1))).map fun i=>z.cells[i % z.cells.size]!).toArray:=by
  apply Array.ext'
  simp
 have hd : ((List.range (len * (sz + 1))).map fun i=>z.cells[i % z.cells.size]!).drop ((0 + qs.length) * (sz + 1)) = []:=List.drop_of_length_le (by simp [hl])
 rw [hd] at hf
 rw [ea,hf]
 simp [newRow,newObj,Sem.run,hl]
include hT h hET in
theorem v_buildSlice {o : Oper} {t : TypeId} {len : Nat} {ps : Array (Nat × Operand)} {K : SV → Prop} (ho : o.op = .buildSlice t len ps) (hk : (opV S snap env o).wp K) : VOk S E β own a w o K:=by
 simp only [opV,ho] at hk
 split at hk
 ·rename_i e cts z by_ l h0 h1
  have hu:=(hT.get h0).slice rfl
  have hpd:=partsC_den h h1
  have hlen:=hpd.length
  simp only [List.length_map,Array.length_toList] at hlen
  rcases wp_ite_cond hk with ⟨hb,hk⟩ | ⟨_,hk⟩
  ·simp only [Bool.and_eq_true,List.isEmpty_iff] at hb
   obtain rfl:=Nat.eq_of_beq_eq_true hb.1
   obtain rfl:=hb.2
   have hps : ps.toList = []:=List.length_eq_zero_iff.1 (by simpa using hlen.symm)
   split at hk
   ·rename_i sz hsz
    have hrun:=buildSlice_run (a:=a) (w:=w) (qs:=[]) hT ho hu hsz (by simp) (by simp [hps]) (by simp) (by simp)
    exact ⟨_,_,_,hk,hrun,fr_alloc _ _ _,_,rfl⟩
   exact hk.elim
  split at hk
  ·rename_i sz k hsz hel
   split at hk
   ·rename_i xs hxs
    obtain ⟨hb,hk1⟩:=wp_cond_fail hk
    simp only [Bool.and_eq_true,beq_iff_eq] at hb
    have hle:=Nat.le_of_ble_eq_true hb.2
    have hxl:=mapO_len hxs
    have hll : l.length = len:=by have:=congrArg List.length hb.1; simpa using this
    have h1' : (ps.toList.map fun p=>(p.1,a.eval p.2)).map (·.1) = List.range len:=by
     rw [← hb.1]
     refine List.ext_getElem? fun i=>?_
     cases hi : l[i]? with
     | none =>
      have:=List.getElem?_eq_none_iff.1 hi
      simp [hi]
      omega
     | some x =>
      obtain ⟨y,hy,e1,_⟩:=hpd.get hi
      simp only [List.getElem?_map,hi,Option.map_some,e1]
      simp only [List.getElem?_map] at hy
      rw [hy]; rfl
    obtain ⟨ie,hie,hsi,_⟩:=el_size hT h0 hel
    have hs1 : sz = 0:=by
     unfold sizeT at hsz
     rw [hie] at hsz
     simp only [Option.map_some,Option.some.injEq,hsi,El.size] at hsz
     omega
    subst hs1
    have cell : ∀ (i : Nat) (x : Int),xs[i]? = some x → ∃ p,(ps.toList.map fun p=>(p.1,a.eval p.2))[i]? = some p ∧ p.2.cells.toList = [.int k x]:=by
     intro i x hi
     obtain ⟨y,hy,hf⟩:=mapO_get hxs hi
     obtain ⟨p,hp,_,hd⟩:=hpd.get hy
     refine ⟨p,hp,?_⟩
     split at hf
     ·rename_i c hc
      split at hf
      ·rename_i d hdd
       obtain rfl:=Option.some.inj hf
       rw [hc] at hd
       have hl2:=hd.length
       obtain ⟨v,hv,hdv⟩:=hd.get (i:=0) rfl
       rw [← hET] at hdd
       have hr:=dOf_rd hdd hdv
       cases hr
       cases hp2 : p.2.cells.toList with
       | nil=>simp [hp2] at hl2
       | cons v' r =>
        rw [hp2] at hl2 hv
        have : r = []:=by simpa using hl2
        subst this
        simp only [List.getElem?_cons_zero,Option.some.injEq] at hv
        rw [hv]; rfl
      cases hf
     cases hf
    have h2' : ∀ p ∈ (ps.toList.map fun p=>(p.1,a.eval p.2)),p.2.cells.size = 0 + 1:=by
     intro p hp
     obtain ⟨i,hi⟩:=List.mem_iff_getElem?.1 hp
     have hlt : i < xs.length:=by
      have:=(List.getElem?_eq_some_iff.1 hi).1
      simp only [List.length_map,Array.length_toList] at this
      omega
     obtain ⟨p',hp',hc⟩:=cell i xs[i] (List.getElem?_eq_getElem hlt)
     rw [hi] at hp'
     obtain rfl:=Option.some.inj hp'
     rw [← Array.length_toList,hc]; rfl
    have hrun:=buildSlice_run (a:=a) (w:=w) hT ho hu hsz hle rfl h1' h2'
    have hxlen : xs.length = len:=by omega
    refine ⟨_,_,_,hk1,hrun,fr_alloc _ _ _,?_⟩
    show Rd E.T _ _ _ _ _
    rw [← hxlen,hET]
    refine .ints hel (Nat.le_refl _) fun i n hi=>⟨?_,?_,?_⟩
    ·rw [add_block]; exact not_av h (Nat.le_refl _)
    ·rw [add_block]; simp
    rw [add_lit]
    obtain ⟨p,hp,hc⟩:=cell i n hi
    have:=flat_get h2' hp (j:=0) (v:=.int k n) (by rw [hc]; rfl)
    simp only [Nat.zero_add]
    rw [World.cell?_alloc_at _ _ _ _ rfl]
    simpa using this
   exact hk.elim
  ·rename_i sz cts' hsz hel
   split at hk
   ·rename_i xs hxs
    obtain ⟨hb,hk1⟩:=wp_cond_fail hk
    simp only [Bool.and_eq_true,beq_iff_eq] at hb
    have hle:=Nat.le_of_ble_eq_true hb.2
    have hxl:=mapO_len hxs
    have hll : l.length = len:=by have:=congrArg List.length hb.1; simpa using this
    have h1' : (ps.toList.map fun p=>(p.1,a.eval p.2)).map (·.1) = List.range len:=by
     rw [← hb.1]
     refine List.ext_getElem? fun i=>?_
     cases hi : l[i]? with
     | none =>
      have:=List.getElem?_eq_none_iff.1 hi
      simp [hi]
      omega
     | some x =>
      obtain ⟨y,hy,e1,_⟩:=hpd.get hi
      simp only [List.getElem?_map,hi,Option.map_some,e1]
      simp only [List.getElem?_map] at hy
      rw [hy]; rfl
    obtain ⟨ie,hie,hsi,_⟩:=el_size hT h0 hel
    have hs1 : sz + 1 = cts'.length:=by
     unfold sizeT at hsz
     rw [hie] at hsz
     simp only [Option.map_some,Option.some.injEq,hsi,El.size] at hsz
     omega
    have cell : ∀ (i : Nat) (x : List D),xs[i]? = some x → ∃ p,(ps.toList.map fun p=>(p.1,a.eval p.2))[i]? = some p ∧ x.length = cts'.length ∧ p.2.cells.toList.length = cts'.length ∧
      ∀ (j : Nat) ct d,cts'[j]? = some ct → x[j]? = some d → ∃ v,p.2.cells.toList[j]? = some v ∧ Rd E.T w (Av E.X β own) ct v d:=by
     intro i x hi
     obtain ⟨y,hy,hf⟩:=mapO_get hxs hi
     obtain ⟨p,hp,_,hd⟩:=hpd.get hy
     rw [← hET] at hf
     exact ⟨p,hp,elemsD_rd hf hd⟩
    have h2' : ∀ p ∈ (ps.toList.map fun p=>(p.1,a.eval p.2)),p.2.cells.size = sz + 1:=by
     intro p hp
     obtain ⟨i,hi⟩:=List.mem_iff_getElem?.1 hp
     have hlt : i < xs.length:=by
      have:=(List.getElem?_eq_some_iff.1 hi).1
      simp only [List.length_map,Array.length_toList] at this
      omega
     obtain ⟨p',hp',_,hc,_⟩:=cell i xs[i] (List.getElem?_eq_getElem hlt)
     rw [hi] at hp'
     obtain rfl:=Option.some.inj hp'
     rw [← Array.length_toList,hc,hs1]
    have hrun:=buildSlice_run (a:=a) (w:=w) hT ho hu hsz hle rfl h1' h2'
    have hxlen : xs.length = len:=by omega
    refine ⟨_,_,_,hk1,hrun,fr_alloc _ _ _,?_⟩
    show Rd E.T _ _ _ _ _
    rw [← hxlen,hET]
    let qs:=ps.toList.map fun p=>(p.1,a.eval p.2)
    refine .rows (fun i j=>((qs.flatMap fun p=>p.2.cells.toList)[i * cts'.length + j]?).getD undef) hel (Nat.le_refl _) (fun i x hi=>(cell i x hi).choose_spec.2.1) ?_ ?_
    ·intro i x j d hi hd
     refine ⟨by rw [add_block]; exact not_av h (Nat.le_refl _),by rw [add_block]; simp,?_⟩
     obtain ⟨p,hp,c1,c2,c3⟩:=cell i x hi
     have hj : j < cts'.length:=by have:=(List.getElem?_eq_some_iff.1 hd).1; omega
     obtain ⟨v,hv,_⟩:=c3 j _ d (List.getElem?_eq_getElem hj) hd
     have:=flat_get h2' hp hv
     rw [hs1] at this
     rw [add_lit,World.cell?_alloc_at _ _ _ _ rfl]
     simp only [Nat.zero_add]
     show (List.toArray _)[_]? = _
     simp only [List.getElem?_toArray]
     rw [show qs.flatMap (fun p=>p.2.cells.toList) = _ from rfl,this]
     rfl
    intro i x j ct d hi hj hd
    obtain ⟨p,hp,c1,c2,c3⟩:=cell i x hi
    obtain ⟨v,hv,hr⟩:=c3 j _ d hj hd
    have:=flat_get h2' hp hv
    rw [hs1] at this
    show Rd _ _ _ _ (((qs.flatMap fun p=>p.2.cells.toList)[i * cts'.length + j]?).getD undef) _
    rw [show qs.flatMap (fun p=>p.2.cells.toList) = _ from rfl,this]
    rw [← hET]
    exact hr.stay (stay_alloc h _)
   exact hk.elim
  exact hk.elim
 exact hk.elim
include hT h hs hET in
theorem v_lookup {o : Oper} {t : TypeId} {x k : Operand} {K : SV → Prop} (ho : o.op = .lookup t x k true) (hk : (opV S snap env o).wp K) : VOk S E β own a w o K:=by
 simp only [opV,ho] at hk
 split at hk
 ·rename_i kt e cts0 z0 by0 n u s cts h0 h1 h2 h3
  obtain ⟨l1,b,q1,q2,q3⟩:=evC_den h h1
  have hkv:=(evV_eq h h2).1
  have hu : S.P.underlying t = some (.map kt e):=(hT.get h0).mapT rfl
  split at hk
  ·rename_i u' l i cts1 z1 by1 h4 h5 h6
   have hkt : S.P.underlying kt = some .string:=(hT.get h6).strT rfl
   obtain ⟨hb,hk1⟩:=wp_cond_fail hk
   simp only [Bool.and_eq_true] at hb
   obtain rfl:=Nat.eq_of_beq_eq_true hb.1
   have e1:=(hs _ _ h4).symm.trans q1
   simp only [Option.some.injEq,Blk.map.injEq] at e1
   obtain ⟨rfl,rfl⟩:=e1
   obtain ⟨b',es,clock,r1,r2,r3⟩:=h.blks.blk n _ q1
   have : b' = b:=by rw [q2] at r1; exact (Option.some.inj r1).symm
   subst this
   obtain ⟨kl,kk⟩:=keys_at r3
   obtain ⟨z,hz,hzc⟩:=(hT.get h5).zeroV w
   obtain ⟨_,_,zv,_,_,_,_,_,_,_,hz1,_⟩:=(hT.get h5).ok
   have hk2:=hk1 _ rfl
   have run : ∀ {r : Option (Nat × Value)},Instr.findNow .string (.string s) es.toList 0 = some r → (execOp a.eval o).run S.P w = .ok (.value (.tuple #[(match r with | some p=>p.2 | none=>z),.bool (match r with | some _=>true | none=>false)])) w:=by
    intro r hf
    have:=lookup_run hu hkt r2 hz hf
    cases r <;> simp [execOp,ho,q3,hkv,Sem.run_bind,this]
   have hagg : ∃ cs,z = .agg cs:=by
    have h7 : i.zero.length ≠ 1:=fun hh=>by have:=hb.2; rw [hh] at this; simp at this
    rw [← hzc] at h7
    cases z <;> first | exact ⟨_,rfl⟩ | (exfalso; exact h7 rfl)
   obtain ⟨c,g1,g2,g3,g4,g5⟩:=r3
   obtain rfl : c = cts:=by rw [hET] at g1; rw [h3] at g1; exact (El.rows.inj (Option.some.inj g1)).symm
   rcases findNow_str s l es.toList 0 kl kk with ⟨f1,f2,_⟩ | ⟨j,kr,v,bb,f1,f2,f3,f4,f5,_⟩
   ·rw [f2] at hk2
    obtain ⟨cs,rfl⟩:=hagg
    refine .same hk2 (run f1) ?_
    refine ⟨[.agg cs,.bool false],by simp,⟨cs.toList,by simp,?_⟩,⟨rfl,rfl⟩,trivial⟩
    rw [show cs.toList = i.zero from hzc]
    exact zero_all hz1
   rw [f5] at hk2
   have hk3 : K (.t [.a (rowCs c kr.2),.c (.v (.bool true))]):=by
    have this : (seeL (rowCs c kr.2) fun l=>Out.ret (.t [.a l,.c (.v (.bool true))])).wp K:=hk2
    rw [seeL_eq] at this
    exact this
   obtain ⟨g6,born,vs,g7,g8,g9⟩:=g5 j kr f2
   have e3 : v = .agg vs.toArray:=by
    rw [show es.toList[j]? = es[j]? by simp,g7] at f3
    exact (MapEntry.mk.inj (Option.some.inj f3)).2.1.symm
   subst e3
   refine .same hk3 (run f1) ?_
   exact ⟨[.agg vs.toArray,.bool true],by simp,⟨vs,rfl,rowCs_den g6 g8 g9⟩,⟨rfl,rfl⟩,trivial⟩
  exact hk.elim
 exact hk.elim
include hT h hs hET in
theorem opV_sound {o : Oper} {K : SV → Prop} (hk : (opV S snap env o).wp K) : VOk S E β own a w o K:=by
 cases ho : o.op with
 | move x=>exact v_move h (.inl ho) hk
 | assign x=>exact v_move h (.inr ho) hk
 | pick c x y=>exact v_pick h ho hk
 | fieldAddr s x f=>exact v_fieldAddr hT h ho hk
 | field s x f=>exact v_field hT h ho hk
 | extract x i=>exact v_extract h ho hk
 | nilCheck x=>exact v_nilCheck h ho hk
 | makeInterface t x=>exact v_makeInterface hT h ho hk
 | load t x=>exact v_load hT h hs hET ho hk
 | indexAddr t x i=>exact v_indexAddr hT h hs hET ho hk
 | slice t x lo hi mx=>exact v_slice hT h hET ho hk
 | build t ps=>exact v_build hT h ho hk
 | binOp op t x y t'=>exact v_binOp hT h ho hk
 | unOp op t x=>exact v_unOp h ho hk
 | convert s t x=>exact v_convert hT h ho hk
 | buildSlice t len ps=>exact v_buildSlice hT h hET ho hk
 | lookup t x k ok =>
  cases ok with
  | true=>exact v_lookup hT h hs hET ho hk
  | false=>simp only [opV,ho] at hk; exact hk.elim
 | call c =>
  obtain ⟨callee,args,ts⟩:=c
  cases callee with
  | builtin b =>
   cases b with
   | len=>exact v_len hT h hs ho hk
   | min=>exact v_min h ho hk
   | max=>exact v_max h ho hk
   | _=>simp only [opV,ho] at hk; exact hk.elim
  | _=>simp only [opV,ho] at hk; exact hk.elim
 | _=>simp only [opV,ho] at hk; exact hk.elim
end
end Sx
namespace Sx
open Go
def C.drop (n : Nat) : C → C
 | .p k o=>bif k.beq n then .bad else .p k o
 | .r k t=>bif k.beq n then .bad else .r k t
 | .q k i o=>bif k.beq n then .bad else .q k i o
 | .m k t=>bif k.beq n then .bad else .m k t
 | .v x=>.v x
 | .d t x=>.d t x
 | .z t=>.z t
 | .e a b c=>.e a b c
 | .bad=>.bad
def U.drop (n : Nat) : U → U | .c x=>.c (x.drop n) | .a l=>.a (l.map (C.drop n))
def SV.drop (n : Nat) : SV → SV | .u x=>.u (x.drop n) | .t l=>.t (l.map (U.drop n))
def Blk.drop (n : Nat) : Blk → Blk | .cells t l=>.cells t (l.map (C.drop n)) | b=>b
def Env.drop (env : Env) (n : Nat) : Env:=fun t=>match env t with | some sv=>some (sv.drop n) | none=>none
def Own.drop (own : Own) (n : Nat) : Own:=fun m=>bif m.beq n then none else match own m with | some b=>some (b.drop n) | none=>none
section
variable {E : Ctx} {β β' : Nat → Option Nat} {env : Env} {own own' : Own} {a : Act} {w w' : World} {T : Tab} {A : Nat → Prop}
theorem DenC.drop {n : Nat} {c : C} {v : Value} (h : DenC T w β A own c v) : DenC T w β A (fdel own n) (c.drop n) v:=by
 have h1:=h.oneV
 have key : ∀ m,m.beq n = false → fdel own n m = own m:=fun m hm=>fdel_ne own (fun e=>by subst e; simp at hm)
 cases c with
 | p m o =>
  simp only [C.drop]
  cases hb : m.beq n with
  | true=>exact h1
  | false=>simp only [cond_false]; obtain ⟨b,t,l,e1,e2⟩:=h; exact ⟨b,t,l,by rw [key m hb]; exact e1,e2⟩
 | r m t =>
  simp only [C.drop]
  cases hb : m.beq n with
  | true=>exact h1
  | false=>simp only [cond_false]; obtain ⟨x,e1,e2⟩:=h; exact ⟨x,by rw [key m hb]; exact e1,e2⟩
 | q m i o =>
  simp only [C.drop]
  cases hb : m.beq n with
  | true=>exact h1
  | false=>simp only [cond_false]; obtain ⟨t,x,b,e1,e2⟩:=h; exact ⟨t,x,b,by rw [key m hb]; exact e1,e2⟩
 | m m t =>
  simp only [C.drop]
  cases hb : m.beq n with
  | true=>exact h1
  | false=>simp only [cond_false]; obtain ⟨l,b,e1,e2⟩:=h; exact ⟨l,b,by rw [key m hb]; exact e1,e2⟩
 | _=>exact h
theorem DenU.drop {n : Nat} {c : U} {v : Value} (h : DenU T w β A own c v) : DenU T w β A (fdel own n) (c.drop n) v:=by
 cases c with
 | c x=>exact DenC.drop h
 | a l=>obtain ⟨cs,e,hh⟩:=h; exact ⟨cs,e,hh.map_left (C.drop n) fun _ _=>DenC.drop (n:=n)⟩
theorem DenS.drop {n : Nat} {c : SV} {v : Value} (h : DenS T w β A own c v) : DenS T w β A (fdel own n) (c.drop n) v:=by
 cases c with
 | u x=>exact DenU.drop h
 | t l=>obtain ⟨cs,e,hh⟩:=h; exact ⟨cs,e,hh.map_left (U.drop n) fun _ _=>DenU.drop (n:=n)⟩
theorem own_drop_ne {n m : Nat} (h : m ≠ n) : own.drop n m = (match own m with | some b=>some (b.drop n) | none=>none):=by simp only [Own.drop,beqn h,cond_false]
theorem own_drop_same {n : Nat} : own.drop n n = none:=by simp [Own.drop]
theorem own_drop_isSome {n m : Nat} (h : own.drop n m ≠ none) : m ≠ n ∧ own m ≠ none:=by
 by_cases e : m = n
 ·subst e; exact absurd own_drop_same h
 refine ⟨e,fun h'=>h ?_⟩; rw [own_drop_ne e,h']
theorem own_drop_some {n m : Nat} {B : Blk} (h : own.drop n m = some B) : m ≠ n ∧ ∃ B',own m = some B' ∧ B = B'.drop n:=by
 obtain ⟨h1,h2⟩:=own_drop_isSome (own:=own) (n:=n) (m:=m) (by rw [h]; simp)
 rw [own_drop_ne h1] at h
 cases hm : own m with
 | none=>exact absurd hm h2
 | some B'=>rw [hm] at h; exact ⟨h1,B',rfl,(Option.some.inj h).symm⟩
theorem keep_drop {n d : Nat} {B : Blk} (hd : own d = none ∨ d = n) (h1 : ∀ m,m ≠ d → β' m = β m) (hb : ∀ m b,own m ≠ none → m ≠ n → β m = some b → w'.heap[b]? = w.heap[b]?) : Keep (fdel own n) w β (fset (own.drop n) d B) w' β':=by
 intro m B' hm
 by_cases e : m = n
 ·subst e; rw [fdel_same] at hm; cases hm
 rw [fdel_ne _ e] at hm
 have hmd : m ≠ d:=fun e'=>by
  rcases hd with hd | hd
  ·rw [e',hd] at hm; cases hm
  exact e (e'.trans hd)
 have e2 : fset (own.drop n) d B m = some (B'.drop n):=by rw [fset_ne _ _ hmd,own_drop_ne e,hm]
 refine ⟨h1 m hmd,?_⟩
 rw [e2]
 cases B' with
 | cells t l=>exact ⟨_,_,rfl⟩
 | row t x=>exact ⟨x,rfl,rfl,fun b cs te hβ hc=>⟨cs,(hb m b (by simp [hm]) e hβ).trans hc,rfl⟩⟩
 | map t l=>exact ⟨l,rfl⟩
theorem Rel.swap (h : Rel E β env own a w) {n d : Nat} {bo : Option Nat} {B : Blk} (hd : own d = none ∨ d = n) (hd0 : E.own0 d = none) (fr : Fr w w' fun x=>own n ≠ none ∧ β n = some x)
  (hbo : ∀ b,bo = some b → (own n ≠ none ∧ β n = some b) ∨ (w.heap.size ≤ b ∧ b < w'.heap.size))
  (hB : ∀ β',(∀ m,m ≠ d → β' m = β m) → β' d = bo → Stay w (Av E.X β own) w' (Av E.X β' (fset (own.drop n) d B)) → BlkOk E.T w' β' (Av E.X β' (fset (own.drop n) d B)) (fset (own.drop n) d B) d B) :
  ∃ β',(∀ m,m ≠ d → β' m = β m) ∧ β' d = bo ∧ Rel E β' (env.drop n) (fset (own.drop n) d B) a w':=by
 let β' : Nat → Option Nat:=fun m=>if m = d then bo else β m
 have e1 : ∀ m,m ≠ d → β' m = β m:=fun m hm=>by simp [β',hm]
 have e2 : β' d = bo:=by simp [β']
 have old : ∀ m,m ≠ d → fset (own.drop n) d B m ≠ none → m ≠ n ∧ own m ≠ none:=fun m hm hs=>own_drop_isSome (by rwa [fset_ne _ _ hm] at hs)
 have same : ∀ m b,own m ≠ none → m ≠ n → β m = some b → w'.heap[b]? = w.heap[b]?:=fun m b hm hmn hβ =>
  fr.heap b (h.blks.loc m b hm hβ).1 fun hx=>hmn (h.blks.inj m n b hm hx.1 hβ hx.2)
 have hA : ∀ b,b < w.heap.size → ¬ Av E.X β own b → ¬ Av E.X β' (fset (own.drop n) d B) b:=by
  rintro b hb hna (hx | ⟨m,h1,h2⟩)
  ·exact hna (.inl hx)
  by_cases hm : m = d
  ·subst hm; rw [e2] at h2
   rcases hbo b h2 with hx | hx
   ·exact hna (.inr ⟨n,hx⟩)
   omega
  rw [e1 m hm] at h2; exact hna (.inr ⟨m,(old m hm h1).2,h2⟩)
 have s : Stay w (Av E.X β own) w' (Av E.X β' (fset (own.drop n) d B)):=⟨fr.size,fun b hb hn=>⟨fr.heap b hb fun hx=>hn (.inr ⟨n,hx⟩),hA b hb hn⟩⟩
 have k:=keep_drop (own:=own) (n:=n) (B:=B) (w:=w) (w':=w') hd e1 same
 have bsz : ∀ b,bo = some b → b < w'.heap.size:=by
  intro b hb
  rcases hbo b hb with hx | hx
  ·have:=(h.blks.loc n b hx.1 hx.2).1; have:=fr.size; omega
  exact hx.2
 refine ⟨β',e1,e2,h.defers,h.size,?_,⟨?_,?_,?_⟩,?_,?_,?_,h.xold,?_⟩
 ·intro t sv hs
  unfold Env.drop at hs
  split at hs
  ·rename_i sv0 h0
   obtain rfl:=Option.some.inj hs
   exact ((h.vals t sv0 h0).drop (n:=n)).keep s k
  cases hs
 ·intro m B' hB'
  by_cases hm : m = d
  ·subst hm; rw [fset_same] at hB'; obtain rfl:=Option.some.inj hB'; exact hB β' e1 e2 s
  rw [fset_ne _ _ hm] at hB'
  obtain ⟨hmn,B0,hB0,rfl⟩:=own_drop_some hB'
  have hb:=h.blks.blk m B0 hB0
  have eβ:=e1 m hm
  cases B0 with
  | cells t l =>
   obtain ⟨b,cs,c1,c2,c3⟩:=hb
   refine ⟨b,cs,eβ.trans c1,(same m b (by simp [hB0]) hmn c1).trans c2,?_⟩
   exact (c3.map_left (C.drop n) fun _ _=>DenC.drop (n:=n)).mono fun _ _=>DenC.keep s k
  | row t x =>
   obtain ⟨cs,c1,c2⟩:=hb
   refine ⟨cs,c1.stay s,?_⟩
   rw [eβ]
   cases hβ : β m with
   | none=>rw [hβ] at c2; exact c2
   | some b=>rw [hβ] at c2; obtain ⟨te,cap,c3,c4⟩:=c2; exact ⟨te,cap,(same m b (by simp [hB0]) hmn hβ).trans c3,c4⟩
  | map t l =>
   obtain ⟨b,es,clock,c1,c2,c3⟩:=hb
   exact ⟨b,es,clock,eβ.trans c1,(same m b (by simp [hB0]) hmn c1).trans c2,c3.stay s⟩
 ·intro m m' b h1 h2 h3 h4
  by_cases hm : m = d <;> by_cases hm' : m' = d
  ·rw [hm,hm']
  ·subst hm; rw [e2] at h3; rw [e1 m' hm'] at h4
   obtain ⟨o1,o2⟩:=old m' hm' h2
   rcases hbo b h3 with hx | hx
   ·exact absurd (h.blks.inj m' n b o2 hx.1 h4 hx.2) o1
   have:=(h.blks.loc m' b o2 h4).1; omega
  ·subst hm'; rw [e2] at h4; rw [e1 m hm] at h3
   obtain ⟨o1,o2⟩:=old m hm h1
   rcases hbo b h4 with hx | hx
   ·exact absurd (h.blks.inj m n b o2 hx.1 h3 hx.2) o1
   have:=(h.blks.loc m b o2 h3).1; omega
  rw [e1 m hm] at h3; rw [e1 m' hm'] at h4
  exact h.blks.inj m m' b (old m hm h1).2 (old m' hm' h2).2 h3 h4
 ·intro m b h1 h2
  by_cases hm : m = d
  ·subst hm; rw [e2] at h2
   refine ⟨bsz b h2,?_⟩
   rcases hbo b h2 with hx | hx
   ·exact (h.blks.loc n b hx.1 hx.2).2
   exact ⟨fun hX=>by have:=h.xold _ hX; have:=h.frame.size; omega,Nat.le_trans h.glob.1 hx.1⟩
  rw [e1 m hm] at h2
  have:=h.blks.loc m b (old m hm h1).2 h2
  exact ⟨Nat.lt_of_lt_of_le this.1 fr.size,this.2⟩
 ·exact h.glob.fr fr fun b hb hx=>by have:=(h.blks.loc n b hx.1 hx.2).2.2; omega
 ·exact h.frame.trans fr fun x hx hx'=>(h.mine n x hx'.1 hx'.2).resolve_left (by omega)
 ·intro m b h1 h2
  by_cases hm : m = d
  ·subst hm; rw [e2] at h2
   rcases hbo b h2 with hx | hx
   ·exact h.mine n b hx.1 hx.2
   exact .inl (Nat.le_trans h.frame.size hx.1)
  rw [e1 m hm] at h2; exact h.mine m b (old m hm h1).2 h2
 have h0 : KeepL E.own0 E.w0 E.β0 (fdel own n) w β:=by
  intro m B1 B2 h1 h2
  by_cases e : m = n
  ·subst e; rw [fdel_same] at h2; cases h2
  rw [fdel_ne _ e] at h2; exact h.kept m B1 B2 h1 h2
 refine h0.keep k fun m h1 h2=>?_
 by_cases hm : m = d
 ·rw [hm]; exact hd0
 obtain ⟨o1,o2⟩:=old m hm h2
 rw [fdel_ne _ o1] at h1
 exact absurd h1 o2
theorem Rel.upd (h : Rel E β env own a w) {n b : Nat} {B0 B1 : Blk} (hB : own n = some B0) (hβ : β n = some b) (fr : Fr w w' fun x=>x = b)
  (hk : match B0 with
   | .cells _ _=>∃ t l,B1 = .cells t l
   | .row t x=>∃ x',B1 = .row t x' ∧ x'.len = x.len ∧ ∀ cs te,w.heap[b]? = some (.cells cs te (0,0)) → ∃ cs',w'.heap[b]? = some (.cells cs' te (0,0)) ∧ cs'.size = cs.size
   | .map t _=>∃ l,B1 = .map t l)
  (hok : Stay w (Av E.X β own) w' (Av E.X β (fset own n B1)) → Keep own w β (fset own n B1) w' β → BlkOk E.T w' β (Av E.X β (fset own n B1)) (fset own n B1) n B1) :
  Rel E β env (fset own n B1) a w':=by
 have hs : ∀ m,fset own n B1 m ≠ none ↔ own m ≠ none:=by
  intro m
  by_cases e : m = n
  ·subst e; rw [fset_same]; simp [hB]
  rw [fset_ne _ _ e]
 have hA : ∀ x,x < w.heap.size → ¬ Av E.X β own x → ¬ Av E.X β (fset own n B1) x:=by
  rintro x _ hna (hx | ⟨m,h1,h2⟩)
  ·exact hna (.inl hx)
  exact hna (.inr ⟨m,(hs m).1 h1,h2⟩)
 have same : ∀ m x,own m ≠ none → m ≠ n → β m = some x → w'.heap[x]? = w.heap[x]?:=fun m x hm hmn hx =>
  fr.heap x (h.blks.loc m x hm hx).1 fun e=>hmn (h.blks.inj m n x hm (by simp [hB]) hx (by rw [e]; exact hβ))
 have fr' : Fr w w' (Mine β own):=⟨fr.os,fr.tape,fr.output,fr.size,fun x hx hn=>fr.heap x hx fun e=>hn ⟨n,by simp [hB],by rw [e]; exact hβ⟩⟩
 have k : Keep own w β (fset own n B1) w' β:=by
  intro m B' hm
  refine ⟨rfl,?_⟩
  by_cases e : m = n
  ·subst e
   rw [hB] at hm
   obtain rfl:=Option.some.inj hm
   rw [fset_same]
   cases B0 with
   | cells t l=>obtain ⟨t',l',e⟩:=hk; exact ⟨t',l',by rw [e]⟩
   | row t x =>
    obtain ⟨x',e,e2,e3⟩:=hk
    refine ⟨x',by rw [e],e2,fun y cs te hy hc=>?_⟩
    rw [hβ] at hy
    obtain rfl:=Option.some.inj hy
    exact e3 cs te hc
   | map t l=>obtain ⟨l',e⟩:=hk; exact ⟨l',by rw [e]⟩
  rw [fset_ne _ _ e]
  cases B' with
  | cells t l=>exact ⟨_,_,hm⟩
  | row t x=>exact ⟨x,hm,rfl,fun y cs te hy hc=>⟨cs,(same m y (by simp [hm]) e hy).trans hc,rfl⟩⟩
  | map t l=>exact ⟨_,hm⟩
 have s:=stay_of h fr' hA
 refine h.step fr' hA k ⟨?_,?_,?_⟩ ?_ (fun m h1 h2=>absurd h1 ((hs m).1 h2))
 ·intro m B' hm
  by_cases e : m = n
  ·subst e; rw [fset_same] at hm; obtain rfl:=Option.some.inj hm; exact hok s k
  rw [fset_ne _ _ e] at hm
  exact (h.blks.blk m B' hm).keep s k hm fun x hx=>same m x (by simp [hm]) e hx
 ·exact fun m m' x h1 h2=>h.blks.inj m m' x ((hs m).1 h1) ((hs m').1 h2)
 ·intro m x h1 h2
  have:=h.blks.loc m x ((hs m).1 h1) h2
  exact ⟨Nat.lt_of_lt_of_le this.1 fr.size,this.2⟩
 exact fun m x h1 h2=>h.mine m x ((hs m).1 h1) h2
end
end Sx
namespace Sx
open Go
def dataOf (T : Tab) (snap : Own) (t : TypeId) : C → Option D
 | .d u x=>bif t.beq u then some x else none
 | .r n u=>match snap n with | some (.row u' x)=>bif t.beq u && t.beq u' then some x else none | _=>none
 | .z _=>match T t with | some (.ints _)=>some (.ints []) | some (.rows _)=>some (.rows []) | none=>none
 | .v (.slice none 0 0)=>match T t with | some (.ints _)=>some (.ints []) | some (.rows _)=>some (.rows []) | none=>none
 | _=>none
def dapp (T : Tab) (t : TypeId) (x y : D) : Option D :=
 match T t with
 | some (.ints _)=>some (.ints (x.toInts ++ y.toInts))
 | some (.rows _)=>some (.rows (x.toRows ++ y.toRows))
 | none=>none
def bytesT (S : Pr) (t : TypeId) : Option Nat:=match S.tt t with
 | some ⟨.slice e,_,_,_⟩=>match S.tt e with | some i=>some i.bytes | none=>none
 | _=>none
def isNilS : C → Bool | .z _=>true | .v (.slice none 0 0)=>true | _=>false
def opN (S : Pr) (snap : Own) (env : Env) (d : Nat) (o : Oper) : Out (C × Blk) :=
 match o.op with
 | .alloc e=>match S.tt e with | some i=>seeL (i.zero.map .v) fun l=>.ret (.p d 0,.cells e l) | none=>.fail
 | .box e x=>match evU env x with | some u=>seeL u.cells fun l=>.ret (.p d 0,.cells e l) | none=>.fail
 | .makeSlice t x y=>match S.tt t,evV env x,evV env y with
  | some ⟨.slice e,_,_,_⟩,some (.int _ l),some (.int _ c)=>match S.tt e,S.T t with
   | some ⟨.cell (.int k),_,[.int k' z],by_⟩,some (.ints k2)=>bif decide (z = 0) && sameK k k' && sameK k k2 && by_.ble 128 then .need (0 ≤ l ∧ l ≤ c ∧ c ≤ 1099511627776) (.ret (.r d t,.row t (.ints (List.replicate l.toNat 0)))) else .fail
   | _,_=>.fail
  | _,_,_=>.fail
 | .call ⟨.builtin .append,args,ts⟩=>match args.toList,ts.toList with
  | [x,y],[t,t']=>match evC env x,evC env y,bytesT S t with
   | some cx,some cy,some by_=>bif t.beq t' && isNilS cx && by_.ble 1024 then (match dataOf S.T snap t cy with
    | some yd=>match dapp S.T t (.ints []) yd with
     | some r=>.need (yd.len ≤ 137438953472) (.ret (.r d t,.row t r))
     | none=>.fail
    | none=>.fail) else .fail
   | _,_,_=>.fail
  | _,_=>.fail
 | _=>.fail
section
variable {S : Pr} {E : Ctx} {β : Nat → Option Nat} {env : Env} {own snap : Own} {a : Act} {w : World}
theorem heap_new (w : World) (o : Obj) : (w.alloc o).heap[w.heap.size]? = some o:=by
 show (w.heap.push o)[w.heap.size]? = some o
 simp
theorem cells_den {T : Tab} {A : Nat → Prop} {u : U} {v : Value} (hd : DenU T w β A own u v) : All2 (DenC T w β A own) u.cells v.cells.toList:=by
 cases u with
 | c x =>
  have h1:=DenC.oneV hd
  have : v.cells.toList = [v]:=by cases v <;> simp_all [Value.cells,oneV]
  rw [this]
  exact ⟨hd,trivial⟩
 | a l =>
  obtain ⟨cs,he,hl⟩:=hd
  simpa [he,Value.cells,U.cells] using hl
variable (hT : TOk S.P S.tt) (h : Rel E β env own a w) (hs : ∀ n B,snap n = some B → own n = some B) (hET : E.T = S.T)
def NOk (S : Pr) (E : Ctx) (env : Env) (own : Own) (a : Act) (w : World) (o : Oper) (d : Nat) (K : C × Blk → Prop) : Prop :=
 ∃ c B v w' β',K (c,B) ∧ (execOp a.eval o).run S.P w = .ok (.value v) w' ∧ Rel E β' env (fset own d B) a w' ∧ DenC E.T w' β' (Av E.X β' (fset own d B)) (fset own d B) c v
include hT h in
theorem n_alloc {o : Oper} {d : Nat} {e : TypeId} {K : C × Blk → Prop} (hd : own d = none) (hd0 : E.own0 d = none) (ho : o.op = .alloc e) (hk : (opN S snap env d o).wp K) : NOk S E env own a w o d K:=by
 simp only [opN,ho] at hk
 split at hk
 ·rename_i i hi
  rw [seeL_eq] at hk
  have ht:=hT.get hi
  obtain ⟨zv,hzr,hzc⟩:=ht.zeroV w
  obtain ⟨_,_,_,_,_,_,_,_,_,hzl,hz1,_⟩:=ht.ok
  have hzc' : zv.cells = i.zero.toArray:=by apply Array.ext'; simpa using hzc
  obtain ⟨β',e1,e2,hR,_,_⟩:=h.new (n:=d) hd hd0 (o:=.cells zv.cells e) (B:=.cells e (i.zero.map .v)) (fun β' e1 e2 s k=>⟨w.heap.size,i.zero,e2,by rw [heap_new,hzc'],zero_all hz1⟩)
  refine ⟨_,_,.pointer (some ⟨w.heap.size,0,none⟩),_,β',hk,?_,hR,w.heap.size,e,_,fset_same _ _ _,e2,rfl⟩
  simp [execOp,ho,Instr.alloc,hzr,newVar,newRow,newObj,Sem.run]
 exact hk.elim
include h in
theorem n_box {o : Oper} {d : Nat} {e : TypeId} {x : Operand} {K : C × Blk → Prop} (hd : own d = none) (hd0 : E.own0 d = none) (ho : o.op = .box e x) (hk : (opN S snap env d o).wp K) : NOk S E env own a w o d K:=by
 simp only [opN,ho] at hk
 split at hk
 ·rename_i u hu
  rw [seeL_eq] at hk
  have hden:=cells_den (evU_den h hu)
  obtain ⟨β',e1,e2,hR,_,_⟩:=h.new (n:=d) hd hd0 (o:=.cells (a.eval x).cells e) (B:=.cells e u.cells) (fun β' e1 e2 s k=>⟨w.heap.size,(a.eval x).cells.toList,e2,by rw [heap_new],hden.mono fun _ _=>DenC.keep s k⟩)
  refine ⟨_,_,.pointer (some ⟨w.heap.size,0,none⟩),_,β',hk,?_,hR,w.heap.size,e,_,fset_same _ _ _,e2,rfl⟩
  simp [execOp,ho,Instr.box,newVar,newRow,newObj,Sem.run]
 exact hk.elim
theorem madeCells_get {z : Value} {n i : Nat} (h : i < n) : (madeCells #[z] n)[i]? = some z:=by
 simp [madeCells,h]
 simp [Nat.mod_one]
include hT h hET in
theorem n_makeSlice {o : Oper} {d : Nat} {t : TypeId} {x y : Operand} {K : C × Blk → Prop} (hd : own d = none) (hd0 : E.own0 d = none) (ho : o.op = .makeSlice t x y) (hk : (opN S snap env d o).wp K) : NOk S E env own a w o d K:=by
 simp only [opN,ho] at hk
 split at hk
 ·rename_i e cts z by_ kl l kc c h0 h1 h2
  have hx:=(evV_eq h h1).1
  have hy:=(evV_eq h h2).1
  have hu:=(hT.get h0).slice rfl
  split at hk
  ·rename_i k cts' k' z' b' k2 h3 h4
   obtain ⟨hb,hk1⟩:=wp_cond_fail hk
   obtain ⟨⟨n1,n2,n3⟩,hk2⟩:=need_of hk1
   simp only [Bool.and_eq_true,sameK,decide_eq_true_eq] at hb
   obtain ⟨⟨⟨rfl,rfl⟩,rfl⟩,hb4⟩:=hb
   have hb4:=Nat.le_of_ble_eq_true hb4
   obtain ⟨_,inf,zv,_,_,hi,hs1,hz,hzc,_,_,hby,_⟩:=(hT.get h3).ok
   obtain ⟨ie,hie,hsi,_⟩:=el_size hT h0 h4
   have hs2 : inf.size = 1:=by rw [hs1]; rw [h3] at hie; cases hie; exact hsi
   have hzc' : zv.cells = #[.int k 0]:=by apply Array.ext'; simpa using hzc
   have hrun:=Go.run_make (P:=S.P) w t e inf zv hu hi hz kl kc l c n1 n2 (by rw [hby]; simp only; have : (b' : Int) * c ≤ 128 * c:=Int.mul_le_mul_of_nonneg_right (by omega) (by omega); omega) (by omega)
   rw [hs2,Nat.mul_one,hzc'] at hrun
   have hsz : (madeCells #[Value.int k 0] c.toNat).size = c.toNat:=by simp [madeCells]
   have hez : esz E.T t = 1:=by rw [hET]; simp [esz,h4,El.size]
   obtain ⟨β',e1,e2,hR,_,_⟩:=h.new (n:=d) hd hd0 (o:=.cells (madeCells #[.int k 0] c.toNat) e) (B:=.row t (.ints (List.replicate l.toNat 0)))
    (fun β' e1 e2 s kp=>by
     refine ⟨madeCells #[.int k 0] c.toNat,.inl ⟨k,_,by rw [hET]; exact h4,rfl,?_⟩,?_⟩
     ·intro i n hi'
      have hlt:=(List.getElem?_eq_some_iff.1 hi').1
      simp only [List.length_replicate] at hlt
      have : n = 0:=by
       rw [List.getElem?_replicate] at hi'
       split at hi' <;> simp_all
      subst this
      exact madeCells_get (by omega)
     rw [e2]
     exact ⟨e,c.toNat,heap_new _ _,by rw [hsz,hez]; omega,by simp [D.len]; omega⟩)
   refine ⟨_,_,.slice (some ⟨w.heap.size,0,none⟩) l.toNat c.toNat,_,β',hk2,?_,hR,_,fset_same _ _ _,?_⟩
   ·simp only [execOp,ho,hx,hy,Sem.run_bind,hrun,Result.andThen_ok,Sem.run_pure]
   rw [e2]
   exact ⟨c.toNat,_,e,by simp [D.len],heap_new _ _,by rw [hsz,hez]; omega,by simp [D.len]; omega⟩
  exact hk.elim
 exact hk.elim
end
end Sx
