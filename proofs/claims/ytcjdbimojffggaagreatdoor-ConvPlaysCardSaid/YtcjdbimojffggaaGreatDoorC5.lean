/- Part of the proof: a machine of states for walks, and contracts of functions over it. Conditions: those that each theorem names. -/
import Derived.Test.YtcjdbimojffggaaGreatDoorC4
import Derived.Laws.AppendOwn
set_option linter.unusedVariables false
set_option linter.unusedSimpArgs false
namespace Sx
open Go
theorem oneCell_of {v : Value} (h : oneV v = true) : v.oneCell' = true:=by cases v <;> simp_all [oneV,Value.oneCell']
section
variable {S : Pr} {E : Ctx} {β : Nat → Option Nat} {env : Env} {own snap : Own} {a : Act} {w : World} {T : Tab} {A : Nat → Prop}
theorem mul_add_lt {i j n m : Nat} (hi : i < n) (hj : j < m) : i * m + j < n * m:=by
 have : i * m + m ≤ n * m:=by rw [← Nat.succ_mul]; exact Nat.mul_le_mul_right m hi
 omega
theorem RowRd.cut {t : TypeId} {x : D} {cs : Array Value} (h : RowRd T w A t x cs) (hl : x.len * esz T t ≤ cs.size) :
  RowRd T w A t x (cs.toList.take (x.len * esz T t)).toArray ∧ ∀ u ∈ cs.toList.take (x.len * esz T t),oneV u = true:=by
 rcases h with ⟨k,l,h1,rfl,h2⟩ | ⟨c,l,h1,rfl,vs,h2,h3,h4⟩
 ·have hz : esz T t = 1:=by simp [esz,h1,El.size]
  rw [hz] at hl ⊢
  simp only [D.len,Nat.mul_one] at hl ⊢
  refine ⟨.inl ⟨k,l,h1,rfl,fun i n hi=>?_⟩,fun u hu=>?_⟩
  ·have hlt:=(List.getElem?_eq_some_iff.1 hi).1
   have:=h2 i n hi
   simp only [List.getElem?_toArray,List.getElem?_take,if_pos hlt]
   simpa using this
  obtain ⟨i,hi⟩:=List.mem_iff_getElem?.1 hu
  rw [List.getElem?_take] at hi
  split at hi
  ·rename_i hlt
   have:=h2 i _ (List.getElem?_eq_getElem hlt)
   rw [← Array.getElem?_toList,hi] at this
   obtain rfl:=Option.some.inj this
   rfl
  cases hi
 have hz : esz T t = c.length:=by simp [esz,h1,El.size]
 rw [hz] at hl ⊢
 simp only [D.len] at hl ⊢
 have key : ∀ (i : Nat) e (j : Nat) d,l[i]? = some e → e[j]? = some d → i * c.length + j < l.length * c.length:=by
  intro i e j d hi hj
  have h5:=(List.getElem?_eq_some_iff.1 hi).1
  have h6:=(List.getElem?_eq_some_iff.1 hj).1
  rw [h2 i e hi] at h6
  exact mul_add_lt h5 h6
 refine ⟨.inr ⟨c,l,h1,rfl,vs,h2,fun i e j d hi hj=>?_,h4⟩,fun u hu=>?_⟩
 ·simp only [List.getElem?_toArray,List.getElem?_take,if_pos (key i e j d hi hj)]
  simpa using h3 i e j d hi hj
 obtain ⟨m,hm⟩:=List.mem_iff_getElem?.1 hu
 rw [List.getElem?_take] at hm
 split at hm
 ·rename_i hlt
  have hc : 0 < c.length:=by
   rcases Nat.eq_zero_or_pos c.length with e | e
   ·rw [e] at hlt; omega
   exact e
  have hi : m / c.length < l.length:=by rw [Nat.div_lt_iff_lt_mul hc]; exact hlt
  have hj : m % c.length < c.length:=Nat.mod_lt _ hc
  have e1 : m / c.length * c.length + m % c.length = m:=by rw [Nat.mul_comm]; exact Nat.div_add_mod m c.length
  have hle:=h2 _ _ (List.getElem?_eq_getElem hi)
  have h5:=h3 (m / c.length) _ (m % c.length) _ (List.getElem?_eq_getElem hi) (List.getElem?_eq_getElem (by omega))
  have h6:=h4 (m / c.length) _ (m % c.length) _ _ (List.getElem?_eq_getElem hi) (List.getElem?_eq_getElem hj) (List.getElem?_eq_getElem (by omega))
  rw [e1,← Array.getElem?_toList,hm] at h5
  obtain rfl:=Option.some.inj h5
  exact h6.oneV
 cases hm
theorem Rd.row {t : TypeId} {v : Value} {x : D} (h : Rd T w A (.sl t) v x) : ∃ ad cap news,v = .slice ad x.len cap ∧ x.len ≤ cap ∧ List.length news = x.len * esz T t ∧ (ad = none → x.len = 0) ∧
  (∀ a,ad = some a → ∀ (j : Nat) u,news[j]? = some u → w.cell? (a.add j) = some u) ∧ RowRd T w A t x news.toArray ∧ ∀ u ∈ news,Sx.oneV u = true:=by
 cases h with
 | nilI h=>exact ⟨none,0,[],rfl,Nat.le_refl _,by simp [D.len],fun _=>rfl,(by simp),.inl ⟨_,_,h,rfl,by simp⟩,by simp⟩
 | nilR h=>exact ⟨none,0,[],rfl,Nat.le_refl _,by simp [D.len],fun _=>rfl,(by simp),.inr ⟨_,_,h,rfl,fun _ _=>undef,by simp,by simp,by simp⟩,by simp⟩
 | @ints _ k l ad cap h h1 h3 =>
  have hz : esz T t = 1:=by simp [esz,h,El.size]
  refine ⟨some ad,cap,l.map (.int k),rfl,h1,by simp [hz,D.len],by simp,?_,.inl ⟨k,l,h,rfl,fun i n hi=>by simp [hi]⟩,?_⟩
  ·intro a' ha j u hu
   obtain rfl:=Option.some.inj ha
   simp only [List.getElem?_map,Option.map_eq_some_iff] at hu
   obtain ⟨n,hn,rfl⟩:=hu
   exact (h3 j n hn).2.2
  intro u hu
  simp only [List.mem_map] at hu
  obtain ⟨n,_,rfl⟩:=hu
  rfl
 | @rows _ c l ad cap vs h h1 h3 h4 h5 =>
  have hz : esz T t = c.length:=by simp [esz,h,El.size]
  have get : ∀ {m : Nat} {u : Value},((List.range (l.length * c.length)).map fun m=>vs (m / c.length) (m % c.length))[m]? = some u → m < l.length * c.length ∧ u = vs (m / c.length) (m % c.length):=by
   intro m u hm
   simp only [List.getElem?_map,Option.map_eq_some_iff] at hm
   obtain ⟨m',hm',rfl⟩:=hm
   obtain ⟨h6,h7⟩:=List.getElem?_eq_some_iff.1 hm'
   simp at h6 h7
   subst h7
   exact ⟨h6,rfl⟩
  have parts : ∀ {m : Nat},m < l.length * c.length → ∃ (e : List D) (d : D) (ct : Ct),l[m / c.length]? = some e ∧ e[m % c.length]? = some d ∧ c[m % c.length]? = some ct ∧ m / c.length * c.length + m % c.length = m:=by
   intro m hm
   have hc : 0 < c.length:=by
    rcases Nat.eq_zero_or_pos c.length with e | e
    ·rw [e] at hm; omega
    exact e
   have hi : m / c.length < l.length:=by rw [Nat.div_lt_iff_lt_mul hc]; exact hm
   have hj : m % c.length < c.length:=Nat.mod_lt _ hc
   have hle:=h3 _ _ (List.getElem?_eq_getElem hi)
   exact ⟨_,_,_,List.getElem?_eq_getElem hi,List.getElem?_eq_getElem (by omega),List.getElem?_eq_getElem hj,by rw [Nat.mul_comm]; exact Nat.div_add_mod m c.length⟩
  refine ⟨some ad,cap,(List.range (l.length * c.length)).map fun m=>vs (m / c.length) (m % c.length),rfl,h1,by simp [hz,D.len],by simp,?_,.inr ⟨c,l,h,rfl,vs,h3,?_,h5⟩,?_⟩
  ·intro a' ha j u hu
   obtain rfl:=Option.some.inj ha
   obtain ⟨hlt,rfl⟩:=get hu
   obtain ⟨e,d,ct,p1,p2,p3,p4⟩:=parts hlt
   have:=(h4 _ _ _ _ p1 p2).2.2
   rwa [p4] at this
  ·intro i e j d hi hj
   have h6:=(List.getElem?_eq_some_iff.1 hi).1
   have h7:=(List.getElem?_eq_some_iff.1 hj).1
   rw [h3 i e hi] at h7
   have hlt:=mul_add_lt h6 h7
   have e1 : (i * c.length + j) / c.length = i:=by
    rw [Nat.mul_comm,Nat.mul_add_div (by omega),Nat.div_eq_of_lt h7,Nat.add_zero]
   have e2 : (i * c.length + j) % c.length = j:=by
    rw [Nat.mul_comm,Nat.mul_add_mod,Nat.mod_eq_of_lt h7]
   simp [hlt,e1,e2]
  intro u hu
  obtain ⟨m,hm⟩:=List.mem_iff_getElem?.1 hu
  obtain ⟨hlt,rfl⟩:=get hm
  obtain ⟨e,d,ct,p1,p2,p3,p4⟩:=parts hlt
  exact (h5 _ _ _ _ _ p1 p3 p2).oneV
theorem slice_data (ho : OwnOk T E.G w β E.X own) (hs : ∀ n B,snap n = some B → own n = some B) {c : C} {v : Value} {t : TypeId} {x : D} (hc : DenC T w β (Av E.X β own) own c v) (hx : dataOf T snap t c = some x) :
  ∃ ad cap news,v = .slice ad x.len cap ∧ x.len ≤ cap ∧ List.length news = x.len * esz T t ∧ (ad = none → x.len = 0) ∧ (∀ a,ad = some a → ∀ (j : Nat) u,news[j]? = some u → w.cell? (a.add j) = some u) ∧
   RowRd T w (Av E.X β own) t x news.toArray ∧ ∀ u ∈ news,oneV u = true:=by
 have nil : ∀ (ad : Option Addr) (x : D),(match T t with | some (.ints _)=>some (D.ints []) | some (.rows _)=>some (D.rows []) | none=>none) = some x →
   ∃ ad' cap news,Value.slice ad 0 0 = .slice ad' x.len cap ∧ x.len ≤ cap ∧ List.length news = x.len * esz T t ∧ (ad' = none → x.len = 0) ∧ (∀ a,ad' = some a → ∀ (j : Nat) u,news[j]? = some u → w.cell? (a.add j) = some u) ∧
   RowRd T w (Av E.X β own) t x news.toArray ∧ ∀ u ∈ news,oneV u = true:=by
  intro ad x hx
  split at hx
  ·rename_i k h
   obtain rfl:=Option.some.inj hx
   exact ⟨ad,0,[],rfl,Nat.le_refl _,by simp [D.len],fun _=>rfl,by simp,.inl ⟨_,_,h,rfl,by simp⟩,by simp⟩
  ·rename_i k h
   obtain rfl:=Option.some.inj hx
   exact ⟨ad,0,[],rfl,Nat.le_refl _,by simp [D.len],fun _=>rfl,by simp,.inr ⟨_,_,h,rfl,fun _ _=>undef,by simp,by simp,by simp⟩,by simp⟩
  cases hx
 unfold dataOf at hx
 split at hx
 ·rename_i u y
  cases hb : t.beq u with
  | false=>simp [hb] at hx
  | true =>
   simp only [hb,cond_true,Option.some.injEq] at hx
   subst hx
   obtain rfl:=Nat.eq_of_beq_eq_true hb
   exact Rd.row hc
 ·rename_i n u
  split at hx
  ·rename_i u' y hn
   cases hb : (t.beq u && t.beq u') with
   | false=>simp [hb] at hx
   | true =>
    simp only [hb,cond_true,Option.some.injEq] at hx
    subst hx
    simp only [Bool.and_eq_true] at hb
    obtain rfl:=Nat.eq_of_beq_eq_true hb.1
    obtain rfl:=Nat.eq_of_beq_eq_true hb.2
    obtain ⟨y',b1,b2⟩:=hc
    have e:=(hs _ _ hn).symm.trans b1
    simp only [Option.some.injEq,Blk.row.injEq,true_and] at e
    subst e
    obtain ⟨cs,r1,r2⟩:=ho.blk n _ b1
    cases hβ : β n with
    | none =>
     rw [hβ] at b2 r2
     obtain ⟨b3,ad,rfl⟩:=b2
     have hcut:=RowRd.cut r1 (by rw [b3]; omega)
     rw [b3] at hcut
     refine ⟨ad,0,[],by rw [b3],by omega,by simp [b3],fun _=>b3,by simp,?_,by simp⟩
     simpa using hcut.1
    | some b =>
     rw [hβ] at b2 r2
     obtain ⟨cap,cs',te',rfl,c1,c2,c3⟩:=b2
     obtain ⟨te,cap',d1,d2,d3⟩:=r2
     have hle : y.len * esz T t ≤ cs.size:=by rw [d2]; exact Nat.mul_le_mul_right _ d3
     obtain ⟨h1,h2⟩:=RowRd.cut r1 hle
     refine ⟨_,cap,cs.toList.take (y.len * esz T t),rfl,c3,by simp; omega,by simp,?_,h1,h2⟩
     intro a' ha j u hu
     obtain rfl:=Option.some.inj ha
     rw [add_lit,cell_of_block d1]
     rw [List.getElem?_take] at hu
     split at hu
     ·simpa using hu
     cases hu
  cases hx
 ·obtain ⟨ad,rfl⟩:=hc
  exact nil ad x hx
 ·obtain ⟨rfl,_⟩:=hc
  exact nil none x hx
 cases hx
theorem RowRd.app {t : TypeId} {x y r : D} {olds news rest : List Value} (hx : RowRd T w A t x olds.toArray) (hy : RowRd T w A t y news.toArray) (h1 : olds.length = x.len * esz T t) (h2 : news.length = y.len * esz T t)
  (hr : dapp T t x y = some r) : RowRd T w A t r (olds ++ news ++ rest).toArray ∧ r.len = x.len + y.len:=by
 rcases hx with ⟨k,l,a1,rfl,a2⟩ | ⟨c,l,a1,rfl,vs,a2,a3,a4⟩
 ·rcases hy with ⟨k',l',b1,rfl,b2⟩ | ⟨c',l',b1,_⟩
  ·have hz : esz T t = 1:=by simp [esz,a1,El.size]
   obtain rfl : k = k':=by rw [a1] at b1; simpa using b1
   simp only [dapp,a1,D.toInts,Option.some.injEq] at hr
   subst hr
   simp only [D.len,hz,Nat.mul_one] at h1 h2 ⊢
   refine ⟨.inl ⟨k,_,a1,rfl,fun i n hi=>?_⟩,by simp⟩
   by_cases hlt : i < l.length
   ·rw [List.getElem?_append_left hlt] at hi
    have:=a2 i n hi
    simp only [List.getElem?_toArray] at this ⊢
    rw [List.append_assoc,List.getElem?_append_left (by omega)]
    exact this
   rw [List.getElem?_append_right (by omega)] at hi
   have:=b2 _ n hi
   have hl2:=(List.getElem?_eq_some_iff.1 hi).1
   simp only [List.getElem?_toArray] at this ⊢
   rw [List.getElem?_append_left (by simp; omega),List.getElem?_append_right (by omega),h1]
   exact this
  rw [a1] at b1; cases b1
 rcases hy with ⟨k',l',b1,_⟩ | ⟨c',l',b1,rfl,vs',b2,b3,b4⟩
 ·rw [a1] at b1; cases b1
 have hz : esz T t = c.length:=by simp [esz,a1,El.size]
 obtain rfl : c = c':=by rw [a1] at b1; simpa using b1
 simp only [dapp,a1,D.toRows,Option.some.injEq] at hr
 subst hr
 simp only [D.len,hz] at h1 h2 ⊢
 refine ⟨.inr ⟨c,_,a1,rfl,fun i j=>if i < l.length then vs i j else vs' (i - l.length) j,?_,?_,?_⟩,by simp⟩
 ·intro i e hi
  by_cases hlt : i < l.length
  ·rw [List.getElem?_append_left hlt] at hi; exact a2 i e hi
  rw [List.getElem?_append_right (by omega)] at hi; exact b2 _ e hi
 ·intro i e j d hi hj
  by_cases hlt : i < l.length
  ·rw [List.getElem?_append_left hlt] at hi
   have h5:=a3 i e j d hi hj
   have h6:=(List.getElem?_eq_some_iff.1 hj).1
   rw [a2 i e hi] at h6
   have:=mul_add_lt hlt h6
   simp only [List.getElem?_toArray,if_pos hlt] at h5 ⊢
   rw [List.append_assoc,List.getElem?_append_left (by omega)]
   exact h5
  rw [List.getElem?_append_right (by omega)] at hi
  have h5:=b3 _ e j d hi hj
  have h6:=(List.getElem?_eq_some_iff.1 hj).1
  rw [b2 _ e hi] at h6
  have h7:=(List.getElem?_eq_some_iff.1 hi).1
  have:=mul_add_lt h7 h6
  have e1 : i * c.length + j = l.length * c.length + ((i - l.length) * c.length + j):=by
   have : i = l.length + (i - l.length):=by omega
   rw [this,Nat.add_mul]
   have : l.length + (i - l.length) - l.length = i - l.length:=by omega
   rw [this]; omega
  simp only [List.getElem?_toArray,if_neg hlt] at h5 ⊢
  rw [e1,List.getElem?_append_left (by simp; omega),List.getElem?_append_right (by omega),h1,Nat.add_sub_cancel_left]
  exact h5
 intro i e j ct d hi hj hd
 by_cases hlt : i < l.length
 ·rw [List.getElem?_append_left hlt] at hi
  simp only [if_pos hlt]
  exact a4 i e j ct d hi hj hd
 rw [List.getElem?_append_right (by omega)] at hi
 simp only [if_neg hlt]
 exact b4 _ e j ct d hi hj hd
end
end Sx
namespace Sx
open Go
section
variable {S : Pr} {E : Ctx} {β : Nat → Option Nat} {env : Env} {own snap : Own} {a : Act} {w : World}
theorem fr_drew (w : World) (L : Nat → Prop) : Fr w w.drew L:=⟨rfl,rfl,rfl,Nat.le_refl _,fun _ _ _=>rfl⟩
theorem fr_setRow (w : World) (g : Nat) (cs : Array Value) : Fr w (w.setRow g cs) fun x=>x = g:=⟨rfl,rfl,rfl,by simp,fun k _ hk=>setRow_other w g k cs hk⟩
theorem append_run {P : Program} {t e : TypeId} {i : TypeInfo} {z : Value} {ty : TypeId} (ht : P.underlying t = some (.slice e)) (hi : P.info? e = some i) (hz : i.zero = some z) (hzs : z.cells.size = i.size)
  {ad ad2 : Option Addr} {n cap m cap2 : Nat} {olds news : List Value} (h1 : olds.length = n * i.size) (h2 : news.length = m * i.size)
  (c1 : ∀ a,ad = some a → ∀ (j : Nat) u,olds[j]? = some u → w.cell? (a.add j) = some u) (c2 : ∀ a,ad2 = some a → ∀ (j : Nat) u,news[j]? = some u → w.cell? (a.add j) = some u)
  (n1 : ad = none → n = 0 ∧ cap = 0) (n2 : ad2 = none → m = 0) (hn : n ≤ cap) (o2 : ∀ u ∈ news,oneV u = true) (hb : (n + m) * i.bytes ≤ 140737488355328) (h63 : n + m ≤ 9223372036854775807)
  (hin : n + m ≤ cap → m = 0 ∨ ∃ b cs te,ad = some ⟨b,0,none⟩ ∧ w.heap[b]? = some (.cells cs te (0,0)) ∧ cs.size = cap * i.size) :
  (n + m ≤ cap ∧ m = 0 ∧ (Builtin.append_ #[t,t] ty #[.slice ad n cap,.slice ad2 m cap2]).run P w = .ok (.slice ad n cap) w) ∨
  (n + m ≤ cap ∧ 0 < m ∧ ∃ b cs te,ad = some ⟨b,0,none⟩ ∧ w.heap[b]? = some (.cells cs te (0,0)) ∧ cs.size = cap * i.size ∧
   (Builtin.append_ #[t,t] ty #[.slice ad n cap,.slice ad2 m cap2]).run P w = .ok (.slice ad (n + m) cap) (w.setRow b (cs.toList.take (n * i.size) ++ news ++ cs.toList.drop (n * i.size + news.length)).toArray)) ∨
  (cap < n + m ∧ ∃ cap' rest,n + m ≤ cap' ∧ List.length rest = (cap' - (n + m)) * i.size ∧
   (Builtin.append_ #[t,t] ty #[.slice ad n cap,.slice ad2 m cap2]).run P w = .ok (.slice (some ⟨w.heap.size,0,none⟩) (n + m) cap') (w.drew.alloc (.cells (olds ++ news ++ rest).toArray e))):=by
 by_cases hroom : n + m ≤ cap
 ·rcases Nat.eq_zero_or_pos m with rfl | hm
  ·left
   refine ⟨hroom,rfl,?_⟩
   have hnews : news = []:=List.length_eq_zero_iff.1 (by simpa using h2)
   subst hnews
   cases ad with
   | none =>
    obtain ⟨rfl,rfl⟩:=n1 rfl
    cases ad2 <;> simp [Builtin.append_,run_underlying ht,Go.sizeOf,typeInfo,hi,Builtin.lenOf,Builtin.firstCells,loadCells,loadCellsFrom]
   | some a =>
    have hroom' : n ≤ cap:=hn
    cases ad2 <;> simp [Builtin.append_,run_underlying ht,Go.sizeOf,typeInfo,hi,Builtin.lenOf,Builtin.firstCells,loadCells,loadCellsFrom,hroom',storeCells]
  right; left
  refine ⟨hroom,hm,?_⟩
  rcases hin hroom with h0 | ⟨b,cs,te,rfl,d1,d2⟩
  ·omega
  refine ⟨b,cs,te,rfl,d1,d2,?_⟩
  cases ad2 with
  | none=>have:=n2 rfl; omega
  | some a2 =>
   have hfit : n * i.size + 0 + news.length ≤ cs.size:=by rw [h2,d2,Nat.add_zero,← Nat.add_mul]; exact Nat.mul_le_mul_right _ hroom
   have hf:=run_firstCells_some (P:=P) w i.size m a2 m cap2 news h2 (c2 a2 rfl)
   have hst:=run_storeCells_at P b (n * i.size) te news 0 cs w d1 hfit (fun v hv=>oneCell_of (o2 v hv))
   simp only [Nat.add_zero] at hst
   simp [Builtin.append_,run_underlying ht,Go.sizeOf,typeInfo,hi,Builtin.lenOf,hroom,hf,Addr.add_lit,hst]
 right; right
 refine ⟨by omega,grownCap w (n + m) cap e,(Builtin.zeroCells z.cells (grownCap w (n + m) cap e - (n + m))).toList,?_,?_,?_⟩
 ·unfold grownCap
  simp only [Question.cut]
  omega
 ·rw [Array.length_toList,size_zeroCells,hzs]
 have hfit:=growslice_fits (need:=n + m) (old:=cap) (bytes:=i.bytes) (by omega) hb
 cases ad2 with
 | none=>have:=n2 rfl; omega
 | some a2 =>
  cases ad with
  | none =>
   obtain ⟨rfl,rfl⟩:=n1 rfl
   have holds : olds = []:=List.length_eq_zero_iff.1 (by simpa using h1)
   subst holds
   have hr:=run_append_nil (P:=P) w t ty e i z ht hi hz a2 m cap2 news h2 (c2 a2 rfl) (by omega) (by omega) (by simp only [Nat.zero_add] at hb; omega)
   simp only [Nat.zero_add,List.nil_append]
   rw [hr]
   congr 3
   apply Array.ext'
   simp
  | some a1 =>
   have hr:=run_append_grow (P:=P) w t ty e i z ht hi hz a1 n cap olds h1 (c1 a1 rfl) a2 m cap2 news h2 (c2 a2 rfl) (by omega) (by omega) hfit
   rw [hr]
   congr 3
   apply Array.ext'
   simp [List.append_assoc]
variable (hT : TOk S.P S.tt) (h : Rel E β env own a w) (hs : ∀ n B,snap n = some B → own n = some B) (hET : E.T = S.T)
theorem bytes_info (hT : TOk S.P S.tt) {t : TypeId} {by_ : Nat} (hb : bytesT S t = some by_) {el : El} (hel : S.T t = some el) :
  ∃ e i z,S.P.underlying t = some (.slice e) ∧ S.P.info? e = some i ∧ i.zero = some z ∧ z.cells.size = i.size ∧ i.bytes = by_ ∧ i.size = esz S.T t:=by
 unfold bytesT at hb
 split at hb
 ·rename_i e c z b h0
  split at hb
  ·rename_i ie hie
   obtain rfl:=Option.some.inj hb
   obtain ⟨d,inf,zv,_,_,hi,hsz,hz,hzc,hzl,_,hby,_⟩:=(hT.get hie).ok
   obtain ⟨ie',h1,h2,_⟩:=el_size hT h0 hel
   rw [hie] at h1
   obtain rfl:=Option.some.inj h1
   refine ⟨e,inf,zv,(hT.get h0).slice rfl,hi,hz,?_,hby,?_⟩
   ·rw [← Array.length_toList,hzc,hzl,hsz]
   rw [hsz,h2]; simp [esz,hel]
  cases hb
 cases hb
def nilD : El → D | .ints _=>.ints [] | .rows _=>.rows []
theorem nil_val {T : Tab} {A : Nat → Prop} {c : C} {v : Value} (hc : DenC T w β A own c v) (hn : isNilS c = true) : ∃ ad,v = .slice ad 0 0:=by
 unfold isNilS at hn
 split at hn
 ·exact hc
 ·exact ⟨none,hc.1⟩
 cases hn
theorem Rel.newNil (h : Rel E β env own a w) {d : Nat} (hd : own d = none) (hd0 : E.own0 d = none) {t : TypeId} {x : D} (hx : RowRd E.T w (Av E.X β own) t x #[]) (hl : x.len = 0) :
  ∃ β',(∀ m,m ≠ d → β' m = β m) ∧ β' d = none ∧ Rel E β' env (fset own d (.row t x)) a w:=by
 let β' : Nat → Option Nat:=fun m=>if m = d then none else β m
 have e1 : ∀ m,m ≠ d → β' m = β m:=fun m hm=>by simp [β',hm]
 have e2 : β' d = none:=by simp [β']
 have hA : ∀ b,b < w.heap.size → ¬ Av E.X β own b → ¬ Av E.X β' (fset own d (.row t x)) b:=by
  rintro b _ hna (hx | ⟨m,h1,h2⟩)
  ·exact hna (.inl hx)
  by_cases hm : m = d
  ·subst hm; rw [e2] at h2; cases h2
  rw [fset_ne _ _ hm] at h1; rw [e1 m hm] at h2; exact hna (.inr ⟨m,h1,h2⟩)
 have old : ∀ m,own m ≠ none → m ≠ d:=fun m hm e=>hm (e ▸ hd)
 have k : Keep own w β (fset own d (.row t x)) w β':=by
  intro m B hm
  have hmd:=old m (by simp [hm])
  refine ⟨e1 m hmd,?_⟩
  rw [fset_ne _ _ hmd]
  cases B with
  | cells t l=>exact ⟨_,_,hm⟩
  | row t x=>exact ⟨_,hm,rfl,fun b cs te _ hb=>⟨_,hb,rfl⟩⟩
  | map t l=>exact ⟨_,hm⟩
 have s : Stay w (Av E.X β own) w (Av E.X β' (fset own d (.row t x))):=⟨Nat.le_refl _,fun b hb hn=>⟨rfl,hA b hb hn⟩⟩
 refine ⟨β',e1,e2,h.step (Fr.refl _ _) hA k ⟨?_,?_,?_⟩ ?_ (fun m h1 h2=>by
  by_cases hm : m = d
  ·rw [hm]; exact hd0
  rw [fset_ne _ _ hm] at h2; exact absurd h1 h2)⟩
 ·intro m B hm
  by_cases hmd : m = d
  ·subst hmd; rw [fset_same] at hm; obtain rfl:=Option.some.inj hm
   exact ⟨#[],hx.stay s,by rw [e2]; exact hl⟩
  rw [fset_ne _ _ hmd] at hm
  exact (h.blks.blk m B hm).keep s k hm fun _ _=>rfl
 ·intro m m' b h1 h2 h3 h4
  by_cases hm : m = d
  ·subst hm; rw [e2] at h3; cases h3
  by_cases hm' : m' = d
  ·subst hm'; rw [e2] at h4; cases h4
  rw [fset_ne _ _ hm] at h1; rw [fset_ne _ _ hm'] at h2; rw [e1 m hm] at h3; rw [e1 m' hm'] at h4
  exact h.blks.inj m m' b h1 h2 h3 h4
 ·intro m b h1 h2
  by_cases hm : m = d
  ·subst hm; rw [e2] at h2; cases h2
  rw [fset_ne _ _ hm] at h1; rw [e1 m hm] at h2; exact h.blks.loc m b h1 h2
 intro m b h1 h2
 by_cases hm : m = d
 ·subst hm; rw [e2] at h2; cases h2
 rw [fset_ne _ _ hm] at h1; rw [e1 m hm] at h2; exact h.mine m b h1 h2
include hT h hs hET in
theorem n_append {o : Oper} {d : Nat} {args : Array Operand} {ts : Array TypeId} {K : C × Blk → Prop} (hd : own d = none) (hd0 : E.own0 d = none) (ho : o.op = .call ⟨.builtin .append,args,ts⟩) (hk : (opN S snap env d o).wp K) : NOk S E env own a w o d K:=by
 simp only [opN,ho] at hk
 split at hk
 ·rename_i x y t t' hx ht
  obtain rfl:=arr2 hx
  obtain rfl:=arr2 ht
  split at hk
  ·rename_i cx cy by_ h0 h1 h2
   obtain ⟨hb,hk1⟩:=wp_cond_fail hk
   clear hk
   simp only [Bool.and_eq_true] at hb
   obtain ⟨⟨hb1,hb2⟩,hb3⟩:=hb
   obtain rfl:=Nat.eq_of_beq_eq_true hb1
   have hb3:=Nat.le_of_ble_eq_true hb3
   split at hk1
   ·rename_i yd h3
    split at hk1
    ·rename_i r h4
     obtain ⟨hn,hk2⟩:=need_of hk1
     clear hk1
     obtain ⟨ad,hvx⟩:=nil_val (evC_den h h0) hb2
     obtain ⟨ad2,cap2,news,hvy,p1,p2,p3,p4,p5,p6⟩:=slice_data h.blks hs (evC_den h h1) (by rw [hET]; exact h3)
     obtain ⟨el,hel⟩ : ∃ el,S.T t = some el:=by
      cases hq : S.T t with
      | none=>simp [dapp,hq] at h4
      | some el=>exact ⟨el,rfl⟩
     obtain ⟨e,i,z,q1,q2,q3,q4,q5,q6⟩:=bytes_info hT h2 hel
     rw [hET,← q6] at p2
     have hz : RowRd E.T w (Av E.X β own) t (nilD el) (([] : List Value)).toArray:=by
      cases el with
      | ints k=>exact .inl ⟨k,[],by rw [hET]; exact hel,rfl,by simp⟩
      | rows c=>exact .inr ⟨c,[],by rw [hET]; exact hel,rfl,fun _ _=>undef,by simp,by simp,by simp⟩
     have hr : dapp E.T t (nilD el) yd = some r:=by
      rw [hET]
      cases el with
      | ints k=>exact h4
      | rows c=>simpa [dapp,hel,D.toRows,nilD] using h4
     have happ:=fun rest=>RowRd.app (rest:=rest) hz p5 (by cases el <;> simp [D.len,nilD]) (by rw [hET,← q6]; exact p2) hr
     have hlen : r.len = yd.len:=by
      have:=(happ []).2
      cases el <;> simpa [D.len,nilD] using this
     have hmul : yd.len * i.bytes ≤ 137438953472 * 1024:=Nat.mul_le_mul hn (by omega)
     have hrun:=append_run (P:=S.P) (w:=w) (ty:=o.type) q1 q2 q3 q4 (ad:=ad) (n:=0) (cap:=0) (olds:=[]) (ad2:=ad2) (m:=yd.len) (cap2:=cap2) (by simp) p2 (by simp) p4 (fun _=>⟨rfl,rfl⟩) p3 (Nat.le_refl _) p6 (by rw [Nat.zero_add]; omega) (by omega) (fun hh=>.inl (by omega))
     have hexec : (execOp a.eval o).run S.P w = ((Builtin.append_ #[t,t] o.type #[.slice ad 0 0,.slice ad2 yd.len cap2]).run S.P w).andThen fun v w=>.ok (.value v) w:=by
      rw [call_builtin ho]
      simp [builtin,hvx,hvy]
     rcases hrun with ⟨e1,e2,e3⟩ | ⟨e1,e0,_⟩ | ⟨e1,cap',rest,e2,e3,e4⟩
     ·obtain ⟨β',f1,f2,hR⟩:=h.newNil (d:=d) hd hd0 (t:=t) (x:=r) (by
       have hnews : news = []:=List.length_eq_zero_iff.1 (by rw [p2,e2,Nat.zero_mul])
       have:=(happ []).1
       rw [hnews] at this
       simpa using this) (by omega)
      refine ⟨_,_,.slice ad 0 0,w,β',hk2,by rw [hexec,e3]; rfl,hR,r,fset_same _ _ _,?_⟩
      rw [f2]
      exact ⟨by omega,ad,rfl⟩
     ·omega
     have h':=h.idle (fr_drew w fun _=>False)
     obtain ⟨β',f1,f2,hR,s,k⟩:=h'.new (n:=d) hd hd0 (o:=.cells (([] : List Value) ++ news ++ rest).toArray e) (B:=.row t r) (fun β' f1 f2 s k=>by
      refine ⟨_,(RowRd.stay (w:=w) (w':=w.drew) (A:=Av E.X β own) (A':=Av E.X β own) ⟨Nat.le_refl _,fun b hb hn=>⟨rfl,hn⟩⟩ (happ rest).1).stay s,?_⟩
      rw [f2]
      refine ⟨e,cap',heap_new _ _,?_,by omega⟩
      rw [hET,← q6]
      simp only [List.size_toArray,List.length_append,List.length_nil,Nat.zero_add] at e3 ⊢
      rw [p2,e3,← Nat.add_mul]
      congr 1
      omega)
     refine ⟨_,_,.slice (some ⟨w.heap.size,0,none⟩) yd.len cap',_,β',hk2,by rw [hexec,e4]; simp,hR,r,fset_same _ _ _,?_⟩
     rw [f2]
     refine ⟨cap',_,e,by rw [hlen]; rfl,heap_new _ _,?_,by omega⟩
     rw [hET,← q6]
     simp only [List.size_toArray,List.length_append,List.length_nil,Nat.zero_add] at e3 ⊢
     rw [p2,e3,← Nat.add_mul]
     congr 1
     omega
    exact hk1.elim
   exact hk1.elim
  exact hk.elim
 exact hk.elim
end
end Sx
namespace Sx
open Go
def opS (S : Pr) (env : Env) (own : Own) (o : Oper) : Out Own :=
 match o.op with
 | .store t x y=>match evC env x,evU env y,sizeT S t with
  | some (.p n off),some u,some sz=>match own n with
   | some (.cells tt l)=>bif u.cells.length.beq sz && (off + sz).ble l.length then (seeL (l.take off ++ u.cells ++ l.drop (off + sz)) fun r=>.ret (fset own n (.cells tt r))) else .fail
   | _=>.fail
  | some (.q n i off),some u,some sz=>match own n with
   | some (.row tt x)=>match S.T tt,x,u.cells with
    | some (.ints k),.ints l,[c]=>match dOf S.T (.int k) c with
     | some d=>bif off.beq 0 && sz.beq 1 then .ret (fset own n (.row tt (.ints (l.set i.toNat d.toInt)))) else .fail
     | none=>.fail
    | some (.rows cts),.rows l,cs=>match elemsD S.T ((cts.drop off).take sz) cs with
     | some ds=>bif cs.length.beq sz && (off + sz).ble cts.length then .ret (fset own n (.row tt (.rows (l.set i.toNat ((l.getD i.toNat []).take off ++ ds ++ (l.getD i.toNat []).drop (off + sz)))))) else .fail
     | none=>.fail
    | _,_,_=>.fail
   | _=>.fail
  | _,_,_=>.fail
 | _=>.fail
section
variable {S : Pr} {E : Ctx} {β : Nat → Option Nat} {env : Env} {own snap : Own} {a : Act} {w : World}
variable (hT : TOk S.P S.tt) (h : Rel E β env own a w) (hs : ∀ n B,snap n = some B → own n = some B) (hET : E.T = S.T)
include hT h hs hET in
theorem opN_sound {o : Oper} {d : Nat} {K : C × Blk → Prop} (hd : own d = none) (hd0 : E.own0 d = none) (hk : (opN S snap env d o).wp K) : NOk S E env own a w o d K:=by
 cases ho : o.op with
 | alloc e=>exact n_alloc hT h hd hd0 ho hk
 | box e x=>exact n_box h hd hd0 ho hk
 | makeSlice t x y=>exact n_makeSlice hT h hET hd hd0 ho hk
 | call c =>
  obtain ⟨callee,args,ts⟩:=c
  cases callee with
  | builtin b =>
   cases b with
   | append=>exact n_append hT h hs hET hd hd0 ho hk
   | _=>simp only [opN,ho] at hk; exact hk.elim
  | _=>simp only [opN,ho] at hk; exact hk.elim
 | _=>simp only [opN,ho] at hk; exact hk.elim
theorem splice_get {α : Type} (l v : List α) (p j : Nat) (hp : p + v.length ≤ l.length) : (l.take p ++ v ++ l.drop (p + v.length))[j]? = if j < p then l[j]? else if j < p + v.length then v[j - p]? else l[j]?:=by
 have e1 : (l.take p).length = p:=by simp; omega
 by_cases h1 : j < p
 ·rw [if_pos h1,List.append_assoc,List.getElem?_append_left (by omega),List.getElem?_take,if_pos h1]
 rw [if_neg h1]
 by_cases h2 : j < p + v.length
 ·rw [if_pos h2,List.getElem?_append_left (by simp; omega),List.getElem?_append_right (by omega),e1]
 rw [if_neg h2,List.getElem?_append_right (by simp; omega)]
 simp only [List.length_append,e1,List.getElem?_drop]
 congr 1
 omega
theorem store_run {P : Program} {t te : TypeId} {g off : Nat} {v : Value} {cs : Array Value} {inf : TypeInfo} (hi : P.info? t = some inf) (hv : v.cells.size = inf.size) (h1 : ∀ u ∈ v.cells.toList,oneV u = true)
  (hg : w.heap[g]? = some (.cells cs te (0,0))) (hj : off + v.cells.toList.length ≤ cs.size) :
  (storeVar t ⟨g,off,none⟩ v).run P w = .ok () (w.setRow g (cs.toList.take off ++ v.cells.toList ++ cs.toList.drop (off + v.cells.toList.length)).toArray):=by
 have hst:=run_storeCells_at P g off te v.cells.toList 0 cs w hg (by simpa using hj) (fun u hu=>oneCell_of (h1 u hu))
 simp only [Nat.add_zero] at hst
 simp [storeVar,Sem.run_bind,Go.sizeOf,typeInfo,hi,hv,hst]
def SOk (S : Pr) (E : Ctx) (β : Nat → Option Nat) (env : Env) (a : Act) (w : World) (o : Oper) (K : Own → Prop) : Prop :=
 ∃ own' w',K own' ∧ (execOp a.eval o).run S.P w = .ok .skip w' ∧ Rel E β env own' a w'
theorem All2.one {T : Tab} {A : Nat → Prop} : ∀ {l : List C} {m : List Value},All2 (DenC T w β A own) l m → ∀ u ∈ m,oneV u = true
 | [],[],_,u,hu=>by simp at hu
 | _ :: _,_ :: _,hh,u,hu=>by
  rcases List.mem_cons.1 hu with rfl | hu
  ·exact hh.1.oneV
  exact All2.one hh.2 u hu
 | [],_ :: _,hh,_,_=>hh.elim
 | _ :: _,[],hh,_,_=>hh.elim
include hT h hET in
theorem opS_sound {o : Oper} {K : Own → Prop} (hk : (opS S env own o).wp K) : SOk S E β env a w o K:=by
 unfold opS at hk
 split at hk
 ·rename_i t x y ho
  have exec : ∀ {ad : Addr} {v : Value} {w' : World},a.eval x = .pointer (some ad) → a.eval y = v → (storeVar t ad v).run S.P w = .ok () w' → (execOp a.eval o).run S.P w = .ok .skip w':=by
   intro ad v w' e1 e2 e3
   simp [execOp,ho,e1,e2,Instr.storeAt,Instr.sureAddr,Sem.run_bind,e3]
  split at hk
  ·rename_i n off u sz h0 h1 h2
   obtain ⟨inf,hinf,hsz⟩:=sizeT_info hT h2
   have hu:=cells_den (evU_den h h1)
   have hul:=hu.length
   obtain ⟨b,t',l',p1,p2,p3⟩:=evC_den h h0
   split at hk
   ·rename_i tt l hn
    obtain ⟨hb,hk1⟩:=wp_cond_fail hk
    rw [seeL_eq] at hk1
    simp only [Bool.and_eq_true] at hb
    have q1:=Nat.eq_of_beq_eq_true hb.1
    have q2:=Nat.le_of_ble_eq_true hb.2
    obtain ⟨b',cs,r1,r2,r3⟩:=h.blks.blk n _ hn
    have : b' = b:=by rw [p2] at r1; exact (Option.some.inj r1).symm
    subst this
    have hcl:=r3.length
    have hst:=store_run (P:=S.P) (t:=t) (off:=off) (v:=a.eval y) hinf (by rw [← Array.length_toList,← hul,q1,hsz]) (All2.one hu) r2 (by simp only [List.size_toArray]; omega)
    have hl2 : (a.eval y).cells.toList.length = sz:=by omega
    rw [hl2] at hst
    refine ⟨_,_,hk1,exec p3 rfl hst,?_⟩
    refine h.upd hn r1 (fr_setRow _ _ _) ⟨tt,_,rfl⟩ fun s k=>⟨b',_,r1,setRow_heap _ _ _ _ _ _ r2,?_⟩
    exact (((r3.take off).append hu).append (r3.drop _)).mono fun _ _=>DenC.keep s k
   exact hk.elim
  ·rename_i n i off u sz h0 h1 h2
   obtain ⟨inf,hinf,hsz⟩:=sizeT_info hT h2
   have hu:=cells_den (evU_den h h1)
   have hul:=hu.length
   obtain ⟨t',x',b,p1,p2,p3,p4,p5⟩:=evC_den h h0
   split at hk
   ·rename_i tt xd hn
    have e:=hn.symm.trans p1
    simp only [Option.some.injEq,Blk.row.injEq] at e
    obtain ⟨rfl,rfl⟩:=e
    obtain ⟨cs,r1,r2⟩:=h.blks.blk n _ hn
    rw [p2] at r2
    obtain ⟨te,cap,r3,r4,r5⟩:=r2
    split at hk
    ·rename_i k l c hT1 hu1
     split at hk
     ·rename_i d hd
      obtain ⟨hb,hk1⟩:=wp_cond_fail hk
      simp only [Bool.and_eq_true] at hb
      obtain rfl:=Nat.eq_of_beq_eq_true hb.1
      obtain rfl:=Nat.eq_of_beq_eq_true hb.2
      have hz : esz E.T tt = 1:=by rw [hET]; simp [esz,hT1,El.size]
      rw [hu1] at hu hul
      obtain ⟨v,hv,hdv⟩:=hu.get (i:=0) rfl
      rw [← hET] at hd
      have hrd:=dOf_rd hd hdv
      have hvl : (a.eval y).cells.toList = [v]:=by
       cases hp : (a.eval y).cells.toList with
       | nil=>rw [hp] at hv; simp at hv
       | cons v' r =>
        rw [hp] at hv hul
        have : r = []:=by simpa using hul
        subst this
        simp only [List.getElem?_cons_zero,Option.some.injEq] at hv
        rw [hv]
      have hlt : i.toNat < l.length:=by simp only [D.len] at p4; omega
      rw [hz] at p5 r4
      simp only [Nat.mul_one,Nat.add_zero] at p5 r4
      simp only [D.len] at r5
      have hst:=store_run (P:=S.P) (t:=t) (off:=i.toNat) (v:=a.eval y) hinf (by rw [← Array.length_toList,hvl,hsz]; rfl) (by rw [hvl]; simp [hrd.oneV]) r3 (by rw [hvl]; simp; omega)
      rw [hvl] at hst
      refine ⟨_,_,hk1,exec p5 rfl hst,?_⟩
      have hsz2 : (cs.toList.take i.toNat ++ [v] ++ cs.toList.drop (i.toNat + [v].length)).toArray.size = cs.size:=by simp; omega
      refine h.upd hn p2 (fr_setRow _ _ _) ⟨_,rfl,by simp [D.len],fun cs2 te2 hc2=>⟨_,setRow_heap _ _ _ _ _ _ hc2,by
       rw [r3] at hc2
       cases hc2
       exact hsz2⟩⟩ fun s kp=>⟨(cs.toList.take i.toNat ++ [v] ++ cs.toList.drop (i.toNat + [v].length)).toArray,.inl ⟨k,_,by rw [hET]; exact hT1,rfl,?_⟩,?_⟩
      ·intro j m hj
       simp only [List.getElem?_toArray]
       rw [splice_get _ _ _ _ (by simp; omega)]
       rcases r1 with ⟨k',l2,a1,a2,a3⟩ | ⟨c',l2,a1,a2,_⟩
       ·rw [hET,hT1] at a1
        simp only [Option.some.injEq,El.ints.injEq] at a1
        simp only [D.ints.injEq] at a2
        subst a1 a2
        by_cases hij : j = i.toNat
        ·subst hij
         rw [List.getElem?_set_self hlt] at hj
         obtain rfl:=Option.some.inj hj
         cases hrd
         simp [D.toInt]
        rw [List.getElem?_set_ne (Ne.symm hij)] at hj
        have:=a3 j m hj
        rw [← Array.getElem?_toList] at this
        by_cases h3 : j < i.toNat
        ·rw [if_pos h3]; exact this
        rw [if_neg h3,if_neg (by simp; omega)]; exact this
       cases a2
      rw [p2]
      exact ⟨te,cap,setRow_heap _ _ _ _ _ _ r3,by rw [hsz2,hz]; omega,by simpa [D.len] using r5⟩
     exact hk.elim
    ·rename_i cs2 cts l hT1
     split at hk
     ·rename_i ds hd
      obtain ⟨hb,hk1⟩:=wp_cond_fail hk
      simp only [Bool.and_eq_true] at hb
      have q1:=Nat.eq_of_beq_eq_true hb.1
      have q2:=Nat.le_of_ble_eq_true hb.2
      have hz : esz E.T tt = cts.length:=by rw [hET]; simp [esz,hT1,El.size]
      rw [← hET] at hd
      obtain ⟨m1,m2,m3⟩:=elemsD_rd hd hu
      have hlt : i.toNat < l.length:=by simp only [D.len] at p4; omega
      rw [hz] at p5 r4
      simp only [D.len] at r5
      have hvl : (a.eval y).cells.toList.length = sz:=by omega
      have hbase : i.toNat * cts.length + cts.length ≤ l.length * cts.length:=by rw [← Nat.succ_mul]; exact Nat.mul_le_mul_right _ hlt
      have hcs : l.length * cts.length ≤ cs.size:=by rw [r4]; exact Nat.mul_le_mul_right _ r5
      have hst:=store_run (P:=S.P) (t:=t) (off:=i.toNat * cts.length + off) (v:=a.eval y) hinf (by rw [← Array.length_toList,hvl,hsz]) (All2.one hu) r3 (by omega)
      refine ⟨_,_,hk1,exec p5 rfl hst,?_⟩
      have hsz2 : (cs.toList.take (i.toNat * cts.length + off) ++ (a.eval y).cells.toList ++ cs.toList.drop (i.toNat * cts.length + off + (a.eval y).cells.toList.length)).toArray.size = cs.size:=by
       simp only [List.size_toArray,List.length_append,List.length_take,List.length_drop,Array.length_toList] at hvl ⊢
       omega
      rcases r1 with ⟨k',l2,a1,a2,_⟩ | ⟨c',l2,a1,a2,vs,a3,a4,a5⟩
      ·cases a2
      rw [hET,hT1] at a1
      simp only [Option.some.injEq,El.rows.injEq] at a1
      simp only [D.rows.injEq] at a2
      subst a1 a2
      have hrow:=List.getElem?_eq_getElem hlt
      have erow : l.getD i.toNat [] = l[i.toNat]:=by simp [List.getD,hrow]
      have hrl:=a3 _ _ hrow
      have hdl : ds.length = sz:=by rw [m1]; simp; omega
      refine h.upd hn p2 (fr_setRow _ _ _) ⟨_,rfl,by simp [D.len],fun cs2 te2 hc2=>⟨_,setRow_heap _ _ _ _ _ _ hc2,by
       rw [r3] at hc2
       cases hc2
       exact hsz2⟩⟩ fun s kp=>⟨(cs.toList.take (i.toNat * cts.length + off) ++ (a.eval y).cells.toList ++ cs.toList.drop (i.toNat * cts.length + off + (a.eval y).cells.toList.length)).toArray,.inr ⟨cts,_,by rw [hET]; exact hT1,rfl,(fun i' j=>if i' = i.toNat ∧ off ≤ j ∧ j < off + sz then ((a.eval y).cells.toList[j - off]?).getD undef else vs i' j),?_,?_,?_⟩,?_⟩
      ·intro i' e hi'
       by_cases hij : i' = i.toNat
       ·subst hij
        rw [List.getElem?_set_self hlt] at hi'
        obtain rfl:=Option.some.inj hi'
        rw [erow]
        simp
        omega
       rw [List.getElem?_set_ne (Ne.symm hij)] at hi'
       exact a3 i' e hi'
      ·intro i' e j d hi' hj
       simp only [List.getElem?_toArray]
       rw [splice_get _ _ _ _ (by rw [hvl]; simp; omega),hvl]
       by_cases hij : i' = i.toNat
       ·subst hij
        rw [List.getElem?_set_self hlt] at hi'
        obtain rfl:=Option.some.inj hi'
        rw [erow] at hj
        have hs:=splice_get l[i.toNat] ds off j (by omega)
        rw [hdl] at hs
        rw [hs] at hj
        by_cases c1 : j < off
        ·rw [if_pos c1] at hj
         rw [if_pos (by omega),if_neg (by omega),Array.getElem?_toList]
         exact a4 _ _ _ _ hrow hj
        rw [if_neg c1] at hj
        by_cases c2 : j < off + sz
        ·rw [if_pos c2] at hj
         rw [if_neg (by omega),if_pos (by omega),if_pos ⟨rfl,by omega,c2⟩,show i.toNat * cts.length + j - (i.toNat * cts.length + off) = j - off from by omega]
         have hct : (((cts.drop off).take sz))[j - off]? = cts[j]?:=by
          rw [List.getElem?_take,if_pos (by omega),List.getElem?_drop]
          congr 1; omega
         obtain ⟨v,hv,_⟩:=m3 (j - off) cts[j] d (by rw [hct]; exact List.getElem?_eq_getElem (by omega)) hj
         rw [hv]; rfl
        rw [if_neg c2] at hj
        rw [if_neg (by omega),if_neg (by omega),if_neg (by omega),Array.getElem?_toList]
        exact a4 _ _ _ _ hrow hj
       rw [List.getElem?_set_ne (Ne.symm hij)] at hi'
       have h5:=a4 i' e j d hi' hj
       have h6:=(List.getElem?_eq_some_iff.1 hj).1
       rw [a3 i' e hi'] at h6
       have n1 : i' * cts.length + j < i.toNat * cts.length + off ∨ i.toNat * cts.length + off + sz ≤ i' * cts.length + j:=by
        rcases Nat.lt_or_gt_of_ne hij with c | c
        ·left
         have : i' * cts.length + cts.length ≤ i.toNat * cts.length:=by rw [← Nat.succ_mul]; exact Nat.mul_le_mul_right _ c
         omega
        right
        have : i.toNat * cts.length + cts.length ≤ i' * cts.length:=by rw [← Nat.succ_mul]; exact Nat.mul_le_mul_right _ c
        omega
       simp only [if_neg (show ¬ (i' = i.toNat ∧ off ≤ j ∧ j < off + sz) from fun hh=>hij hh.1)]
       rcases n1 with c | c
       ·rw [if_pos c,Array.getElem?_toList]; exact h5
       rw [if_neg (by omega),if_neg (by omega),Array.getElem?_toList]; exact h5
      ·intro i' e j ct d hi' hct hj
       dsimp only
       by_cases hij : i' = i.toNat
       ·subst hij
        rw [List.getElem?_set_self hlt] at hi'
        obtain rfl:=Option.some.inj hi'
        rw [erow] at hj
        have hs:=splice_get l[i.toNat] ds off j (by omega)
        rw [hdl] at hs
        rw [hs] at hj
        by_cases c1 : j < off
        ·rw [if_pos c1] at hj
         rw [if_neg (by omega)]
         exact (a5 _ _ _ _ _ hrow hct hj).stay s
        rw [if_neg c1] at hj
        by_cases c2 : j < off + sz
        ·rw [if_pos c2] at hj
         rw [if_pos ⟨rfl,by omega,c2⟩]
         have hct' : (((cts.drop off).take sz))[j - off]? = some ct:=by
          rw [List.getElem?_take,if_pos (by omega),List.getElem?_drop,← hct]
          congr 1; omega
         obtain ⟨v,hv,hr⟩:=m3 (j - off) ct d hct' hj
         rw [hv]
         exact hr.stay s
        rw [if_neg c2] at hj
        rw [if_neg (by omega)]
        exact (a5 _ _ _ _ _ hrow hct hj).stay s
       rw [List.getElem?_set_ne (Ne.symm hij)] at hi'
       rw [if_neg (show ¬ (i' = i.toNat ∧ off ≤ j ∧ j < off + sz) from fun hh=>hij hh.1)]
       exact (a5 _ _ _ _ _ hi' hct hj).stay s
      rw [p2]
      exact ⟨te,cap,setRow_heap _ _ _ _ _ _ r3,by rw [hsz2,hz]; omega,by simpa [D.len] using r5⟩
     exact hk.elim
    exact hk.elim
   exact hk.elim
  exact hk.elim
 exact hk.elim
end
end Sx
