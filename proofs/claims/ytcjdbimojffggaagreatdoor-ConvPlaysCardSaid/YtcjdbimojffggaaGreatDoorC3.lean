/- Part of the proof: a machine of states for walks, and contracts of functions over it. Conditions: those that each theorem names. -/
import Derived.Test.YtcjdbimojffggaaGreatDoorC2
import Derived.Laws.Tables
set_option linter.unusedVariables false
set_option linter.unusedSimpArgs false
namespace Sx
open Go
section
variable {S : Pr} {E : Ctx} {β : Nat → Option Nat} {env : Env} {own snap : Own} {a : Act} {w : World}
variable (hT : TOk S.P S.tt) (h : Rel E β env own a w) (hs : ∀ n B,snap n = some B → own n = some B) (hET : E.T = S.T)
theorem VOk.val {o : Oper} {K : SV → Prop} {v : Value} (hk : (retV v).wp K) (hr : (execOp a.eval o).run S.P w = .ok (.value v) w) (h1 : oneV v = true) : VOk S E β own a w o K :=
 .same hk hr ⟨rfl,h1⟩
theorem binI_run {op : BinOp} {k : IntKind} {m n : Int} {K : SV → Prop} {t : TypeId} (h : (binI op k m n).wp K) (hsh : op ≠ .shl ∧ op ≠ .shr) :
  ∃ v,(retV v).wp K ∧ oneV v = true ∧ (Go.binOp op t (.int k m) (.int k n)).run S.P w = .ok v w:=by
 cases op <;> simp only [binI] at h <;>
  first
  | exact ⟨_,h,rfl,by simp [Go.binOp,Op.intArith,Op.intBits,Op.intCmp,Op.intDiv]⟩
  | exact ⟨_,h.2,rfl,by simp [Go.binOp,Op.intDiv,h.1]⟩
  | exact h.elim
  | exact absurd rfl hsh.1
  | exact absurd rfl hsh.2
theorem eqGuard_int {op : BinOp} {t : TypeId} {x y : Operand} {p q : Value} (hp : ∀ (h1 : p = .nilIface) (h2 : q = .nilIface),(isConst x || isConst y) = true) (ha : ∀ c,p ≠ .agg c) : (eqGuard op t x y p q).run S.P w = .ok () w:=by
 unfold eqGuard
 cases op <;> simp <;>
 ·cases p <;> cases q <;> simp_all [isConst]
  all_goals (cases x <;> cases y <;> simp_all)
theorem TIok.bool {P : Program} {t : TypeId} {i : TI} (h : TIok P t i) (he : i.ty = .cell .bool) : P.underlying t = some .bool:=by
 obtain ⟨d,inf,z,hu,hd,_⟩:=h.ok
 rw [he] at hd
 cases d <;> simp_all [tyOf]
theorem TIok.iface {P : Program} {t : TypeId} {i : TI} (h : TIok P t i) (he : i.ty = .iface) : ∃ ms,P.underlying t = some (.interface ms):=by
 obtain ⟨d,inf,z,hu,hd,_⟩:=h.ok
 rw [he] at hd
 cases d <;> simp_all [tyOf]
theorem TIok.ptr {P : Program} {t e : TypeId} {i : TI} (h : TIok P t i) (he : i.ty = .ptr e) : P.underlying t = some (.pointer e):=by
 obtain ⟨d,inf,z,hu,hd,_⟩:=h.ok
 rw [he] at hd
 cases d <;> simp_all [tyOf]
theorem equal_run {P : Program} {t : TypeId} {p q : Value} {b : Bool} (h : ∀ d,(Op.equalIn (d + 1) t p q).run P w = .ok b w) : (Op.equal t p q).run P w = .ok b w:=h 9999
theorem eql_run {P : Program} {t : TypeId} {p q : Value} {b : Bool} (hd : Go.binOp .eql t p q = (do pure (Value.bool (← Op.equal t p q)))) (h : ∀ d,(Op.equalIn (d + 1) t p q).run P w = .ok b w) : (Go.binOp .eql t p q).run P w = .ok (.bool b) w:=by
 rw [hd,Sem.run_bind,equal_run h]; rfl
theorem neq_run {P : Program} {t : TypeId} {p q : Value} {b : Bool} (hd : Go.binOp .neq t p q = (do pure (Value.bool (!(← Op.equal t p q))))) (h : ∀ d,(Op.equalIn (d + 1) t p q).run P w = .ok b w) : (Go.binOp .neq t p q).run P w = .ok (.bool (!b)) w:=by
 rw [hd,Sem.run_bind,equal_run h]; rfl
include hT h in
theorem v_binOp {o : Oper} {op : BinOp} {t t' : TypeId} {x y : Operand} {K : SV → Prop} (ho : o.op = .binOp op t x y t') (hk : (opV S snap env o).wp K) : VOk S E β own a w o K:=by
 simp only [opV,ho] at hk
 split at hk
 ·rename_i i c d h0 h1 h2
  have ht:=hT.get h0
  have hc:=evC_den h h1
  have hd:=evC_den h h2
  have run : ∀ {p q v : Value},a.eval x = p → a.eval y = q → (∀ (h1 : p = .nilIface) (h2 : q = .nilIface),(isConst x || isConst y) = true) → (∀ c,p ≠ .agg c) → (Go.binOp op t p q).run S.P w = .ok v w → (execOp a.eval o).run S.P w = .ok (.value v) w:=by
   intro p q v e1 e2 e3 e4 e5
   simp [execOp,ho,e1,e2,Sem.run_bind,eqGuard_int (S:=S) (w:=w) (op:=op) (t:=t) e3 e4,e5]
  unfold binS at hk
  split at hk
  ·rename_i k m k' n
   have e1 : a.eval x = .int k m:=hc.1
   have e2 : a.eval y = .int k' n:=hd.1
   split at hk
   ·exact .val hk.2 (run e1 e2 (by simp) (by simp) (by simp [Go.binOp,Op.shift,Int.not_lt.2 hk.1])) rfl
   ·exact .val hk.2 (run e1 e2 (by simp) (by simp) (by simp [Go.binOp,Op.shift,Int.not_lt.2 hk.1])) rfl
   rename_i n1 n2
   obtain ⟨hkk,hk1⟩:=wp_cond_fail hk
   have ek : k = k':=of_decide_eq_true hkk
   subst ek
   obtain ⟨v,a1,a2,a3⟩:=binI_run (S:=S) (w:=w) (t:=t) hk1 ⟨fun e=>n1 e,fun e=>n2 e⟩
   exact .val a1 (run e1 e2 (by simp) (by simp) a3) a2
  ·rename_i p q
   have e1 : a.eval x = .string p:=hc.1
   have e2 : a.eval y = .string q:=hd.1
   split at hk
   ·exact .val hk (run e1 e2 (by simp) (by simp) (by simp [Go.binOp,Op.stringOp])) rfl
   ·exact .val hk (run e1 e2 (by simp) (by simp) (by simp [Go.binOp,Op.stringOp])) rfl
   ·exact .val hk (run e1 e2 (by simp) (by simp) (by simp [Go.binOp,Op.stringOp])) rfl
   exact hk.elim
  ·rename_i p q
   have e1 : a.eval x = .bool p:=hc.1
   have e2 : a.eval y = .bool q:=hd.1
   split at hk
   ·rename_i hty
    exact .val hk (run e1 e2 (by simp) (by simp) (eql_run rfl fun d=>by simp [Op.equalIn,run_underlying (ht.bool hty)])) rfl
   ·rename_i hty
    exact .val hk (run e1 e2 (by simp) (by simp) (neq_run rfl fun d=>by simp [Op.equalIn,run_underlying (ht.bool hty)])) rfl
   exact hk.elim
  ·rename_i p q
   have e1 : a.eval x = .iface p q:=hc.1
   have e2 : a.eval y = .nilIface:=hd.1
   split at hk
   ·rename_i hty
    obtain ⟨ms,hu⟩:=ht.iface hty
    exact .val hk (run e1 e2 (by simp) (by simp) (eql_run rfl fun d=>by simp [Op.equalIn,run_underlying hu])) rfl
   ·rename_i hty
    obtain ⟨ms,hu⟩:=ht.iface hty
    exact .val hk (run e1 e2 (by simp) (by simp) (neq_run (b:=false) rfl fun d=>by simp [Op.equalIn,run_underlying hu])) rfl
   exact hk.elim
  ·have e1 : a.eval x = .nilIface:=hc.1
   have e2 : a.eval y = .nilIface:=hd.1
   split at hk
   ·rename_i hty hlit
    obtain ⟨ms,hu⟩:=ht.iface hty
    exact .val hk (run e1 e2 (fun _ _=>hlit) (by simp) (eql_run rfl fun d=>by simp [Op.equalIn,run_underlying hu])) rfl
   ·rename_i hty hlit
    obtain ⟨ms,hu⟩:=ht.iface hty
    exact .val hk (run e1 e2 (fun _ _=>hlit) (by simp) (neq_run (b:=true) rfl fun d=>by simp [Op.equalIn,run_underlying hu])) rfl
   exact hk.elim
  ·rename_i n off
   obtain ⟨b,t2,l2,_,_,e1⟩:=hc
   have e2 : a.eval y = .pointer none:=hd.1
   split at hk
   ·rename_i e hty
    exact .val hk (run e1 e2 (by simp) (by simp) (eql_run rfl fun d=>by simp [Op.equalIn,run_underlying (ht.ptr hty)])) rfl
   ·rename_i e hty
    exact .val hk (run e1 e2 (by simp) (by simp) (neq_run (b:=false) rfl fun d=>by simp [Op.equalIn,run_underlying (ht.ptr hty)])) rfl
   exact hk.elim
  ·have e1 : a.eval x = .pointer none:=hc.1
   have e2 : a.eval y = .pointer none:=hd.1
   split at hk
   ·rename_i e hty
    exact .val hk (run e1 e2 (by simp) (by simp) (eql_run rfl fun d=>by simp [Op.equalIn,run_underlying (ht.ptr hty)])) rfl
   ·rename_i e hty
    exact .val hk (run e1 e2 (by simp) (by simp) (neq_run (b:=true) rfl fun d=>by simp [Op.equalIn,run_underlying (ht.ptr hty)])) rfl
   exact hk.elim
  ·rename_i u xd
   have e2 : a.eval y = .slice none 0 0:=hd.1
   have hrd : Rd E.T w (Av E.X β own) (.sl u) (a.eval x) xd:=hc
   have two : (a.eval x = .slice none 0 0 ∧ xd.len = 0) ∨ ∃ ad n c,a.eval x = .slice (some ad) n c:=by
    generalize a.eval x = v at hrd
    cases hrd with
    | nilI _=>exact .inl ⟨rfl,rfl⟩
    | nilR _=>exact .inl ⟨rfl,rfl⟩
    | ints _ _ _=>exact .inr ⟨_,_,_,rfl⟩
    | rows _ _ _ _ _ _=>exact .inr ⟨_,_,_,rfl⟩
   split at hk
   ·rename_i e hty
    have hu:=ht.slice hty
    rcases two with ⟨e1,hz⟩ | ⟨ad,n,c,e1⟩
    ·exact .val (hk true fun _=>hz) (run e1 e2 (by simp) (by simp) (eql_run rfl fun d=>by simp [Op.equalIn,run_underlying hu])) rfl
    exact .val (hk false (by simp)) (run e1 e2 (by simp) (by simp) (eql_run rfl fun d=>by simp [Op.equalIn,run_underlying hu])) rfl
   ·rename_i e hty
    have hu:=ht.slice hty
    rcases two with ⟨e1,hz⟩ | ⟨ad,n,c,e1⟩
    ·exact .val (hk false fun _=>hz) (run e1 e2 (by simp) (by simp) (neq_run (b:=true) rfl fun d=>by simp [Op.equalIn,run_underlying hu])) rfl
    exact .val (hk true (by simp)) (run e1 e2 (by simp) (by simp) (neq_run (b:=false) rfl fun d=>by simp [Op.equalIn,run_underlying hu])) rfl
   exact hk.elim
  exact hk.elim
 exact hk.elim
include h in
theorem v_unOp {o : Oper} {op : UnOp} {t : TypeId} {x : Operand} {K : SV → Prop} (ho : o.op = .unOp op t x) (hk : (opV S snap env o).wp K) : VOk S E β own a w o K:=by
 simp only [opV,ho] at hk
 split at hk
 ·rename_i b h1
  have hx:=(evV_eq h h1).1
  exact .val hk (by simp [execOp,ho,Op.unary,hx]) rfl
 ·rename_i k n h1
  have hx:=(evV_eq h h1).1
  exact .val hk (by simp [execOp,ho,Op.unary,hx,Op.intArith]) rfl
 ·rename_i k n h1
  have hx:=(evV_eq h h1).1
  exact .val hk (by simp [execOp,ho,Op.unary,hx,Op.intBits]) rfl
 exact hk.elim
include hT h in
theorem v_convert {o : Oper} {s t : TypeId} {x : Operand} {K : SV → Prop} (ho : o.op = .convert s t x) (hk : (opV S snap env o).wp K) : VOk S E β own a w o K:=by
 simp only [opV,ho] at hk
 split at hk
 ·rename_i i k cts z by_ k' n h0 h1 h2
  have hx:=(evV_eq h h2).1
  obtain ⟨d,inf,z,hd,_⟩:=(hT.get h0).ok
  have ht:=(hT.get h1).intK rfl
  exact .val hk (by simp [execOp,ho,Go.convert,hx,run_underlying hd,run_underlying ht,Conv.intToInt]) rfl
 exact hk.elim
theorem call_builtin {o : Oper} {b : Builtin} {args : Array Operand} {ts : Array TypeId} (ho : o.op = .call ⟨.builtin b,args,ts⟩) :
  (execOp a.eval o).run S.P w = (builtin b ts o.type (args.map fun | .const _=>true | _=>false) (args.map a.eval)).run S.P w:=by
 simp only [execOp,ho,resolve,Sem.run_bind,Sem.run_pure,Result.andThen_ok,invoke]
 rfl
theorem arr1 {α : Type} {x : Array α} {y : α} (h : x.toList = [y]) : x = #[y]:=by cases x; simp_all
theorem arr2 {α : Type} {x : Array α} {y z : α} (h : x.toList = [y,z]) : x = #[y,z]:=by cases x; simp_all
theorem Rd.slice {T : Tab} {A : Nat → Prop} {t : TypeId} {v : Value} {d : D} (h : Rd T w A (.sl t) v d) : ∃ ad cap,v = .slice ad d.len cap ∧ d.len ≤ cap:=by
 cases h
 ·exact ⟨_,_,rfl,Nat.le_refl _⟩
 ·exact ⟨_,_,rfl,Nat.le_refl _⟩
 ·exact ⟨_,_,rfl,‹_›⟩
 exact ⟨_,_,rfl,‹_›⟩
theorem TIok.str {P : Program} {t : TypeId} {i : TI} (h : TIok P t i) (he : i.ty = .cell .str) : P.underlying t = some .string:=by
 obtain ⟨d,inf,z,hu,hd,_⟩:=h.ok
 rw [he] at hd
 cases d <;> simp_all [tyOf]
theorem TIok.map {P : Program} {t k e : TypeId} {i : TI} (h : TIok P t i) (he : i.ty = .map k e) : P.underlying t = some (.map k e):=by
 obtain ⟨d,inf,z,hu,hd,_⟩:=h.ok
 rw [he] at hd
 cases d <;> simp_all [tyOf]
include hT h hs in
theorem v_len {o : Oper} {args : Array Operand} {ts : Array TypeId} {K : SV → Prop} (ho : o.op = .call ⟨.builtin .len,args,ts⟩) (hk : (opV S snap env o).wp K) : VOk S E β own a w o K:=by
 simp only [opV,ho] at hk
 split at hk
 ·rename_i x t hx ht
  obtain rfl:=arr1 hx
  obtain rfl:=arr1 ht
  split at hk
  ·rename_i i c h0 h1
   have hi:=hT.get h0
   have hc:=evC_den h h1
   split at hk
   ·rename_i n h2
    have sl : ∀ {e : TypeId} {ad : Option Addr} {len cap : Nat},i.ty = .slice e → a.eval x = .slice ad len cap → (execOp a.eval o).run S.P w = .ok (.value (.int .i64 len)) w:=by
     intro e ad len cap h3 h4
     rw [call_builtin ho]
     simp [builtin,Builtin.len_,run_underlying (hi.slice h3),h4,goInt]
    refine .val hk ?_ rfl
    unfold lenS at h2
    split at h2
    ·rename_i e u y hty
     obtain ⟨ad,cap,hv,_⟩:=Rd.slice hc
     obtain rfl:=Option.some.inj h2
     exact sl hty hv
    ·rename_i e u hty
     obtain ⟨ad,hv⟩:=hc
     obtain rfl:=Option.some.inj h2
     exact sl hty hv
    ·rename_i e hty
     obtain rfl:=Option.some.inj h2
     exact sl hty hc.1
    ·rename_i s hty
     obtain rfl:=Option.some.inj h2
     rw [call_builtin ho]
     have hv : a.eval x = .string s:=hc.1
     simp [builtin,Builtin.len_,run_underlying (hi.str hty),hv,goInt]
    ·rename_i e m u hty
     split at h2
     ·rename_i u' y hm
      obtain rfl:=Option.some.inj h2
      obtain ⟨y',b1,b2⟩:=hc
      have e':=(hs _ _ hm).symm.trans b1
      simp only [Option.some.injEq,Blk.row.injEq] at e'
      obtain ⟨rfl,rfl⟩:=e'
      cases hb : β m with
      | none=>rw [hb] at b2; obtain ⟨b3,ad,b4⟩:=b2; rw [b3]; exact sl hty b4
      | some b=>rw [hb] at b2; obtain ⟨cap,cs,te,hv,_⟩:=b2; exact sl hty hv
     cases h2
    ·rename_i k e m u hty
     split at h2
     ·rename_i u' l hm
      obtain rfl:=Option.some.inj h2
      obtain ⟨l',b,b1,b2,b3⟩:=hc
      have e':=(hs _ _ hm).symm.trans b1
      simp only [Option.some.injEq,Blk.map.injEq] at e'
      obtain ⟨rfl,rfl⟩:=e'
      obtain ⟨b',es,clock,c1,c2,_,c3,c4,_⟩:=h.blks.blk m _ b1
      have : b' = b:=by rw [b2] at c1; exact (Option.some.inj c1).symm
      subst this
      rw [call_builtin ho]
      simp [builtin,Builtin.len_,run_underlying (hi.map hty),b3,getObj,Sem.run,c2,goInt,c4]
     cases h2
    cases h2
   exact hk.elim
  exact hk.elim
 exact hk.elim
include h in
theorem v_min {o : Oper} {args : Array Operand} {ts : Array TypeId} {K : SV → Prop} (ho : o.op = .call ⟨.builtin .min,args,ts⟩) (hk : (opV S snap env o).wp K) : VOk S E β own a w o K:=by
 simp only [opV,ho] at hk
 split at hk
 ·rename_i x y hx
  obtain rfl:=arr2 hx
  split at hk
  ·rename_i k m k' n h1 h2
   have e1:=(evV_eq h h1).1
   have e2:=(evV_eq h h2).1
   refine .val hk ?_ rfl
   rw [call_builtin ho]
   simp [builtin,Builtin.min_,e1,e2,Builtin.min2]
  exact hk.elim
 exact hk.elim
include h in
theorem v_max {o : Oper} {args : Array Operand} {ts : Array TypeId} {K : SV → Prop} (ho : o.op = .call ⟨.builtin .max,args,ts⟩) (hk : (opV S snap env o).wp K) : VOk S E β own a w o K:=by
 simp only [opV,ho] at hk
 split at hk
 ·rename_i x y hx
  obtain rfl:=arr2 hx
  split at hk
  ·rename_i k m k' n h1 h2
   have e1:=(evV_eq h h1).1
   have e2:=(evV_eq h h2).1
   refine .val hk ?_ rfl
   rw [call_builtin ho]
   simp [builtin,Builtin.max_,e1,e2,Builtin.max2]
  exact hk.elim
 exact hk.elim
end
end Sx
namespace Sx
open Go
section
variable {S : Pr} {E : Ctx} {β : Nat → Option Nat} {env : Env} {own snap : Own} {a : Act} {w : World}
variable (hT : TOk S.P S.tt) (h : Rel E β env own a w) (hs : ∀ n B,snap n = some B → own n = some B) (hET : E.T = S.T)
include h in
theorem optI_eq {x : Option Operand} {d n : Int} (hx : optI env d x = some n) : (x = none ∧ n = d) ∨ ∃ y k,x = some y ∧ a.eval y = .int k n:=by
 cases x with
 | none=>simp only [optI,Option.some.injEq] at hx; exact .inl ⟨rfl,hx.symm⟩
 | some y =>
  simp only [optI] at hx
  split at hx
  ·rename_i k m h1
   obtain rfl:=Option.some.inj hx
   exact .inr ⟨y,k,rfl,(evV_eq h h1).1⟩
  cases hx
theorem Rd.cut {T : Tab} {A : Nat → Prop} {t : TypeId} {ad : Option Addr} {len cap : Nat} {x y : D} {lo hi : Nat} {el : El} (h : Rd T w A (.sl t) (.slice ad len cap) x) (hel : T t = some el)
  (hy : dcut T t x lo hi = some y) (h1 : lo ≤ hi) (h2 : hi ≤ len) : Rd T w A (.sl t) (.slice (if cap = lo then ad else ad.map (·.add (lo * el.size))) (hi - lo) (cap - lo)) y:=by
 cases h with
 | nilI h =>
  obtain rfl : hi = 0:=by omega
  obtain rfl : lo = 0:=by omega
  simp only [dcut,h,D.toInts] at hy
  simp at hy
  subst hy
  simpa using Rd.nilI h
 | nilR h =>
  obtain rfl : hi = 0:=by omega
  obtain rfl : lo = 0:=by omega
  simp only [dcut,h,D.toRows] at hy
  simp at hy
  subst hy
  simpa using Rd.nilR h
 | @ints _ k l a' _ h h3 h5 =>
  simp only [dcut,h,D.toInts,Option.some.injEq] at hy
  subst hy
  have e : el = .ints k:=by rw [h] at hel; exact (Option.some.inj hel).symm
  subst e
  have hlen : ((l.take (hi : Int).toNat).drop (lo : Int).toNat).length = hi - lo:=by simp; omega
  have hads : (if cap = lo then some a' else (some a').map (·.add (lo * (El.ints k).size))) = some (if cap = lo then a' else a'.add lo):=by
   split <;> simp [El.size]
  rw [hads,← hlen]
  refine .ints h (by rw [hlen]; omega) ?_
  intro i n hi'
  have hlt:=(List.getElem?_eq_some_iff.1 hi').1
  rw [hlen] at hlt
  have hne : ¬ cap = lo:=by omega
  rw [if_neg hne,add_add]
  have : l[lo + i]? = some n:=by
   simp only [Int.toNat_natCast,List.getElem?_drop,List.getElem?_take] at hi'
   split at hi'
   ·exact hi'
   cases hi'
  exact h5 _ _ this
 | @rows _ c l a' _ vs h h3 h5 h6 h7 =>
  simp only [dcut,h,D.toRows,Option.some.injEq] at hy
  subst hy
  have e : el = .rows c:=by rw [h] at hel; exact (Option.some.inj hel).symm
  subst e
  have hlen : ((l.take (hi : Int).toNat).drop (lo : Int).toNat).length = hi - lo:=by simp; omega
  have hads : (if cap = lo then some a' else (some a').map (·.add (lo * (El.rows c).size))) = some (if cap = lo then a' else a'.add (lo * c.length)):=by
   split <;> simp [El.size]
  have key : ∀ (i : Nat) e,((l.take (hi : Int).toNat).drop (lo : Int).toNat)[i]? = some e → l[lo + i]? = some e:=by
   intro i e hi'
   simp only [Int.toNat_natCast,List.getElem?_drop,List.getElem?_take] at hi'
   split at hi'
   ·exact hi'
   cases hi'
  rw [hads,← hlen]
  refine .rows (fun i j=>vs (lo + i) j) h (by rw [hlen]; omega) (fun i e hi'=>h5 _ _ (key i e hi')) ?_ (fun i e j ct d hi'=>h7 _ _ _ _ _ (key i e hi'))
  intro i e j d hi' hd
  have hlt:=(List.getElem?_eq_some_iff.1 hi').1
  rw [hlen] at hlt
  have hne : ¬ cap = lo:=by omega
  rw [if_neg hne,add_add]
  have:=h6 _ _ _ _ (key i e hi') hd
  rwa [Nat.add_mul,Nat.add_assoc] at this
theorem Rd.el {T : Tab} {A : Nat → Prop} {t : TypeId} {v : Value} {d : D} (h : Rd T w A (.sl t) v d) : ∃ el,T t = some el:=by cases h <;> exact ⟨_,‹_›⟩
theorem bounds_run {P : Program} {lo hi : Option Value} {len cap l m : Nat} (hl : (lo = none ∧ l = 0) ∨ ∃ k,lo = some (.int k l)) (hh : (hi = none ∧ m = len) ∨ ∃ k,hi = some (.int k m)) (h1 : l ≤ m) (h2 : m ≤ cap) :
  (Instr.sliceBounds true len cap lo hi none).run P w = .ok (l,m,cap) w:=by
 have e1 : ((l : Int) ≤ (m : Int)):=by omega
 have e2 : ((m : Int) ≤ (cap : Int)):=by omega
 rcases hl with ⟨rfl,rfl⟩ | ⟨k,rfl⟩ <;> rcases hh with ⟨rfl,rfl⟩ | ⟨k',rfl⟩ <;> simp [Instr.sliceBounds,Instr.sliceBound,asIntOf,Sem.run_bind,e1,e2,h1,h2]
include hT h hET in
theorem v_slice {o : Oper} {t : TypeId} {x : Operand} {lo hi mx : Option Operand} {K : SV → Prop} (ho : o.op = .slice t x lo hi mx) (hk : (opV S snap env o).wp K) : VOk S E β own a w o K:=by
 simp only [opV,ho] at hk
 split at hk
 ·rename_i e cts z by_ c h0 h1
  have hu:=(hT.get h0).slice rfl
  unfold sliceS at hk
  split at hk
  ·rename_i u y
   have hd : Rd E.T w (Av E.X β own) (.sl u) (a.eval x) y:=evC_den h h1
   obtain ⟨ad,cap,hv,hcap⟩:=Rd.slice hd
   split at hk
   ·split at hk
    ·rename_i l m h2 h3
     split at hk
     ·rename_i y' h4
      obtain ⟨hb,hk1⟩:=wp_cond_fail hk
      clear hk
      obtain rfl:=Nat.eq_of_beq_eq_true hb
      obtain ⟨⟨b1,b2,b3⟩,hk2⟩:=need_of hk1
      clear hk1
      obtain ⟨el,hel⟩ : ∃ el,S.T t = some el:=by
       cases hq : S.T t with
       | none=>simp [dcut,hq] at h4
       | some el=>exact ⟨el,rfl⟩
      obtain ⟨ie,_,_,hz⟩:=el_size hT h0 hel
      obtain ⟨l',rfl⟩:=Int.eq_ofNat_of_zero_le b1
      obtain ⟨m',rfl⟩:=Int.eq_ofNat_of_zero_le (Int.le_trans b1 b2)
      have c1 : l' ≤ m':=by omega
      have c2 : m' ≤ y.len:=by omega
      rw [hv] at hd
      have hr:=Rd.cut hd (by rw [hET]; exact hel) (by rw [hET]; exact h4) c1 c2
      refine .same hk2 ?_ hr
      have hb2 : (Instr.sliceBounds true y.len cap (lo.map a.eval) (hi.map a.eval) none).run S.P w = .ok (l',m',cap) w:=by
       refine bounds_run ?_ ?_ c1 (by omega)
       ·rcases optI_eq h h2 with ⟨e1,e2⟩ | ⟨yy,k,e1,e2⟩
        ·exact .inl ⟨by rw [e1]; rfl,by omega⟩
        exact .inr ⟨k,by rw [e1]; simp [e2]⟩
       rcases optI_eq h h3 with ⟨e1,e2⟩ | ⟨yy,k,e1,e2⟩
       ·exact .inl ⟨by rw [e1]; rfl,by omega⟩
       exact .inr ⟨k,by rw [e1]; simp [e2]⟩
      simp [execOp,ho,Instr.sliceAt,run_underlying hu,Instr.slice,hv,hb2,hz]
     exact hk.elim
    exact hk.elim
   rename_i m
   split at hk
   ·rename_i hh
    split at hk
    ·rename_i h2 h3 h4
     obtain ⟨hb,hk1⟩:=wp_cond_fail hk
     clear hk
     obtain rfl:=Nat.eq_of_beq_eq_true hb
     rcases optI_eq h h4 with ⟨e1,_⟩ | ⟨yy,k,e1,e2⟩
     ·cases e1
     obtain rfl:=Option.some.inj e1
     rcases optI_eq h h3 with ⟨e1,_⟩ | ⟨y3,k3,e3,e4⟩
     ·cases e1
     obtain rfl:=Option.some.inj e3
     obtain ⟨el,hel⟩:=Rd.el hd
     rw [hET] at hel
     obtain ⟨ie,_,_,hz⟩:=el_size hT h0 hel
     have hb2 : (Instr.sliceBounds true y.len cap (lo.map a.eval) (some (a.eval hh)) (some (a.eval m))).run S.P w = .ok (0,0,0) w:=by
      have : (0 : Int) ≤ (cap : Int):=by omega
      rcases optI_eq h h2 with ⟨rfl,_⟩ | ⟨y2,k2,rfl,e5⟩
      ·simp [Instr.sliceBounds,Instr.sliceBound,e2,e4,asIntOf,this]
      simp [Instr.sliceBounds,Instr.sliceBound,e2,e4,e5,asIntOf,this]
     refine .same hk1 (v:=.slice ad 0 0) ?_ ⟨ad,rfl⟩
     simp [execOp,ho,Instr.sliceAt,run_underlying hu,Instr.slice,hv,hb2,hz]
    exact hk.elim
   exact hk.elim
  exact hk.elim
 exact hk.elim
theorem mapO_all {α β γ : Type} {f : α → Option β} {R : β → γ → Prop} {g : α → γ} (hf : ∀ a b,f a = some b → R b (g a)) : ∀ {l : List α} {m : List β},mapO f l = some m → All2 R m (l.map g)
 | [],m,h=>by simp only [mapO,Option.some.injEq] at h; subst h; trivial
 | a :: l,m,h=>by
  simp only [mapO] at h
  split at h
  ·rename_i b hb
   split at h
   ·rename_i l' hl
    obtain rfl:=Option.some.inj h
    exact ⟨hf a b hb,mapO_all hf hl⟩
   cases h
  cases h
theorem partsC_den (h : Rel E β env own a w) {ps : List (Nat × Operand)} {l : List (Nat × List C)} (hp : partsC env ps = some l) :
  All2 (fun x (y : Nat × Value)=>x.1 = y.1 ∧ All2 (DenC E.T w β (Av E.X β own) own) x.2 y.2.cells.toList) l (ps.map fun p=>(p.1,a.eval p.2)):=by
 refine mapO_all ?_ hp
 intro p b hb
 split at hb
 ·rename_i u hu
  obtain rfl:=Option.some.inj hb
  refine ⟨rfl,?_⟩
  have hd:=evU_den h hu
  cases u with
  | c x =>
   have h1:=hd.oneV
   have : (a.eval p.2).cells.toList = [a.eval p.2]:=by
    cases he : a.eval p.2 <;> simp_all [Value.cells,oneV]
   simp only [this]
   exact ⟨hd,trivial⟩
  | a l =>
   obtain ⟨cs,he,hl⟩:=hd
   simp only [he,Value.cells]
   simpa [U.cells] using hl
 cases hb
theorem foldl_put (vs : List Value) : ∀ (off : Nat) (cs : List Value),off + vs.length ≤ cs.length →
  (vs.zipIdx.foldl (fun (c : Array Value) (p : Value × Nat)=>c.setIfInBounds (off + p.2) p.1) cs.toArray).toList = cs.take off ++ vs ++ cs.drop (off + vs.length):=by
 have key : ∀ (vs : List Value) (off k : Nat) (cs : List Value),off + k + vs.length ≤ cs.length →
   ((vs.zipIdx k).foldl (fun (c : Array Value) (p : Value × Nat)=>c.setIfInBounds (off + p.2) p.1) cs.toArray).toList = cs.take (off + k) ++ vs ++ cs.drop (off + k + vs.length):=by
  intro vs
  induction vs with
  | nil=>intro off k cs hl; simp
  | cons v vs ih =>
   intro off k cs hl
   simp only [List.zipIdx_cons,List.foldl_cons,List.length_cons] at hl ⊢
   rw [List.setIfInBounds_toArray,ih off (k + 1) _ (by simp; omega)]
   have e1 : (cs.set (off + k) v).take (off + (k + 1)) = cs.take (off + k) ++ [v]:=by
    rw [show off + (k + 1) = off + k + 1 from by omega,List.take_succ_eq_append_getElem (by simp; omega)]
    rw [List.take_set,List.set_eq_of_length_le (by simp; omega)]
    simp
   have e2 : (cs.set (off + k) v).drop (off + (k + 1) + vs.length) = cs.drop (off + k + (vs.length + 1)):=by
    rw [List.drop_set_of_lt (by omega)]
    congr 1
    omega
   rw [e1,e2]
   simp
 intro off cs hl
 simpa using key vs off 0 cs (by simpa using hl)
theorem fill_den {T : Tab} {A : Nat → Prop} {place pl : Nat → Option (Nat × Nat)} : ∀ {l : List (Nat × List C)} {ps : List (Nat × Value)} {cells r : List C} {cs : List Value},
  All2 (fun x (y : Nat × Value)=>x.1 = y.1 ∧ All2 (DenC T w β A own) x.2 y.2.cells.toList) l ps → All2 (DenC T w β A own) cells cs → (∀ i p,place i = some p → pl i = some p) → fillC place cells l = some r →
  ∃ rs : List Value,Instr.fill pl cs.toArray ps = some rs.toArray ∧ All2 (DenC T w β A own) r rs
 | [],[],cells,r,cs,_,hc,_,hf=>by
  simp only [fillC,Option.some.injEq] at hf
  subst hf
  exact ⟨cs,rfl,hc⟩
 | (i,v) :: l,(j,y) :: ps,cells,r,cs,hp,hc,hpl,hf=>by
  obtain ⟨⟨e,hv⟩,hp⟩:=hp
  simp only at e hv
  subst e
  simp only [fillC] at hf
  split at hf
  ·cases hf
  rename_i off size hpi
  cases hb : (v.length.beq size && (off + size).ble cells.length) with
  | false=>rw [hb] at hf; cases hf
  | true =>
   rw [hb] at hf
   simp only [cond_true] at hf
   simp only [Bool.and_eq_true] at hb
   have e1:=Nat.eq_of_beq_eq_true hb.1
   have e2:=Nat.le_of_ble_eq_true hb.2
   have l1:=hv.length
   have l2:=hc.length
   have hsz : y.cells.size = size:=by rw [← Array.length_toList,← l1,e1]
   have hput:=foldl_put y.cells.toList off cs (by rw [← l1,e1]; omega)
   have hc' : All2 (DenC T w β A own) (cells.take off ++ v ++ cells.drop (off + size)) (cs.take off ++ y.cells.toList ++ cs.drop (off + y.cells.toList.length)):=by
    refine ((hc.take off).append hv).append ?_
    rw [← l1,e1]
    exact hc.drop _
   obtain ⟨rs,h1,h2⟩:=fill_den hp hc' hpl hf
   refine ⟨rs,?_,h2⟩
   rw [← hput] at h1
   simp only [Instr.fill,hpl _ _ hpi,hsz]
   rw [if_neg (by simp; omega)]
   rw [← h1]
   congr 1
   simp only [← Array.foldl_toList,Array.toList_zipIdx]
 | [],_ :: _,_,_,_,hp,_,_,_=>hp.elim
 | _ :: _,[],_,_,_,hp,_,_,_=>hp.elim
end
end Sx
namespace Sx
open Go
section
variable {S : Pr} {E : Ctx} {β : Nat → Option Nat} {env : Env} {own snap : Own} {a : Act} {w : World}
variable (hT : TOk S.P S.tt) (h : Rel E β env own a w) (hs : ∀ n B,snap n = some B → own n = some B) (hET : E.T = S.T)
theorem sizeT_info (hT : TOk S.P S.tt) {t : TypeId} {n : Nat} (hz : sizeT S t = some n) : ∃ i,S.P.info? t = some i ∧ i.size = n:=by
 unfold sizeT at hz
 cases h : S.tt t with
 | none=>simp [h] at hz
 | some i =>
  simp only [h,Option.map_some,Option.some.injEq] at hz
  obtain ⟨d,inf,z,_,_,hi,hs,_⟩:=(hT.get h).ok
  exact ⟨inf,hi,hs.trans hz⟩
theorem places_info (hT : TOk S.P S.tt) : ∀ {gs : List Field} {pl : List (Nat × Nat)},placesS S (gs.map fun f=>(f.offset,f.type)) = some pl → gs.mapM (fun f=>(S.P.info? f.type).map fun i=>(f.offset,i.size)) = some pl
 | [],pl,h=>by simpa [placesS,mapO] using h
 | g :: gs,pl,h=>by
  unfold placesS at h
  simp only [List.map_cons,mapO] at h
  cases h1 : sizeT S g.type with
  | none=>simp [h1] at h
  | some n =>
   simp only [h1] at h
   split at h
   ·rename_i l hl
    obtain rfl:=Option.some.inj h
    obtain ⟨i,hi,hsz⟩:=sizeT_info hT h1
    have:=places_info hT (gs:=gs) (pl:=l) hl
    simp [List.mapM_cons,hi,hsz,this]
   cases h
theorem zero_all {T : Tab} {A : Nat → Prop} {l : List Value} (h : ∀ v ∈ l,oneV v = true) : All2 (DenC T w β A own) (l.map .v) l:=den_all T A l (List.all_eq_true.2 h)
include hT h in
theorem v_build {o : Oper} {t : TypeId} {ps : Array (Nat × Operand)} {K : SV → Prop} (ho : o.op = .build t ps) (hk : (opV S snap env o).wp K) : VOk S E β own a w o K:=by
 simp only [opV,ho] at hk
 have hps : ∀ ps : Array (Nat × Operand),(ps.map fun x=>(x.1,a.eval x.2)).toList = ps.toList.map fun p=>(p.1,a.eval p.2):=fun ps=>by simp
 split at hk
 ·rename_i fs cts z by_ l h0 h1
  have ht:=hT.get h0
  obtain ⟨gs,hu,hf⟩:=ht.struct rfl
  obtain ⟨zv,hzr,hzc⟩:=ht.zeroV w
  obtain ⟨_,_,_,_,_,_,_,_,_,hzl,hz1,_⟩:=ht.ok
  split at hk
  ·rename_i pl hpl
   split at hk
   ·rename_i r hr
    rw [hf] at hpl
    have hpm:=places_info hT hpl
    obtain ⟨rs,f1,f2⟩:=fill_den (pl:=(pl.toArray[·]?)) (partsC_den h h1) (zero_all hz1) (fun i p hi=>by simpa using hi) hr
    refine .same hk (v:=.agg rs.toArray) ?_ ⟨rs,rfl,f2⟩
    have hzc' : zv.cells = z.toArray:=by apply Array.ext'; simpa using hzc
    have hrun:=run_places (P:=S.P) w gs.toList pl hpm
    simp only [execOp,ho,Instr.build,Sem.run_bind,hzr,Result.andThen_ok,run_underlying hu,hzc']
    have : (gs.mapM fun f=>(do pure (f.offset,← Go.sizeOf f.type) : Sem (Nat × Nat))).run S.P w = .ok pl.toArray w:=by
     rw [Array.mapM_eq_mapM_toList]
     simp [hrun]
    rw [this]
    simp only [Result.andThen_ok]
    rw [show (Array.map (fun (x : Nat × Operand)=>match x with | (i,x)=>(i,a.eval x)) ps).toList = ps.toList.map fun p=>(p.1,a.eval p.2) from by simp]
    rw [f1]
    rfl
   exact hk.elim
  exact hk.elim
 ·rename_i n e cts z by_ l h0 h1
  have ht:=hT.get h0
  have hu:=ht.array rfl
  obtain ⟨zv,hzr,hzc⟩:=ht.zeroV w
  obtain ⟨_,_,_,_,_,_,_,_,_,hzl,hz1,_⟩:=ht.ok
  split at hk
  ·rename_i sz hsz
   obtain ⟨ie,hie,hsi⟩:=sizeT_info hT hsz
   split at hk
   ·rename_i r hr
    obtain ⟨rs,f1,f2⟩:=fill_den (pl:=fun i=>some (i * sz,sz)) (partsC_den h h1) (zero_all hz1) (fun i p hi=>hi) hr
    refine .same hk (v:=.agg rs.toArray) ?_ ⟨rs,rfl,f2⟩
    have hzc' : zv.cells = z.toArray:=by apply Array.ext'; simpa using hzc
    simp only [execOp,ho,Instr.build,Sem.run_bind,hzr,Result.andThen_ok,run_underlying hu,hzc',Go.sizeOf,typeInfo,run_program,hie,Sem.run_pure,hsi]
    rw [show (Array.map (fun (x : Nat × Operand)=>match x with | (i,x)=>(i,a.eval x)) ps).toList = ps.toList.map fun p=>(p.1,a.eval p.2) from by simp]
    rw [f1]
    rfl
   exact hk.elim
  exact hk.elim
 exact hk.elim
end
end Sx
namespace Sx
open Go
theorem bytesB (a b : ByteArray) : (a == b) = true ↔ a = b:=by
 obtain ⟨x⟩:=a
 obtain ⟨y⟩:=b
 show (x == y) = true ↔ _
 simp
theorem findNow_str (s : ByteArray) : ∀ (l : List (ByteArray × List D)) (es : List MapEntry) (i : Nat),es.length = l.length → (∀ (j : Nat) kr,l[j]? = some kr → ∃ v b,es[j]? = some ⟨.string kr.1,v,b⟩) →
  (Instr.findNow .string (.string s) es i = some none ∧ findM s l = none ∧ ∀ r,putM s r l = l ++ [(s,r)]) ∨
  (∃ j kr v b,Instr.findNow .string (.string s) es i = some (some (i + j,v)) ∧ l[j]? = some kr ∧ es[j]? = some ⟨.string kr.1,v,b⟩ ∧ kr.1 = s ∧ findM s l = some kr.2 ∧ ∀ r,putM s r l = l.set j (s,r))
 | [],es,i,hl,_=>by
  obtain rfl : es = []:=List.length_eq_zero_iff.1 hl
  exact .inl ⟨rfl,rfl,fun _=>rfl⟩
 | p :: l,[],i,hl,_=>by simp at hl
 | p :: l,e :: es,i,hl,hk=>by
  obtain ⟨v,b,he⟩:=hk 0 p rfl
  have he : e = ⟨.string p.1,v,b⟩:=Option.some.inj he
  subst he
  by_cases c : s = p.1
  ·subst c
   refine .inr ⟨0,p,v,b,?_,rfl,rfl,rfl,by rw [findM,if_pos rfl],fun r=>by rw [putM,if_pos rfl]; rfl⟩
   have hy : (p.1 == p.1) = true:=(bytesB _ _).2 rfl
   simp only [Instr.findNow,Instr.sameNow,hy]
   rfl
  have hn : (s == p.1) = false:=by
   cases h : (s == p.1) with
   | false=>rfl
   | true=>exact absurd ((bytesB _ _).1 h) c
  rcases findNow_str s l es (i + 1) (by simpa using hl) (fun j kr hj=>hk (j + 1) kr hj) with ⟨h1,h2,h3⟩ | ⟨j,kr,v',b',h1,h2,h3,h4,h5,h6⟩
  ·refine .inl ⟨?_,by rw [findM,if_neg c]; exact h2,fun r=>by rw [putM,if_neg c,h3]; rfl⟩
   simp only [Instr.findNow,Instr.sameNow,hn]; exact h1
  refine .inr ⟨j + 1,kr,v',b',?_,h2,h3,h4,by rw [findM,if_neg c]; exact h5,fun r=>by rw [putM,if_neg c,h6]; rfl⟩
  simp only [Instr.findNow,Instr.sameNow,hn]
  rw [h1,show i + 1 + j = i + (j + 1) by omega]
theorem check_run {P : Program} {kt : TypeId} {s : ByteArray} {e : Bool} {w : World} (hk : P.underlying kt = some .string) : (Instr.checkKey e 10000 kt (.string s)).run P w = .ok () w:=by
 rw [show (10000 : Nat) = 9999 + 1 from rfl,Instr.checkKey]
 simp only [Sem.run_bind,run_underlying hk,Result.andThen_ok]
 rfl
theorem findKey_run {P : Program} {kt : TypeId} {s : ByteArray} {es : List MapEntry} {w : World} {r : Option (Nat × Value)} (hk : P.underlying kt = some .string) (hf : Instr.findNow .string (.string s) es 0 = some r) : (Instr.findKey kt (.string s) es).run P w = .ok r w:=by
 unfold Instr.findKey
 simp only [Sem.run_bind,run_underlying hk,Result.andThen_ok,hf]
 rfl
theorem getObj_run {P : Program} {b : Nat} {es : Array MapEntry} {clock : Nat} {w : World} (hg : w.heap[b]? = some (.map es clock)) : (getObj b).run P w = .ok (.map es clock) w:=by
 simp [getObj,Sem.run,hg]
theorem lookup_run {P : Program} {t kt e : TypeId} {s : ByteArray} {b : Nat} {es : Array MapEntry} {clock : Nat} {w : World} {z : Value} (hu : P.underlying t = some (.map kt e)) (hk : P.underlying kt = some .string) (hg : w.heap[b]? = some (.map es clock)) (hz : (zeroValue e).run P w = .ok z w)
  {r : Option (Nat × Value)} (hf : Instr.findNow .string (.string s) es.toList 0 = some r) : (Instr.lookup t (.map (some b)) (.string s) true).run P w = .ok (.tuple #[(match r with | some p=>p.2 | none=>z),.bool (match r with | some _=>true | none=>false)]) w:=by
 unfold Instr.lookup
 simp only [Sem.run_bind,run_underlying hu,Result.andThen_ok,getObj_run hg,Sem.run_pure,check_run hk,findKey_run hk hf]
 cases r with
 | none=>simp only [Sem.run_bind,hz,Result.andThen_ok,Sem.run_pure]; rfl
 | some p=>simp only [Sem.run_pure,Result.andThen_ok]; rfl
theorem setObj_run {P : Program} {b : Nat} {o : Obj} {es : Array MapEntry} {clock : Nat} {w : World} (hg : w.heap[b]? = some (.map es clock)) : (setObj b o).run P w = .ok () { w with heap:=w.heap.set! b o }:=by
 simp [setObj,Sem.run,hg]
theorem same_run {P : Program} {s : ByteArray} {w : World} : (Instr.keyThatStays (.string s) (.string s)).run P w = .ok (.string s) w:=by
 have hy : (s == s) = true:=(bytesB _ _).2 rfl
 unfold Instr.keyThatStays
 rw [if_pos (by rw [show (10000 : Nat) = 9999 + 1 from rfl]; simp only [Instr.sameBits]; exact hy)]
 rfl
def putO (es : Array MapEntry) (clock : Nat) (s : ByteArray) (v : Value) : Option (Nat × Value) → Obj
 | some p=>.map (es.modify p.1 fun e=>{ e with key:=.string s,val:=v }) clock
 | none=>.map (es.push { key:=.string s,val:=v,born:=clock }) (clock + 1)
theorem put_run {P : Program} {t kt e : TypeId} {s : ByteArray} {b : Nat} {es : Array MapEntry} {clock : Nat} {w : World} {v : Value} (hu : P.underlying t = some (.map kt e)) (hk : P.underlying kt = some .string) (hg : w.heap[b]? = some (.map es clock))
  {r : Option (Nat × Value)} (hf : Instr.findNow .string (.string s) es.toList 0 = some r) (hr : ∀ i x,r = some (i,x) → ∃ y c,es[i]? = some ⟨.string s,y,c⟩) : (Instr.mapUpdate t (.map (some b)) (.string s) v).run P w =
   .ok () { w with heap:=w.heap.set! b (putO es clock s v r) }:=by
 unfold Instr.mapUpdate
 simp only [Sem.run_bind,run_underlying hu,Result.andThen_ok,getObj_run hg,check_run hk,findKey_run hk hf]
 cases r with
 | none=>exact setObj_run hg
 | some p =>
  obtain ⟨i,x⟩:=p
  obtain ⟨y,c,hy⟩:=hr i x rfl
  simp only [hy,Option.map_some,Option.getD_some,Sem.run_bind,same_run,Result.andThen_ok]
  exact setObj_run hg
theorem rowCs_den {T : Tab} {w : World} {β : Nat → Option Nat} {A : Nat → Prop} {own : Own} {cts : List Ct} {r : List D} {vs : List Value} (h1 : r.length = cts.length) (h2 : vs.length = cts.length)
  (h3 : ∀ (j : Nat) ct v d,cts[j]? = some ct → vs[j]? = some v → r[j]? = some d → Rd T w A ct v d) : All2 (DenC T w β A own) (rowCs cts r) vs:=by
 refine All2.of_get (by simp [rowCs,h2]) fun j c v hc hv=>?_
 have hj : j < cts.length:=by
  have:=(List.getElem?_eq_some_iff.1 hv).1; omega
 unfold rowCs at hc
 rw [List.getElem?_map,List.getElem?_range hj] at hc
 simp only [Option.map_some,Option.some.injEq] at hc
 subst hc
 have e1 : cts[j]? = some cts[j]:=List.getElem?_eq_getElem hj
 have e2 : r[j]? = some r[j]:=List.getElem?_eq_getElem (by omega)
 have:=cOf_den (β:=β) (own:=own) (h3 j _ _ _ e1 hv e2)
 simpa [cellD,List.getD,e1,e2] using this
theorem keys_at {T : Tab} {w : World} {A : Nat → Prop} {t : TypeId} {l : List (ByteArray × List D)} {es : Array MapEntry} {clock : Nat} (h : MapRd T w A t l es clock) : es.toList.length = l.length ∧ ∀ (j : Nat) kr,l[j]? = some kr → ∃ v b,es.toList[j]? = some ⟨.string kr.1,v,b⟩:=by
 obtain ⟨c,h1,h2,h3,h4,h5⟩:=h
 refine ⟨by simpa using h2,fun j kr hj=>?_⟩
 obtain ⟨_,born,vs,h7,_⟩:=h5 j kr hj
 exact ⟨_,born,by simpa using h7⟩
theorem map_put {T : Tab} {w w' : World} {A A' : Nat → Prop} {t : TypeId} {l : List (ByteArray × List D)} {es : Array MapEntry} {clock : Nat} {s : ByteArray} {cts : List Ct} {ds : List D} {vs : List Value} (st : Stay w A w' A')
  (h : MapRd T w A t l es clock) (hc : T t = some (.rows cts)) (hd : ds.length = cts.length) (hv : vs.length = cts.length) (hr : ∀ (j : Nat) ct v d,cts[j]? = some ct → vs[j]? = some v → ds[j]? = some d → Rd T w A ct v d)
  {r : Option (Nat × Value)} (hf : Instr.findNow .string (.string s) es.toList 0 = some r) :
  ∃ es' clock',putO es clock s (.agg vs.toArray) r = .map es' clock' ∧ MapRd T w' A' t (putM s ds l) es' clock':=by
 obtain ⟨kl,kk⟩:=keys_at h
 have h':=h.stay st
 obtain ⟨c,h1,h2,h3,h4,h5⟩:=h'
 obtain rfl : c = cts:=by rw [hc] at h1; exact (El.rows.inj (Option.some.inj h1)).symm
 have hr' : ∀ (j : Nat) ct v d,c[j]? = some ct → vs[j]? = some v → ds[j]? = some d → Rd T w' A' ct v d:=fun j ct v d a b e=>(hr j ct v d a b e).stay st
 rcases findNow_str s l es.toList 0 kl kk with ⟨e1,e2,e3⟩ | ⟨j,kr,v,b,e1,e2,e3,e4,e5,e6⟩
 ·rw [hf] at e1
  obtain rfl:=Option.some.inj e1
  refine ⟨_,_,rfl,c,hc,by rw [e3]; simp [h2],?_,?_,?_⟩
  ·simp only [Array.toList_push,List.map_append,List.map_cons,List.map_nil]
   refine List.nodup_append.2 ⟨h3,by simp,?_⟩
   intro x hx y hy
   simp only [List.mem_cons,List.not_mem_nil,or_false] at hy
   subst hy
   obtain ⟨e,he,rfl⟩:=List.mem_map.1 hx
   have:=h4 e (by simpa using he)
   omega
  ·intro e he
   rcases Array.mem_push.1 he with he | rfl
   ·have:=h4 e he; omega
   exact Nat.lt_succ_self _
  intro i kr hi
  rw [e3] at hi
  by_cases hil : i < l.length
  ·rw [List.getElem?_append_left hil] at hi
   obtain ⟨q1,born,ws,q2,q3,q4⟩:=h5 i kr hi
   refine ⟨q1,born,ws,?_,q3,q4⟩
   rw [Array.getElem?_push,if_neg (by omega)]; exact q2
  rw [List.getElem?_append_right (by omega)] at hi
  have hi0 : i - l.length = 0:=by
   have:=(List.getElem?_eq_some_iff.1 hi).1
   simp at this; omega
  rw [hi0] at hi
  obtain rfl : (s,ds) = kr:=Option.some.inj hi
  refine ⟨hd,clock,vs,?_,hv,hr'⟩
  rw [Array.getElem?_push,if_pos (by omega)]
 rw [hf] at e1
 obtain rfl:=Option.some.inj e1
 simp only [Nat.zero_add]
 have hjs : j < es.size:=by
  have:=(List.getElem?_eq_some_iff.1 e3).1; simpa using this
 have hget : ∀ i,(es.modify j fun e=>{ e with key:=.string s,val:=.agg vs.toArray })[i]? = if j = i then some ⟨.string s,.agg vs.toArray,b⟩ else es[i]?:=by
  intro i
  rw [Array.getElem?_modify]
  split
  ·rename_i hh
   subst hh
   have e3' : es[j]? = some ⟨.string kr.1,v,b⟩:=by simpa using e3
   rw [e3']; rfl
  rfl
 have hborn : ((es.modify j fun e=>{ e with key:=.string s,val:=.agg vs.toArray }).toList.map (·.born)) = es.toList.map (·.born):=by
  refine List.ext_getElem? fun i=>?_
  simp only [List.getElem?_map,Array.getElem?_toList,hget]
  split
  ·rename_i hh
   subst hh
   have e3' : es[j]? = some ⟨.string kr.1,v,b⟩:=by simpa using e3
   rw [e3']; rfl
  rfl
 refine ⟨_,_,rfl,c,hc,by rw [e6]; simp [h2],by rw [hborn]; exact h3,?_,?_⟩
 ·intro e he
  have : e.born ∈ es.toList.map (·.born):=by rw [← hborn]; exact List.mem_map.2 ⟨e,(by first | exact Array.mem_toList_iff.2 he | exact Array.mem_toList.2 he | exact he.val),rfl⟩
  obtain ⟨e',he',h6⟩:=List.mem_map.1 this
  rw [← h6]; exact h4 e' (by simpa using he')
 intro i kr' hi
 rw [e6,List.getElem?_set] at hi
 rw [hget]
 split at hi
 ·rename_i hh
  subst hh
  rw [if_pos (by omega)] at hi
  obtain rfl : (s,ds) = kr':=Option.some.inj hi
  exact ⟨hd,b,vs,by rw [if_pos rfl],hv,hr'⟩
 rename_i hh
 rw [if_neg hh]
 exact h5 i kr' hi
end Sx
