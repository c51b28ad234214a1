/- Part of the proof: a machine of states for walks, and contracts of functions over it. Conditions: those that each theorem names. -/
import Derived.Test.YtcjdbimojffggaaGreatDoorC11
set_option linter.unusedVariables false
set_option linter.unusedSimpArgs false
namespace Sx
open Go Go.Proofs
set_option maxRecDepth 30000
variable {G : Glob}
inductive Typ (T : Tab) : Ct → D → Prop
 | int {k : IntKind} {n : Int} (h : k.min ≤ n ∧ n ≤ k.max) : Typ T (.int k) (.int n)
 | bool {b : Bool} : Typ T .bool (.bool b)
 | str {s : ByteArray} : Typ T .str (.str s)
 | ints {t : TypeId} {k : IntKind} {l : List Int} (h : T t = some (.ints k)) (hl : l.length ≤ 9223372036854775807) (hr : ∀ x ∈ l,k.min ≤ x ∧ x ≤ k.max) : Typ T (.sl t) (.ints l)
 | rows {t : TypeId} {c : List Ct} {l : List (List D)} (h : T t = some (.rows c)) (hl : l.length ≤ 9223372036854775807) (hn : ∀ r ∈ l,r.length = c.length)
   (hd : ∀ r ∈ l,∀ (j : Nat) ct d,c[j]? = some ct → r[j]? = some d → Typ T ct d) : Typ T (.sl t) (.rows l)
inductive Small : D → Prop
 | int {n : Int} : Small (.int n)
 | bool {b : Bool} : Small (.bool b)
 | str {s : ByteArray} : Small (.str s)
 | ints {l : List Int} : Small (.ints l)
 | rows {l : List (List D)} (h : l.length ≤ 30000) (hd : ∀ r ∈ l,∀ d ∈ r,Small d) : Small (.rows l)
theorem Typ.sl {T : Tab} {t : TypeId} {c : List Ct} {x : D} (h : Typ T (.sl t) x) (ht : T t = some (.rows c)) :
  ∃ l,x = .rows l ∧ l.length ≤ 9223372036854775807 ∧ ∀ r ∈ l,r.length = c.length ∧ ∀ (j : Nat) ct,c[j]? = some ct → Typ T ct (cellD r j):=by
 cases h with
 | ints h=>rw [ht] at h; cases h
 | rows h hl hn hd =>
  rw [ht] at h
  obtain rfl:=El.rows.inj (Option.some.inj h)
  refine ⟨_,rfl,hl,fun r hr=>⟨hn r hr,fun j ct hj=>?_⟩⟩
  have hlt:=(List.getElem?_eq_some_iff.1 hj).1
  have : j < r.length:=by rw [hn r hr]; exact hlt
  have hg:=List.getElem?_eq_getElem this
  refine hd r hr j ct _ hj ?_
  rw [hg]
  simp [cellD,List.getD,hg]
def tk (r n : Int) : Int:=if r < 0 ∨ n > r - 20 then -1 else r - n - 20
def takeS : List U → Out SV
 | [.c (.v (.int .i64 r)),.c (.v (.int .i64 n))]=>.need (-1 ≤ r ∧ r ≤ 1000000 ∧ 0 ≤ n) (one (I64 (tk r n)))
 | _=>.fail
theorem take_ok : Ok G 58 takeS:=by
 refine okP noneS Tryz.func58 rfl (by decide) fun K us hk=>?_
 unfold takeS at hk
 split at hk
 ·rename_i r n
  refine ⟨by show 2 ≤ _; decide,?_⟩
  obtain ⟨⟨h1,h2,h3⟩,hk⟩:=hk
  conv=>whnf
  refine Ask.i (fun c1=>?_) (fun c1=>?_)
  ·have c1 : r < 0:=of_decide_eq_true c1
   conv=>whnf
   refine fin hk ?_
   rw [show tk r n = -1 by simp [tk,c1]]
   try rfl
  have c1 : ¬ r < 0:=of_decide_eq_false c1
  have hw : w64 (r - 20) = r - 20:=w64_eq (by omega)
  conv=>whnf
  refine Ask.i (fun c2=>?_) (fun c2=>?_)
  ·have c2 : n > w64 (r - 20):=of_decide_eq_true c2
   conv=>whnf
   refine fin hk ?_
   rw [show tk r n = -1 by rw [hw] at c2; simp [tk,c2]]
   try rfl
  have c2 : ¬ n > w64 (r - 20):=of_decide_eq_false c2
  conv=>whnf
  refine fin hk ?_
  rw [hw] at c2
  have e : w64 (w64 (r - n) - 20) = tk r n:=by
   rw [w64_eq (n:=r - n) (by omega),w64_eq (by omega),tk,if_neg (by omega)]
  exact congrArg (fun z=>SV.u (.c (I64 z))) e.symm
 exact hk.elim
theorem tk_spec {r n : Int} (h : -1 ≤ r) (hn : 0 ≤ n) : -1 ≤ tk r n ∧ (tk r n ≤ r ∨ tk r n = -1) ∧ (0 ≤ tk r n → 0 ≤ r ∧ tk r n = r - n - 20):=by
 unfold tk
 split <;> omega
def left (r : Int) (P : Prop) : Out SV:=.all Int (fun x=>-1 ≤ x ∧ (0 ≤ x → x ≤ r ∧ P)) ⟨-1,by omega,by omega⟩ fun x=>one (I64 x)
def rvS (d : Int) : List U → Out SV
 | [.a [.v (.int .i64 _),.v (.string _),.v (.bool _),.v (.int .u64 _),.d 161 x,.d 30 m,.v (.string _),.v (.string _)],.c (.v (.int .i64 deep)),.c (.v (.int .i64 r))] =>
  .need (Typ TB (.sl 161) x ∧ Typ TB (.sl 30) m ∧ -10 ≤ deep ∧ deep < d ∧ deep ≤ 1000 ∧ -1 ≤ r ∧ r ≤ 30000) (left (r - 60) (Small x ∧ Small m))
 | _=>.fail
def rkS (d : Int) : List U → Out SV
 | [.c (.d 30 m),.c (.v (.int .i64 deep)),.c (.v (.int .i64 r))] =>
  .need (Typ TB (.sl 30) m ∧ -10 ≤ deep ∧ deep < d ∧ deep ≤ 1000 ∧ -1 ≤ r ∧ r ≤ 30000) (left r (Small m))
 | _=>.fail
noncomputable def s7 (d : Int) : List (FuncId × Spec):=[(58,.pure (normG (B []) [3,3] takeS)),(90,.pure (normG (B []) [163,3,3] (rvS d)))]
theorem s7_ok {d : Int} (h : Ok G 90 (rvS d)) : AllSound (B (s7 d)) G:=.cons _ take_ok (.cons _ h noneS)
theorem roomKeys_ok {d : Int} (h : Ok G 90 (rvS d)) : Ok G 57 (rkS d):=by
 refine okP (s7_ok h) Tryz.func57 rfl (by decide) fun K us hk=>?_
 unfold rkS at hk
 split at hk
 ·rename_i m deep r
  refine ⟨by show 3 ≤ _; decide,?_⟩
  obtain ⟨⟨hm,hd1,hd2,hd3,hr1,hr2⟩,hk⟩:=hk
  have hk : ∀ x : Int,(-1 ≤ x ∧ (0 ≤ x → x ≤ r ∧ Small m)) → K (.u (.c (I64 x))):=hk
  obtain ⟨l,rfl,hl,hrow⟩:=hm.sl rfl
  have hlen : ∀ row ∈ l,row.length = 11:=fun row hr=>(hrow row hr).1
  conv=>whnf
  refine Ask.i (fun c1=>?_) (fun c1=>?_)
  ·conv=>whnf
   refine Ask.i (fun c2=>?_) (fun c2=>?_)
   ·conv=>whnf
    exact hk (-1) ⟨by omega,by omega⟩
   have c2 : ¬ ((l.length : Nat) : Int) > 0:=of_decide_eq_false c2
   have : l = []:=List.length_eq_zero_iff.1 (by omega)
   subst this
   conv=>whnf
   refine ⟨[],_,_,rfl,Unit,(fun _=>([(0,.u (.c (.d 30 (.rows [])))),(2,.u (.c (I64 r))),(7,.u (.c (I64 0)))],[])),(fun _=>True),(fun _=>0),fun x _=>rfl,⟨(),trivial,⟨rfl,rfl,rfl,trivial⟩,trivial⟩,?_⟩
   rintro _ _;conv=>whnf
   exact hk r ⟨hr1,fun _=>⟨by omega,.rows (by simp) (fun r hr=>by cases hr)⟩⟩
  conv=>whnf
  refine ⟨[],_,_,rfl,Nat × Int,(fun y=>([(0,.u (.c (.d 30 (.rows l)))),(1,.u (.c (I64 deep))),(2,.u (.c (I64 y.2))),(7,.u (.c (I64 (y.1 : Nat))))],[])),
   (fun y=>y.1 ≤ l.length ∧ -1 ≤ y.2 ∧ y.2 ≤ 30000 ∧ (0 ≤ y.2 → y.2 + y.1 ≤ r ∧ ∀ row ∈ l.take y.1,∀ d ∈ row,Small d)),(fun y=>l.length - y.1),fun x _=>rfl,⟨(0,r),⟨Nat.zero_le _,hr1,hr2,fun _=>⟨by show r + ((0 : Nat) : Int) ≤ r; omega,fun row hr=>by simp at hr⟩⟩,⟨rfl,rfl,rfl,rfl,trivial⟩,trivial⟩,?_⟩
  rintro ⟨i,r1⟩ ⟨p1,p2,p3,p4⟩
  simp only at p1 p2 p3 p4
  conv=>whnf
  refine Ask.i (fun c2=>?_) (fun c2=>?_)
  ·have c2 : (i : Int) < ((l.length : Nat) : Int):=of_decide_eq_true c2
   have hi : i < l.length:=by omega
   have hb : (0 : Int) ≤ (i : Int) ∧ (i : Int) < ((l.length : Nat) : Int):=⟨by omega,c2⟩
   conv=>whnf
   refine Ask.i (fun c3=>?_) (fun c3=>?_)
   ·have c3 : r1 ≥ 0:=of_decide_eq_true c3
    have hmem : l.getD i [] ∈ l:=by rw [List.getD_eq_getElem?_getD,List.getElem?_eq_getElem hi]; exact List.getElem_mem hi
    have hR:=hrow _ hmem
    generalize hrw : l.getD i [] = row at hmem hR
    conv=>whnf
    refine ⟨mixed,[],[],[],by kernel_rfl,?_⟩;conv=>whnf
    refine ⟨hb,?_⟩;conv=>whnf
    refine ⟨⟨by omega,by show r1 ≤ _; omega,Int.natCast_nonneg _⟩,?_⟩;conv=>whnf
    refine ⟨hb,?_⟩;conv=>whnf
    have t1:=tk_spec (r:=r1) (n:=((cellD (l.getD i []) 0).toStr.size : Nat)) (by omega) (Int.natCast_nonneg _)
    refine ⟨⟨t1.1,by show tk r1 ((cellD (l.getD i []) 0).toStr.size : Nat) ≤ _; omega,Int.natCast_nonneg _⟩,?_⟩;conv=>whnf
    refine ⟨hb,?_⟩;conv=>whnf
    have t2:=tk_spec (r:=tk r1 ((cellD (l.getD i []) 0).toStr.size : Nat)) (n:=((cellD (l.getD i []) 10).toStr.size : Nat)) t1.1 (Int.natCast_nonneg _)
    have ty6 : Typ TB (.sl 161) (cellD (l.getD i []) 6):=by rw [hrw]; exact hR.2 6 _ rfl
    have ty7 : Typ TB (.sl 30) (cellD (l.getD i []) 7):=by rw [hrw]; exact hR.2 7 _ rfl
    refine ⟨⟨ty6,ty7,hd1,hd2,hd3,t2.1,?_⟩,?_⟩
    ·show tk (tk r1 ((cellD (l.getD i []) 0).toStr.size : Nat)) ((cellD (l.getD i []) 10).toStr.size : Nat) ≤ 30000
     omega
    conv=>whnf
    rintro x ⟨x1,x2⟩
    have x2 : 0 ≤ x → x ≤ tk (tk r1 ((cellD (l.getD i []) 0).toStr.size : Nat)) ((cellD (l.getD i []) 10).toStr.size : Nat) - 60 ∧ Small (cellD (l.getD i []) 6) ∧ Small (cellD (l.getD i []) 7):=x2;conv=>whnf
    refine ⟨(i + 1,x),⟨hi,x1,?_,?_⟩,?_,⟨rfl,rfl,rfl,?_,trivial⟩,trivial⟩
    ·simp only; omega
    ·intro h0
     simp only at h0
     obtain ⟨x3,x4,x5⟩:=x2 h0
     have h2:=t2.2.2 (by omega)
     have h1:=t1.2.2 (by omega)
     refine ⟨by simp only; omega,?_⟩
     rw [List.take_succ_eq_append_getElem hi]
     intro row' hrow' d' hd'
     rcases List.mem_append.1 hrow' with hh | hh
     ·exact (p4 (by omega)).2 row' hh d' hd'
     have e : l[i] = row:=by rw [← hrw,List.getD_eq_getElem?_getD,List.getElem?_eq_getElem hi]; rfl
     simp only [List.mem_cons,List.not_mem_nil,or_false] at hh
     rw [hh,e] at hd'
     rw [hrw] at x4 x5
     obtain ⟨j,hj,rfl⟩:=List.getElem_of_mem hd'
     have hl11:=hlen row hmem
     have e2 : row[j] = cellD row j:=by simp [cellD,List.getD,hj]
     rw [e2]
     have hj : j < 11:=by omega
     have sc : ∀ {ct d},Typ TB ct d → (∀ t,ct ≠ .sl t) → Small d:=by
      intro ct d h hn
      cases h with
      | int _=>exact .int
      | bool=>exact .bool
      | str=>exact .str
      | ints=>exact absurd rfl (hn _)
      | rows=>exact absurd rfl (hn _)
     match j,hj with
     | 0,_=>exact sc (hR.2 0 _ rfl) (fun t h=>by cases h)
     | 1,_=>exact sc (hR.2 1 _ rfl) (fun t h=>by cases h)
     | 2,_=>exact sc (hR.2 2 _ rfl) (fun t h=>by cases h)
     | 3,_=>exact sc (hR.2 3 _ rfl) (fun t h=>by cases h)
     | 4,_=>exact sc (hR.2 4 _ rfl) (fun t h=>by cases h)
     | 5,_=>exact sc (hR.2 5 _ rfl) (fun t h=>by cases h)
     | 6,_=>exact x4
     | 7,_=>exact x5
     | 8,_=>exact sc (hR.2 8 _ rfl) (fun t h=>by cases h)
     | 9,_=>exact sc (hR.2 9 _ rfl) (fun t h=>by cases h)
     | 10,_=>exact sc (hR.2 10 _ rfl) (fun t h=>by cases h)
     | j + 11,h=>omega
    ·simp only; omega
    exact congrArg (fun z : Int=>some (SV.u (.c (I64 z)))) (w64_eq (n:=(i : Int) + 1) (by omega))
   have c3 : ¬ r1 ≥ 0:=of_decide_eq_false c3
   conv=>whnf
   exact hk r1 ⟨p2,fun h0=>by omega⟩
  have c2 : ¬ (i : Int) < ((l.length : Nat) : Int):=of_decide_eq_false c2
  have hi : i = l.length:=by omega
  conv=>whnf
  refine hk r1 ⟨p2,fun h0=>?_⟩
  obtain ⟨q1,q2⟩:=p4 h0
  rw [hi,List.take_length] at q2
  exact ⟨by omega,.rows (by omega) q2⟩
 exact hk.elim
end Sx
namespace Sx
open Go Go.Proofs
set_option maxRecDepth 30000
variable {G : Glob}
theorem Typ.scal {T : Tab} {ct : Ct} {d : D} (h : Typ T ct d) (hn : ∀ t,ct ≠ .sl t) : Small d:=by
 cases h with
 | int _=>exact .int
 | bool=>exact .bool
 | str=>exact .str
 | ints=>exact absurd rfl (hn _)
 | rows=>exact absurd rfl (hn _)
theorem getD_mem {α : Type} {l : List α} {i : Nat} {a : α} (h : i < l.length) : l.getD i a ∈ l:=by rw [List.getD_eq_getElem?_getD,List.getElem?_eq_getElem h]; exact List.getElem_mem h
theorem getD_get {α : Type} {l : List α} {i : Nat} {a : α} (h : i < l.length) : l.getD i a = l[i]:=by rw [List.getD_eq_getElem?_getD,List.getElem?_eq_getElem h]; rfl
theorem row_small {row : List D} {n : Nat} (hn : row.length = n) (h : ∀ j,j < n → Small (cellD row j)) : ∀ d ∈ row,Small d:=by
 intro d hd
 obtain ⟨j,hj,rfl⟩:=List.getElem_of_mem hd
 have:=h j (by omega)
 simpa [cellD,List.getD,hj] using this
theorem take_succ_all {α : Type} {l : List α} {i : Nat} {a : α} {P : α → Prop} (hi : i < l.length) (h : ∀ x ∈ l.take i,P x) (h2 : P (l.getD i a)) : ∀ x ∈ l.take (i + 1),P x:=by
 rw [List.take_succ_eq_append_getElem hi]
 intro x hx
 rcases List.mem_append.1 hx with hh | hh
 ·exact h x hh
 simp only [List.mem_cons,List.not_mem_nil,or_false] at hh
 rw [hh,← getD_get (a:=a) hi]
 exact h2
noncomputable def s8 (d : Int) : List (FuncId × Spec):=(57,.pure (normG (B []) [30,3,3] (rkS d))) :: s7 d
theorem s8_ok {d : Int} (h : Ok G 90 (rvS d)) : AllSound (B (s8 d)) G:=.cons _ (roomKeys_ok h) (s7_ok h)
theorem roomValue_step {d : Int} (h : Ok G 90 (rvS d)) : Ok G 90 (rvS (d + 1)):=by
 refine okP (s8_ok h) Tryz.func90 rfl (by decide) fun K us hk=>?_
 unfold rvS at hk
 split at hk
 ·rename_i kd st bo nn x m inn unk deep r
  refine ⟨by show 3 ≤ _; decide,?_⟩
  obtain ⟨⟨hx,hm,hd1,hd2,hd3,hr1,hr2⟩,hk⟩:=hk
  have hk : ∀ z : Int,(-1 ≤ z ∧ (0 ≤ z → z ≤ r - 60 ∧ Small x ∧ Small m)) → K (.u (.c (I64 z))):=hk
  obtain ⟨l,rfl,hl,hrow⟩:=hx.sl rfl
  have hlen : ∀ row ∈ l,row.length = 8:=fun row hr=>(hrow row hr).1
  conv=>whnf
  refine Ask.i (fun c1=>?_) (fun c1=>?_)
  ·conv=>whnf
   exact hk (-1) ⟨by omega,by omega⟩
  have c1 : ¬ deep < 0:=of_decide_eq_false c1
  have hdw : w64 (deep - 1) = deep - 1:=w64_eq (by omega)
  conv=>whnf
  refine ⟨mixed,[],[],[],by kernel_rfl,?_⟩;conv=>whnf
  refine ⟨⟨hr1,by omega,Int.natCast_nonneg _⟩,?_⟩;conv=>whnf
  have t1:=tk_spec (r:=r) (n:=(st.size : Nat)) hr1 (Int.natCast_nonneg _)
  refine ⟨⟨t1.1,by show tk r (st.size : Nat) ≤ _; omega,Int.natCast_nonneg _⟩,?_⟩;conv=>whnf
  have t2:=tk_spec (r:=tk r (st.size : Nat)) (n:=(inn.size : Nat)) t1.1 (Int.natCast_nonneg _)
  refine ⟨⟨t2.1,by show tk (tk r (st.size : Nat)) (inn.size : Nat) ≤ _; omega,Int.natCast_nonneg _⟩,?_⟩;conv=>whnf
  have t3:=tk_spec (r:=tk (tk r (st.size : Nat)) (inn.size : Nat)) (n:=(unk.size : Nat)) t2.1 (Int.natCast_nonneg _)
  generalize hq : tk (tk (tk r (st.size : Nat)) (inn.size : Nat)) (unk.size : Nat) = q at t3
  have hq1 : -1 ≤ q ∧ (0 ≤ q → q ≤ r - 60):=⟨t3.1,fun h0=>by have:=t3.2.2 h0; have:=t2.2.2 (by omega); have:=t1.2.2 (by omega); omega⟩
  refine ⟨[],_,_,rfl,Nat × Int,(fun y=>([(1,.u (.c (I64 deep))),(2,.u (.c (I64 y.2))),(3,.u (.c (.p 3 0))),(7,.u (.c (I64 (y.1 : Nat))))],[(3,.cells 163 [I64 kd,St st,Bo bo,U64 nn,.d 161 (.rows l),.d 30 m,St inn,St unk])])),
   (fun y=>y.1 ≤ l.length ∧ -1 ≤ y.2 ∧ y.2 ≤ 30000 ∧ (0 ≤ y.2 → y.2 + y.1 ≤ r - 60 ∧ ∀ row ∈ l.take y.1,∀ d ∈ row,Small d)),(fun y=>l.length - y.1),fun x _=>rfl,⟨(0,q),⟨Nat.zero_le _,hq1.1,by show q ≤ 30000; omega,fun h0=>⟨by have:=hq1.2 h0; simp only at *; omega,fun row hr=>by simp at hr⟩⟩,⟨rfl,rfl,rfl,rfl,trivial⟩,⟨rfl,trivial⟩⟩,?_⟩
  rintro ⟨i,r1⟩ ⟨p1,p2,p3,p4⟩
  simp only at p1 p2 p3 p4
  conv=>whnf
  have tail : i = l.length ∨ ¬ r1 ≥ 0 → ∀ z : Int,(-1 ≤ z ∧ (0 ≤ z → z ≤ r1 ∧ Small m)) → K (.u (.c (I64 z))):=by
   intro hor z hz
   refine hk z ⟨hz.1,fun h0=>?_⟩
   obtain ⟨z1,z2⟩:=hz.2 h0
   obtain ⟨q1,q2⟩:=p4 (by omega)
   have hi : i = l.length:=hor.resolve_right (by omega)
   rw [hi,List.take_length] at q2
   exact ⟨by omega,.rows (by omega) q2,z2⟩
  have need : Typ TB (.sl 30) m ∧ -10 ≤ w64 (deep - 1) ∧ w64 (deep - 1) < d ∧ w64 (deep - 1) ≤ 1000 ∧ -1 ≤ r1 ∧ r1 ≤ 30000:=⟨hm,by omega,by omega,by omega,p2,p3⟩
  refine Ask.i (fun c2=>?_) (fun c2=>?_)
  ·have c2 : (i : Int) < ((l.length : Nat) : Int):=of_decide_eq_true c2
   have hi : i < l.length:=by omega
   have hb : (0 : Int) ≤ (i : Int) ∧ (i : Int) < ((l.length : Nat) : Int):=⟨by omega,c2⟩
   conv=>whnf
   refine Ask.i (fun c3=>?_) (fun c3=>?_)
   ·have c3 : r1 ≥ 0:=of_decide_eq_true c3
    have hR:=hrow _ (getD_mem (a:=[]) hi)
    conv=>whnf
    refine ⟨hb,?_⟩;conv=>whnf
    refine ⟨⟨hR.2 4 _ rfl,hR.2 5 _ rfl,by show -10 ≤ w64 (deep - 1); omega,by show w64 (deep - 1) < d; omega,by show w64 (deep - 1) ≤ 1000; omega,p2,p3⟩,?_⟩;conv=>whnf
    rintro z ⟨z1,z2⟩
    have z2 : 0 ≤ z → z ≤ r1 - 60 ∧ Small (cellD (l.getD i []) 4) ∧ Small (cellD (l.getD i []) 5):=z2;conv=>whnf
    refine ⟨(i + 1,z),⟨hi,z1,?_,?_⟩,?_,⟨rfl,rfl,rfl,?_,trivial⟩,⟨rfl,trivial⟩⟩
    ·by_cases h0 : 0 ≤ z
     ·have:=z2 h0; simp only; omega
     simp only; omega
    ·intro h0
     simp only at h0
     obtain ⟨z3,z4,z5⟩:=z2 h0
     refine ⟨by simp only; have:=(p4 (by omega)).1; omega,?_⟩
     refine take_succ_all (a:=[]) hi (p4 (by omega)).2 (row_small (n:=8) (hlen _ (getD_mem hi)) fun j hj=>?_)
     match j,hj with
     | 0,_=>exact (hR.2 0 _ rfl).scal fun t h=>by cases h
     | 1,_=>exact (hR.2 1 _ rfl).scal fun t h=>by cases h
     | 2,_=>exact (hR.2 2 _ rfl).scal fun t h=>by cases h
     | 3,_=>exact (hR.2 3 _ rfl).scal fun t h=>by cases h
     | 4,_=>exact z4
     | 5,_=>exact z5
     | 6,_=>exact (hR.2 6 _ rfl).scal fun t h=>by cases h
     | 7,_=>exact (hR.2 7 _ rfl).scal fun t h=>by cases h
     | j + 8,h=>omega
    ·simp only; omega
    exact congrArg (fun z : Int=>some (SV.u (.c (I64 z)))) (w64_eq (n:=(i : Int) + 1) (by omega))
   have c3 : ¬ r1 ≥ 0:=of_decide_eq_false c3
   conv=>whnf
   refine ⟨need,?_⟩;conv=>whnf
   intro z hz;conv=>whnf
   exact tail (.inr c3) z hz
  have c2 : ¬ (i : Int) < ((l.length : Nat) : Int):=of_decide_eq_false c2
  conv=>whnf
  refine ⟨need,?_⟩;conv=>whnf
  intro z hz;conv=>whnf
  exact tail (.inl (by omega)) z hz
 exact hk.elim
theorem roomValue_all : ∀ n : Nat,Ok G 90 (rvS (-10 + n))
 | 0=>by
  refine okP noneS Tryz.func90 rfl (by decide) fun K us hk=>?_
  unfold rvS at hk
  split at hk
  ·obtain ⟨⟨_,_,h1,h2,_⟩,_⟩:=hk
   simp only [Int.natCast_zero] at h2
   omega
  exact hk.elim
 | n + 1=>by
  have:=roomValue_step (roomValue_all n)
  have e : (-10 : Int) + (n + 1 : Nat) = -10 + n + 1:=by omega
  rw [e]
  exact this
theorem roomValue_ok : Ok G 90 (rvS 100):=roomValue_all 110
theorem roomKeys_ok' : Ok G 57 (rkS 100):=roomKeys_ok roomValue_ok
end Sx
namespace Sx
open Go Go.Proofs
set_option maxRecDepth 30000
variable {G : Glob}
noncomputable def t1s : List (FuncId × Spec):=[(58,.pure (normG (B []) [3,3] takeS)),(57,.pure (normG (B []) [30,3,3] (rkS 100)))]
theorem t1s_ok : AllSound (B t1s) G:=.cons _ take_ok (.cons _ roomKeys_ok' noneS)
def rbS : List U → Out SV
 | [.a [.v (.int .i32 _),.d 38 (.ints l),.v (.string _)],.c (.v (.int .i64 r))]=>.need (l.length ≤ 9223372036854775807 ∧ -1 ≤ r ∧ r ≤ 30000) (left (r - 40) (l.length ≤ 3750))
 | _=>.fail
theorem roomBuckets_ok : Ok G 61 rbS:=by
 refine okP t1s_ok Tryz.func61 rfl (by decide) fun K us hk=>?_
 unfold rbS at hk
 split at hk
 ·rename_i f l s r
  refine ⟨by show 2 ≤ _; decide,?_⟩
  obtain ⟨⟨hl,h1,h2⟩,hk⟩:=hk
  have hk : ∀ z : Int,(-1 ≤ z ∧ (0 ≤ z → z ≤ r - 40 ∧ l.length ≤ 3750)) → K (.u (.c (I64 z))):=hk;conv=>whnf
  refine ⟨mixed,[],[],[],by kernel_rfl,?_⟩;conv=>whnf
  refine ⟨⟨h1,by omega,Int.natCast_nonneg _⟩,?_⟩;conv=>whnf
  have t1:=tk_spec (r:=r) (n:=(s.size : Nat)) h1 (Int.natCast_nonneg _)
  have hm : (0 : Int) ≤ (if (100000 : Int) < (l.length : Nat) then 100000 else ((l.length : Nat) : Int)) ∧ (if (100000 : Int) < (l.length : Nat) then 100000 else ((l.length : Nat) : Int)) ≤ 100000 ∧ ((if (100000 : Int) < (l.length : Nat) then 100000 else ((l.length : Nat) : Int)) ≤ 3750 → l.length ≤ 3750):=by split <;> omega
  have e : w64 (8 * (if (100000 : Int) < (l.length : Nat) then 100000 else ((l.length : Nat) : Int))) = 8 * (if (100000 : Int) < (l.length : Nat) then 100000 else ((l.length : Nat) : Int)):=w64_eq (by omega)
  refine ⟨⟨t1.1,by show tk r (s.size : Nat) ≤ _; omega,by show 0 ≤ w64 (8 * (if (100000 : Int) < (l.length : Nat) then 100000 else ((l.length : Nat) : Int))); omega⟩,?_⟩;conv=>whnf
  have t2:=tk_spec (r:=tk r (s.size : Nat)) (n:=w64 (8 * (if (100000 : Int) < (l.length : Nat) then 100000 else ((l.length : Nat) : Int)))) t1.1 (by omega)
  exact hk (tk (tk r (s.size : Nat)) (w64 (8 * (if (100000 : Int) < (l.length : Nat) then 100000 else ((l.length : Nat) : Int))))) ⟨t2.1,fun h0=>by have:=t2.2.2 h0; have:=t1.2.2 (by omega); exact ⟨by omega,hm.2.2 (by omega)⟩⟩
 exact hk.elim
def reS : List U → Out SV
 | [.c (.d 32 m),.c (.v (.int .i64 r))]=>.need (Typ TB (.sl 32) m ∧ -1 ≤ r ∧ r ≤ 30000) (left r (Small m))
 | _=>.fail
theorem roomExemplars_ok : Ok G 56 reS:=by
 refine okP t1s_ok Tryz.func56 rfl (by decide) fun K us hk=>?_
 unfold reS at hk
 split at hk
 ·rename_i m r
  refine ⟨by show 2 ≤ _; decide,?_⟩
  obtain ⟨⟨hm,hr1,hr2⟩,hk⟩:=hk
  have hk : ∀ x : Int,(-1 ≤ x ∧ (0 ≤ x → x ≤ r ∧ Small m)) → K (.u (.c (I64 x))):=hk
  obtain ⟨l,rfl,hl,hrow⟩:=hm.sl rfl
  have hlen : ∀ row ∈ l,row.length = 7:=fun row hr=>(hrow row hr).1
  conv=>whnf
  refine ⟨[],_,_,rfl,Nat × Int,(fun y=>([(0,.u (.c (.d 32 (.rows l)))),(1,.u (.c (I64 y.2))),(5,.u (.c (I64 (y.1 : Nat))))],[])),
   (fun y=>y.1 ≤ l.length ∧ -1 ≤ y.2 ∧ y.2 ≤ 30000 ∧ (0 ≤ y.2 → y.2 + y.1 ≤ r ∧ ∀ row ∈ l.take y.1,∀ d ∈ row,Small d)),(fun y=>l.length - y.1),fun x _=>rfl,⟨(0,r),⟨Nat.zero_le _,hr1,hr2,fun _=>⟨by show r + ((0 : Nat) : Int) ≤ r; omega,fun row hr=>by simp at hr⟩⟩,⟨rfl,rfl,rfl,trivial⟩,trivial⟩,?_⟩
  rintro ⟨i,r1⟩ ⟨p1,p2,p3,p4⟩
  simp only at p1 p2 p3 p4
  conv=>whnf
  refine Ask.i (fun c2=>?_) (fun c2=>?_)
  ·have c2 : (i : Int) < ((l.length : Nat) : Int):=of_decide_eq_true c2
   have hi : i < l.length:=by omega
   have hb : (0 : Int) ≤ (i : Int) ∧ (i : Int) < ((l.length : Nat) : Int):=⟨by omega,c2⟩
   conv=>whnf
   refine Ask.i (fun c3=>?_) (fun c3=>?_)
   ·have c3 : r1 ≥ 0:=of_decide_eq_true c3
    have hR:=hrow _ (getD_mem (a:=[]) hi)
    conv=>whnf
    refine ⟨hb,?_⟩;conv=>whnf
    refine ⟨mixed,[],[],[],by kernel_rfl,?_⟩;conv=>whnf
    refine ⟨⟨p2,by show r1 ≤ _; omega,Int.natCast_nonneg _⟩,?_⟩
    have t1:=tk_spec (r:=r1) (n:=((cellD (l.getD i []) 4).toStr.size : Nat)) p2 (Int.natCast_nonneg _)
    conv=>whnf
    refine ⟨⟨t1.1,by show tk r1 ((cellD (l.getD i []) 4).toStr.size : Nat) ≤ _; omega,Int.natCast_nonneg _⟩,?_⟩
    have t2:=tk_spec (r:=tk r1 ((cellD (l.getD i []) 4).toStr.size : Nat)) (n:=((cellD (l.getD i []) 5).toStr.size : Nat)) t1.1 (Int.natCast_nonneg _)
    conv=>whnf
    refine ⟨⟨t2.1,by show tk (tk r1 ((cellD (l.getD i []) 4).toStr.size : Nat)) ((cellD (l.getD i []) 5).toStr.size : Nat) ≤ _; omega,Int.natCast_nonneg _⟩,?_⟩
    have t3:=tk_spec (r:=tk (tk r1 ((cellD (l.getD i []) 4).toStr.size : Nat)) ((cellD (l.getD i []) 5).toStr.size : Nat)) (n:=((cellD (l.getD i []) 6).toStr.size : Nat)) t2.1 (Int.natCast_nonneg _)
    conv=>whnf
    refine ⟨⟨hR.2 0 _ rfl,by decide,by decide,by decide,t3.1,?_⟩,?_⟩
    ·show tk (tk (tk r1 ((cellD (l.getD i []) 4).toStr.size : Nat)) ((cellD (l.getD i []) 5).toStr.size : Nat)) ((cellD (l.getD i []) 6).toStr.size : Nat) ≤ 30000
     omega
    conv=>whnf
    rintro z ⟨z1,z2⟩
    have z2 : 0 ≤ z → z ≤ tk (tk (tk r1 ((cellD (l.getD i []) 4).toStr.size : Nat)) ((cellD (l.getD i []) 5).toStr.size : Nat)) ((cellD (l.getD i []) 6).toStr.size : Nat) ∧ Small (cellD (l.getD i []) 0):=z2;conv=>whnf
    refine ⟨(i + 1,z),⟨hi,z1,?_,?_⟩,?_,⟨rfl,rfl,?_,trivial⟩,trivial⟩
    ·by_cases h0 : 0 ≤ z
     ·have:=z2 h0; simp only; omega
     simp only; omega
    ·intro h0
     simp only at h0
     obtain ⟨z3,z4⟩:=z2 h0
     have:=t3.2.2 (by omega)
     have:=t2.2.2 (by omega)
     have:=t1.2.2 (by omega)
     refine ⟨by simp only; have:=(p4 (by omega)).1; omega,?_⟩
     refine take_succ_all (a:=[]) hi (p4 (by omega)).2 (row_small (n:=7) (hlen _ (getD_mem hi)) fun j hj=>?_)
     match j,hj with
     | 0,_=>exact z4
     | 1,_=>exact (hR.2 1 _ rfl).scal fun t h=>by cases h
     | 2,_=>exact (hR.2 2 _ rfl).scal fun t h=>by cases h
     | 3,_=>exact (hR.2 3 _ rfl).scal fun t h=>by cases h
     | 4,_=>exact (hR.2 4 _ rfl).scal fun t h=>by cases h
     | 5,_=>exact (hR.2 5 _ rfl).scal fun t h=>by cases h
     | 6,_=>exact (hR.2 6 _ rfl).scal fun t h=>by cases h
     | j + 7,h=>omega
    ·simp only; omega
    exact congrArg (fun z : Int=>some (SV.u (.c (I64 z)))) (w64_eq (n:=(i : Int) + 1) (by omega))
   have c3 : ¬ r1 ≥ 0:=of_decide_eq_false c3
   conv=>whnf
   exact hk r1 ⟨p2,fun h0=>by omega⟩
  have c2 : ¬ (i : Int) < ((l.length : Nat) : Int):=of_decide_eq_false c2
  have hi : i = l.length:=by omega
  conv=>whnf
  refine hk r1 ⟨p2,fun h0=>?_⟩
  obtain ⟨q1,q2⟩:=p4 h0
  rw [hi,List.take_length] at q2
  exact ⟨by omega,.rows (by omega) q2⟩
 exact hk.elim
end Sx
namespace Sx
open Go Go.Proofs
set_option maxRecDepth 30000
variable {G : Glob}
structure ExpD where
 attrs : D
 start : Int
 time : Int
 count : Int
 sumH : Bool
 sum : Int
 minH : Bool
 min : Int
 maxH : Bool
 max : Int
 scale : Int
 zero : Int
 hasP : Bool
 offP : Int
 cP : List Int
 unkP : ByteArray
 hasN : Bool
 offN : Int
 cN : List Int
 unkN : ByteArray
 ex : D
 flags : Int
 thr : Int
 unk : ByteArray
def ExpD.cells (e : ExpD) : List C:=[.d 30 e.attrs,U64 e.start,U64 e.time,U64 e.count,Bo e.sumH,U64 e.sum,Bo e.minH,U64 e.min,Bo e.maxH,U64 e.max,I32 e.scale,U64 e.zero,Bo e.hasP,I32 e.offP,.d 38 (.ints e.cP),St e.unkP,Bo e.hasN,I32 e.offN,.d 38 (.ints e.cN),St e.unkN,.d 32 e.ex,U32 e.flags,U64 e.thr,St e.unk]
def asExp : List C → Option ExpD
 | .d 30 attrs :: .v (.int .u64 start) :: .v (.int .u64 time) :: .v (.int .u64 count) :: r1=>match r1 with
  | .v (.bool sumH) :: .v (.int .u64 sum) :: .v (.bool minH) :: .v (.int .u64 min) :: .v (.bool maxH) :: .v (.int .u64 max) :: r2=>match r2 with
   | .v (.int .i32 scale) :: .v (.int .u64 zero) :: .v (.bool hasP) :: .v (.int .i32 offP) :: .d 38 (.ints cP) :: .v (.string unkP) :: r3=>match r3 with
    | .v (.bool hasN) :: .v (.int .i32 offN) :: .d 38 (.ints cN) :: .v (.string unkN) :: r4=>match r4 with
     | [.d 32 ex,.v (.int .u32 flags),.v (.int .u64 thr),.v (.string unk)]=>some ⟨attrs,start,time,count,sumH,sum,minH,min,maxH,max,scale,zero,hasP,offP,cP,unkP,hasN,offN,cN,unkN,ex,flags,thr,unk⟩
     | _=>none
    | _=>none
   | _=>none
  | _=>none
 | _=>none
theorem asExp_eq {l : List C} {e : ExpD} (h : asExp l = some e) : l = e.cells:=by
 unfold asExp at h
 split at h
 ·split at h
  ·split at h
   ·split at h
    ·split at h
     ·obtain rfl:=Option.some.inj h; rfl
     cases h
    cases h
   cases h
  cases h
 cases h
structure ExpD.Typ (e : ExpD) : Prop where
 attrs : Sx.Typ TB (.sl 30) e.attrs
 ex : Sx.Typ TB (.sl 32) e.ex
 lP : e.cP.length ≤ 9223372036854775807
 lN : e.cN.length ≤ 9223372036854775807
 sc : -2147483648 ≤ e.scale ∧ e.scale < 2147483648
 oP : -2147483648 ≤ e.offP ∧ e.offP < 2147483648
 oN : -2147483648 ≤ e.offN ∧ e.offN < 2147483648
 rP : ∀ x ∈ e.cP,0 ≤ x ∧ x < 18446744073709551616
 rN : ∀ x ∈ e.cN,0 ≤ x ∧ x < 18446744073709551616
structure ExpD.Small (e : ExpD) : Prop where
 attrs : Sx.Small e.attrs
 ex : Sx.Small e.ex
 lP : e.cP.length ≤ 3750
 lN : e.cN.length ≤ 3750
def rxS : List U → Out SV
 | [.a l,.c (.v (.int .i64 r))]=>match asExp l with
  | some e=>.need (e.Typ ∧ -1 ≤ r ∧ r ≤ 30000) (left (r - 20) e.Small)
  | none=>.fail
 | _=>.fail
noncomputable def t2s : List (FuncId × Spec):=(61,.pure (normG (B []) [42,3] rbS)) :: (56,.pure (normG (B []) [32,3] reS)) :: t1s
theorem t2s_ok : AllSound (B t2s) G:=.cons _ roomBuckets_ok (.cons _ roomExemplars_ok t1s_ok)
theorem roomExp_ok : Ok G 34 rxS:=by
 refine okP t2s_ok Tryz.func34 rfl (by decide) fun K us hk=>?_
 unfold rxS at hk
 split at hk
 ·rename_i l r
  split at hk
  ·rename_i e he
   rw [asExp_eq he]
   refine ⟨by show 2 ≤ _; decide,?_⟩
   obtain ⟨⟨hT,hr1,hr2⟩,hk⟩:=hk
   have hk : ∀ z : Int,(-1 ≤ z ∧ (0 ≤ z → z ≤ r - 20 ∧ e.Small)) → K (.u (.c (I64 z))):=hk;conv=>whnf
   refine ⟨mixed,[],[],[],by kernel_rfl,?_⟩;conv=>whnf
   refine ⟨⟨hr1,by omega,Int.natCast_nonneg _⟩,?_⟩
   have t1:=tk_spec (r:=r) (n:=(e.unk.size : Nat)) hr1 (Int.natCast_nonneg _)
   conv=>whnf
   refine ⟨⟨hT.lN,t1.1,by show tk r (e.unk.size : Nat) ≤ _; omega⟩,?_⟩;conv=>whnf
   rintro x ⟨x1,x2⟩
   have x2 : 0 ≤ x → x ≤ tk r (e.unk.size : Nat) - 40 ∧ e.cN.length ≤ 3750:=x2;conv=>whnf
   refine ⟨⟨hT.lP,x1,?_⟩,?_⟩
   ·by_cases h0 : 0 ≤ x
    ·have:=x2 h0; omega
    omega
   conv=>whnf
   rintro y ⟨y1,y2⟩
   have y2 : 0 ≤ y → y ≤ x - 40 ∧ e.cP.length ≤ 3750:=y2;conv=>whnf
   refine ⟨mixed,[],[],[],by kernel_rfl,?_⟩;conv=>whnf
   refine ⟨⟨hT.attrs,by decide,by decide,by decide,y1,?_⟩,?_⟩
   ·by_cases h0 : 0 ≤ y
    ·have:=y2 h0; have:=x2 (by omega); omega
    omega
   conv=>whnf
   rintro z ⟨z1,z2⟩
   have z2 : 0 ≤ z → z ≤ y ∧ Small e.attrs:=z2;conv=>whnf
   refine ⟨⟨hT.ex,z1,?_⟩,?_⟩
   ·by_cases h0 : 0 ≤ z
    ·have:=z2 h0; have:=y2 (by omega); have:=x2 (by omega); omega
    omega
   conv=>whnf
   rintro v ⟨v1,v2⟩
   have v2 : 0 ≤ v → v ≤ z ∧ Small e.ex:=v2;conv=>whnf
   refine hk v ⟨v1,fun h0=>?_⟩
   obtain ⟨a1,a2⟩:=v2 h0
   obtain ⟨b1,b2⟩:=z2 (by omega)
   obtain ⟨c1,c2⟩:=y2 (by omega)
   obtain ⟨d1,d2⟩:=x2 (by omega)
   have:=t1.2.2 (by omega)
   exact ⟨by omega,b2,a2,c2,d2⟩
  exact hk.elim
 exact hk.elim
end Sx
namespace Sx
open Go Go.Proofs
set_option maxRecDepth 30000
variable {G : Glob}
def sdP (e : ExpD) : Int × List Int:=trim (bif e.hasP then w64 e.offP else 0) (bif e.hasP then e.cP else [])
def sdN (e : ExpD) : Int × List Int:=trim (bif e.hasN then w64 e.offN else 0) (bif e.hasN then e.cN else [])
def pr (s t : Int × List Int) : U:=.a [I64 s.1,.d 38 (.ints s.2),I64 t.1,.d 38 (.ints t.2)]
def Fits (e : ExpD) : Prop:=e.cP.length ≤ 3750 ∧ e.cN.length ≤ 3750 ∧ -2147483648 ≤ e.offP ∧ e.offP < 2147483648 ∧ -2147483648 ≤ e.offN ∧ e.offN < 2147483648 ∧ -2147483648 ≤ e.scale ∧ e.scale < 2147483648
def pairsS : List U → Out SV
 | [.a la,.a lb]=>match asExp la,asExp lb with
  | some a,some b=>.need (Fits a ∧ Fits b) (.ret (.t [pr (sdP a) (sdP b),pr (sdN a) (sdN b)]))
  | _,_=>.fail
 | _=>.fail
theorem side_len (h : Bool) (l : List Int) : (bif h then l else []).length ≤ l.length:=by cases h <;> simp
theorem pairs_ok : Ok G 113 pairsS:=by
 refine okP s1_ok Tryz.func113 rfl (by decide) fun K us hk=>?_
 unfold pairsS at hk
 split at hk
 ·split at hk
  ·rename_i a b ha hb
   rw [asExp_eq ha,asExp_eq hb]
   refine ⟨by show 2 ≤ _; decide,?_⟩
   obtain ⟨⟨hA,hB⟩,hk⟩:=hk
   conv=>whnf
   refine ⟨mixed,[(26,[4]),(27,[5])],[],[],by kernel_rfl,?_⟩;conv=>whnf
   refine ⟨by show (bif a.hasP then a.cP else []).length ≤ 68719476736; have:=side_len a.hasP a.cP; have:=hA.1; omega,?_⟩;conv=>whnf
   refine ⟨by show (bif b.hasP then b.cP else []).length ≤ 68719476736; have:=side_len b.hasP b.cP; have:=hB.1; omega,?_⟩;conv=>whnf
   refine ⟨by show (bif a.hasN then a.cN else []).length ≤ 68719476736; have:=side_len a.hasN a.cN; have:=hA.2.1; omega,?_⟩;conv=>whnf
   refine ⟨by show (bif b.hasN then b.cN else []).length ≤ 68719476736; have:=side_len b.hasN b.cN; have:=hB.2.1; omega,?_⟩;conv=>whnf
   exact hk
  exact hk.elim
 exact hk.elim
def hiS (f : Int) (l : List Int) (n : Nat) : Int:=shr (f + l.length - 1) n
def wideV (s t : Int × List Int) (x y : Nat) : Int:=match s.2,t.2 with
 | [],[]=>0
 | [],_ :: _=>hiS t.1 t.2 y - shr t.1 y + 1
 | _ :: _,[]=>hiS s.1 s.2 x - shr s.1 x + 1
 | _ :: _,_ :: _=>(if hiS t.1 t.2 y > hiS s.1 s.2 x then hiS t.1 t.2 y else hiS s.1 s.2 x) - (if shr t.1 y < shr s.1 x then shr t.1 y else shr s.1 x) + 1
def Near (f : Int) (l : List Int) : Prop:=-1099511627776 ≤ f ∧ f ≤ 1099511627776 ∧ l.length ≤ 68719476736
def wideFS : List U → Out SV
 | [.a [.v (.int .i64 f),.d 38 (.ints l)],.a [.v (.int .i64 g),.d 38 (.ints m)],.c (.v (.int .i64 x)),.c (.v (.int .i64 y))]=>.need (Near f l ∧ Near g m ∧ 0 ≤ x ∧ x ≤ 31 ∧ 0 ≤ y ∧ y ≤ 31) (one (I64 (wideV (f,l) (g,m) x.toNat y.toNat)))
 | _=>.fail
theorem near_lo {f : Int} {l : List Int} (h : Near f l) (n : Nat) : -1099511627776 ≤ shr f n ∧ shr f n ≤ 1099511627776:=shr_bound n (by omega) h.1 h.2.1
theorem near_hi {f : Int} {l : List Int} (h : Near f l) (n : Nat) : -1236950581248 ≤ hiS f l n ∧ hiS f l n ≤ 1236950581248:=by
 obtain ⟨h1,h2,h3⟩:=h
 exact shr_bound n (by omega) (by omega) (by omega)
theorem wide_ok : Ok G 139 wideFS:=by
 refine okP s1_ok Tryz.func139 rfl (by decide) fun K us hk=>?_
 unfold wideFS at hk
 split at hk
 ·rename_i f l g m x y
  refine ⟨by show 4 ≤ _; decide,?_⟩
  obtain ⟨⟨hf,hg,hx1,hx2,hy1,hy2⟩,hk⟩:=hk
  have mx : min x.toNat IntKind.i64.bits = x.toNat:=by simp only [IntKind.bits]; omega
  have my : min y.toNat IntKind.i64.bits = y.toNat:=by simp only [IntKind.bits]; omega
  have f1:=near_lo hf x.toNat
  have f2:=near_hi hf x.toNat
  have g1:=near_lo hg y.toNat
  have g2:=near_hi hg y.toNat
  obtain ⟨a1,a2,a3⟩:=hf
  obtain ⟨b1,b2,b3⟩:=hg
  have eF : w64 (w64 (f + (l.length : Nat)) - 1) = f + l.length - 1:=by rw [w64_eq (n:=f + (l.length : Nat)) (by omega),w64_eq (by omega)]
  have eG : w64 (w64 (g + (m.length : Nat)) - 1) = g + m.length - 1:=by rw [w64_eq (n:=g + (m.length : Nat)) (by omega),w64_eq (by omega)]
  have hF : (w64 (w64 (f + (l.length : Nat)) - 1)).fdiv (2 ^ min x.toNat IntKind.i64.bits) = hiS f l x.toNat:=by rw [eF,mx]; rfl
  have hG : (w64 (w64 (g + (m.length : Nat)) - 1)).fdiv (2 ^ min y.toNat IntKind.i64.bits) = hiS g m y.toNat:=by rw [eG,my]; rfl
  have lF : f.fdiv (2 ^ min x.toNat IntKind.i64.bits) = shr f x.toNat:=by rw [mx]; rfl
  have lG : g.fdiv (2 ^ min y.toNat IntKind.i64.bits) = shr g y.toNat:=by rw [my]; rfl
  cases l with
  | nil =>
   cases m with
   | nil =>
    conv=>whnf
    exact hk
   | cons b m =>
    conv=>whnf
    refine ⟨mixed,[],[],[],by kernel_rfl,?_⟩;conv=>whnf
    refine ⟨hy1,?_⟩;conv=>whnf
    refine ⟨hy1,?_⟩;conv=>whnf
    refine fin hk ?_
    refine congrArg (fun z=>SV.u (.c (I64 z))) (?_ : wideV (f,[]) (g,b :: m) x.toNat y.toNat = w64 (w64 ((w64 (w64 (g + ((b :: m).length : Nat)) - 1)).fdiv (2 ^ min y.toNat IntKind.i64.bits) - g.fdiv (2 ^ min y.toNat IntKind.i64.bits)) + 1))
    rw [hG,lG,w64_eq (n:=hiS g (b :: m) y.toNat - shr g y.toNat) (by omega),w64_eq (by omega)]
    try rfl
  | cons a l =>
   conv=>whnf
   refine ⟨mixed,[],[],[],by kernel_rfl,?_⟩;conv=>whnf
   refine ⟨hx1,?_⟩;conv=>whnf
   refine ⟨hx1,?_⟩
   cases m with
   | nil =>
    conv=>whnf
    refine fin hk ?_
    refine congrArg (fun z=>SV.u (.c (I64 z))) (?_ : wideV (f,a :: l) (g,[]) x.toNat y.toNat = w64 (w64 ((w64 (w64 (f + ((a :: l).length : Nat)) - 1)).fdiv (2 ^ min x.toNat IntKind.i64.bits) - f.fdiv (2 ^ min x.toNat IntKind.i64.bits)) + 1))
    rw [hF,lF,w64_eq (n:=hiS f (a :: l) x.toNat - shr f x.toNat) (by omega),w64_eq (by omega)]
    try rfl
   | cons b m =>
    conv=>whnf
    refine Ask.i (fun c1=>?_) (fun c1=>?_)
    ·conv=>whnf
     refine ⟨mixed,[],[],[],by kernel_rfl,?_⟩;conv=>whnf
     refine ⟨hy1,?_⟩;conv=>whnf
     refine ⟨hy1,?_⟩;conv=>whnf
     refine fin hk ?_
     refine congrArg (fun z=>SV.u (.c (I64 z))) (?_ : wideV (f,a :: l) (g,b :: m) x.toNat y.toNat = w64 (w64 (
      (if (w64 (w64 (g + ((b :: m).length : Nat)) - 1)).fdiv (2 ^ min y.toNat IntKind.i64.bits) > (w64 (w64 (f + ((a :: l).length : Nat)) - 1)).fdiv (2 ^ min x.toNat IntKind.i64.bits) then (w64 (w64 (g + ((b :: m).length : Nat)) - 1)).fdiv (2 ^ min y.toNat IntKind.i64.bits) else (w64 (w64 (f + ((a :: l).length : Nat)) - 1)).fdiv (2 ^ min x.toNat IntKind.i64.bits))
      - (if g.fdiv (2 ^ min y.toNat IntKind.i64.bits) < f.fdiv (2 ^ min x.toNat IntKind.i64.bits) then g.fdiv (2 ^ min y.toNat IntKind.i64.bits) else f.fdiv (2 ^ min x.toNat IntKind.i64.bits))) + 1))
     rw [hF,hG,lF,lG]
     have e1 : -1236950581248 ≤ (if hiS g (b :: m) y.toNat > hiS f (a :: l) x.toNat then hiS g (b :: m) y.toNat else hiS f (a :: l) x.toNat) ∧ (if hiS g (b :: m) y.toNat > hiS f (a :: l) x.toNat then hiS g (b :: m) y.toNat else hiS f (a :: l) x.toNat) ≤ 1236950581248:=by split <;> omega
     have e2 : -1236950581248 ≤ (if shr g y.toNat < shr f x.toNat then shr g y.toNat else shr f x.toNat) ∧ (if shr g y.toNat < shr f x.toNat then shr g y.toNat else shr f x.toNat) ≤ 1236950581248:=by split <;> omega
     have e3 : ∀ u v : Int,-1236950581248 ≤ u ∧ u ≤ 1236950581248 → -1236950581248 ≤ v ∧ v ≤ 1236950581248 → u - v + 1 = w64 (w64 (u - v) + 1):=fun u v hu hv=>by rw [w64_eq (n:=u - v) (by omega),w64_eq (by omega)]
     exact e3 _ _ e1 e2
    have c1 : ¬ (((b :: m).length : Nat) : Int) > 0:=of_decide_eq_false c1
    simp only [List.length_cons] at c1
    omega
 exact hk.elim
def shGo (p1 p2 n1 n2 : Int × List Int) (most : Int) : Nat → Int → Int → Int → Nat → Option (Int × Int × Int)
 | 0,_,_,_,_=>none
 | k + 1,x,y,s,d =>
  if most < 1 ∨ most > 320 ∨ (if y > x then y else x) > 31 ∨ (0 < d ∧ s < -10) then none
  else if wideV p1 p2 x.toNat y.toNat ≤ most ∧ wideV n1 n2 x.toNat y.toNat ≤ most then some (x,y,s)
  else shGo p1 p2 n1 n2 most k (x + 1) (y + 1) (s - 1) (d + 1)
def lesser (a b : Int) : Int:=if b < a then b else a
def shV (a b : ExpD) (most : Int) : Option (Int × Int × Int) :=
 shGo (sdP a) (sdP b) (sdN a) (sdN b) most 40 (a.scale - lesser a.scale b.scale) (b.scale - lesser a.scale b.scale) (lesser a.scale b.scale) 0
def shiftsS : List U → Out SV
 | [.a la,.a lb,.c (.v (.int .i64 most))]=>match asExp la,asExp lb with
  | some a,some b=>.need (Fits a ∧ Fits b) (.all (Option (Int × Int × Int)) (fun o=>shV a b most = o) ⟨_,rfl⟩ fun o=>match o with
   | some r=>.ret (.t [.c (I64 r.1),.c (I64 r.2.1),.c (I64 r.2.2),.c nilV])
   | none=>.ret (.t [.c (I64 0),.c (I64 0),.c (I64 0),.c (errV 9)]))
  | _,_=>.fail
 | _=>.fail
noncomputable def t4s : List (FuncId × Spec):=[(113,.pure (normG (B []) [44,44] pairsS)),(139,.pure (normG (B []) [185,185,3,3] wideFS))]
theorem t4s_ok : AllSound (B t4s) G:=.cons _ pairs_ok (.cons _ wide_ok noneS)
end Sx
