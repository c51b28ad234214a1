/- Part of the proof: a machine of states for walks, and contracts of functions over it. Conditions: those that each theorem names. -/
import Derived.WalkKit
import Derived.Below
import Derived.Orders
import Derived.Deep.Quiet
set_option linter.unusedVariables false
set_option linter.unusedSimpArgs false
namespace Sx
open Go
inductive D where
 | int (n : Int) | bool (b : Bool) | str (s : ByteArray) | ints (l : List Int) | rows (l : List (List D))
instance : Inhabited D:=⟨.int 0⟩
def D.toInt : D → Int | .int n=>n | _=>0
def D.toBool : D → Bool | .bool b=>b | _=>false
def D.toStr : D → ByteArray | .str s=>s | _=>ByteArray.empty
def D.toInts : D → List Int | .ints l=>l | _=>[]
def D.toRows : D → List (List D) | .rows l=>l | _=>[]
def cellD (r : List D) (j : Nat) : D:=r.getD j (.int 0)
inductive Ct where | int (k : IntKind) | bool | str | sl (t : TypeId) | oth
inductive El where | ints (k : IntKind) | rows (cts : List Ct)
def El.size : El → Nat | .ints _=>1 | .rows c=>c.length
inductive C where
 | v (x : Value)
 | d (t : TypeId) (x : D)
 | z (t : TypeId)
 | p (n off : Nat)
 | e (cts : List Ct) (row : List D) (off : Nat)
 | r (n : Nat) (t : TypeId)
 | q (n : Nat) (i : Int) (off : Nat)
 | m (n : Nat) (t : TypeId)
 | bad
inductive U where | c (x : C) | a (l : List C)
inductive SV where | u (x : U) | t (l : List U)
inductive Blk where
 | cells (t : TypeId) (l : List C)
 | row (t : TypeId) (x : D)
 | map (t : TypeId) (l : List (ByteArray × List D))
abbrev Env:=Nat → Option SV
abbrev Own:=Nat → Option Blk
def fset {α : Type} (f : Nat → Option α) (k : Nat) (v : α) : Nat → Option α:=fun n=>bif n.beq k then some v else f n
def fdel {α : Type} (f : Nat → Option α) (k : Nat) : Nat → Option α:=fun n=>bif n.beq k then none else f n
theorem beqn {a b : Nat} (h : a ≠ b) : a.beq b = false:=by
 cases hb : a.beq b
 ·rfl
 exact absurd (Nat.eq_of_beq_eq_true hb) h
theorem beqs (a : Nat) : a.beq a = true:=by simp
theorem fset_same {α : Type} (f : Nat → Option α) (k : Nat) (v : α) : fset f k v k = some v:=by simp [fset]
theorem fset_ne {α : Type} (f : Nat → Option α) {k n : Nat} (v : α) (h : n ≠ k) : fset f k v n = f n:=by simp only [fset,beqn h,cond_false]
theorem fdel_same {α : Type} (f : Nat → Option α) (k : Nat) : fdel f k k = none:=by simp [fdel]
theorem fdel_ne {α : Type} (f : Nat → Option α) {k n : Nat} (h : n ≠ k) : fdel f k n = f n:=by simp only [fdel,beqn h,cond_false]
theorem fset_comm {α : Type} (f : Nat → Option α) {j k : Nat} (u v : α) (h : j ≠ k) : fset (fset f j u) k v = fset (fset f k v) j u:=by
 funext n
 by_cases h1 : n = k
 ·subst h1; rw [fset_same,fset_ne _ _ (Ne.symm h),fset_same]
 by_cases h2 : n = j
 ·subst h2; rw [fset_ne _ _ h1,fset_same,fset_same]
 rw [fset_ne _ _ h1,fset_ne _ _ h2,fset_ne _ _ h2,fset_ne _ _ h1]
inductive Out (ρ : Type) : Type 1 where
 | ret (x : ρ)
 | need (p : Prop) (o : Out ρ)
 | all (α : Type) (φ : α → Prop) (h : ∃ x,φ x) (k : α → Out ρ)
 | fail
def Need (p q : Prop) : Prop:=p ∧ q
def Out.wp {ρ : Type} : Out ρ → (ρ → Prop) → Prop
 | .ret x,K=>K x
 | .need p o,K=>Need p (o.wp K)
 | .all α φ _ k,K=>∀ x : α,φ x → (k x).wp K
 | .fail,_=>False
def Out.bind {ρ σ : Type} : Out ρ → (ρ → Out σ) → Out σ
 | .ret x,f=>f x
 | .need p o,f=>.need p (o.bind f)
 | .all α φ h k,f=>.all α φ h fun x=>(k x).bind f
 | .fail,_=>.fail
theorem Out.wp_mono {ρ : Type} (o : Out ρ) {K K' : ρ → Prop} (h : ∀ x,K x → K' x) (hw : o.wp K) : o.wp K':=by
 induction o with
 | ret x=>exact h _ hw
 | need p o ih=>exact ⟨hw.1,ih hw.2⟩
 | all α φ hx k ih=>exact fun x hp=>ih x (hw x hp)
 | fail=>exact hw
theorem Out.wp_some {ρ : Type} (o : Out ρ) {K : ρ → Prop} (hw : o.wp K) : ∃ x,K x:=by
 induction o with
 | ret x=>exact ⟨_,hw⟩
 | need p o ih=>exact ih hw.2
 | all α φ hx k ih=>obtain ⟨x,hp⟩:=hx; exact ih x (hw x hp)
 | fail=>exact hw.elim
theorem Out.wp_bind {ρ σ : Type} (o : Out ρ) (f : ρ → Out σ) (K : σ → Prop) : (o.bind f).wp K ↔ o.wp fun x=>(f x).wp K:=by
 induction o with
 | ret x=>exact Iff.rfl
 | need p o ih=>exact and_congr_right fun _=>ih
 | all α φ hx k ih=>exact forall_congr' fun x=>imp_congr_right fun _=>ih x
 | fail=>exact Iff.rfl
theorem Out.swap {ρ σ : Type} (o : Out ρ) (q : Out σ) {K : ρ → σ → Prop} (hw : o.wp fun x=>q.wp fun y=>K x y) : q.wp fun y=>o.wp fun x=>K x y:=by
 induction q generalizing K with
 | ret y=>exact hw
 | need p q ih=>exact ⟨(o.wp_some hw).elim fun _ h=>h.1,ih (o.wp_mono (fun _ h=>h.2) hw)⟩
 | all α φ hx k ih=>exact fun z hz=>ih z (o.wp_mono (fun _ h=>h z hz) hw)
 | fail=>exact (o.wp_some hw).elim fun _ h=>h
inductive Spec : Type 1 where
 | pure (f : List U → Out SV)
 | full (f : List U → List Blk → Out (SV × List (Option Blk) × List Blk))
end Sx
namespace Sx
open Go
theorem add_add (a : Addr) (m n : Nat) : (a.add m).add n = a.add (m + n):=by
 unfold Addr.add
 by_cases h : m = 0 <;> by_cases k : n = 0 <;> simp_all [Nat.add_assoc]
theorem add_block (a : Addr) (n : Nat) : (a.add n).block = a.block:=by unfold Addr.add; split <;> rfl
theorem add_zero (a : Addr) : a.add 0 = a:=rfl
theorem add_lit (b o n : Nat) : (⟨b,o,none⟩ : Addr).add n = ⟨b,o + n,none⟩:=by unfold Addr.add; split <;> simp_all
abbrev Tab:=TypeId → Option El
def At (w : World) (A : Nat → Prop) (p : Addr) (v : Value) : Prop:=¬ A p.block ∧ p.block < w.heap.size ∧ w.cell? p = some v
inductive Rd (T : Tab) (w : World) (A : Nat → Prop) : Ct → Value → D → Prop
 | int {k : IntKind} {n : Int} : Rd T w A (.int k) (.int k n) (.int n)
 | bool {b : Bool} : Rd T w A .bool (.bool b) (.bool b)
 | str {s : ByteArray} : Rd T w A .str (.string s) (.str s)
 | nilI {t : TypeId} {k : IntKind} (h : T t = some (.ints k)) : Rd T w A (.sl t) (.slice none 0 0) (.ints [])
 | nilR {t : TypeId} {c : List Ct} (h : T t = some (.rows c)) : Rd T w A (.sl t) (.slice none 0 0) (.rows [])
 | ints {t : TypeId} {k : IntKind} {l : List Int} {a : Addr} {cap : Nat} (h : T t = some (.ints k)) (h1 : l.length ≤ cap)
   (h3 : ∀ (i : Nat) n,l[i]? = some n → At w A (a.add i) (.int k n)) : Rd T w A (.sl t) (.slice (some a) l.length cap) (.ints l)
 | rows {t : TypeId} {c : List Ct} {l : List (List D)} {a : Addr} {cap : Nat} (vs : Nat → Nat → Value) (h : T t = some (.rows c)) (h1 : l.length ≤ cap)
   (h3 : ∀ (i : Nat) e,l[i]? = some e → e.length = c.length)
   (h4 : ∀ (i : Nat) e (j : Nat) d,l[i]? = some e → e[j]? = some d → At w A (a.add (i * c.length + j)) (vs i j))
   (h5 : ∀ (i : Nat) e (j : Nat) ct d,l[i]? = some e → c[j]? = some ct → e[j]? = some d → Rd T w A ct (vs i j) d) :
   Rd T w A (.sl t) (.slice (some a) l.length cap) (.rows l)
structure Stay (w : World) (A : Nat → Prop) (w' : World) (A' : Nat → Prop) : Prop where
 size : w.heap.size ≤ w'.heap.size
 heap : ∀ b,b < w.heap.size → ¬ A b → w'.heap[b]? = w.heap[b]? ∧ ¬ A' b
theorem cell_of_heap {w w' : World} {p : Addr} (h : w'.heap[p.block]? = w.heap[p.block]?) : w'.cell? p = w.cell? p:=World.cell?_of_block (w:=w) h
theorem At.stay {w w' : World} {A A' : Nat → Prop} (s : Stay w A w' A') {p : Addr} {v : Value} (h : At w A p v) : At w' A' p v :=
 ⟨(s.heap _ h.2.1 h.1).2,Nat.lt_of_lt_of_le h.2.1 s.size,(cell_of_heap (s.heap _ h.2.1 h.1).1).trans h.2.2⟩
theorem Rd.stay {T : Tab} {w w' : World} {A A' : Nat → Prop} (s : Stay w A w' A') {c : Ct} {v : Value} {d : D} (h : Rd T w A c v d) : Rd T w' A' c v d:=by
 induction h with
 | int=>exact .int
 | bool=>exact .bool
 | str=>exact .str
 | nilI h=>exact .nilI h
 | nilR h=>exact .nilR h
 | ints h h1 h3=>exact .ints h h1 fun i n hi=>(h3 i n hi).stay s
 | rows vs h h1 h3 h4 h5 ih=>exact .rows vs h h1 h3 (fun i e j d a b=>(h4 i e j d a b).stay s) ih
def All2 {α β : Type} (R : α → β → Prop) : List α → List β → Prop
 | [],[]=>True
 | a :: as,b :: bs=>R a b ∧ All2 R as bs
 | _,_=>False
theorem All2.mono {α β : Type} {R R' : α → β → Prop} (h : ∀ a b,R a b → R' a b) : ∀ {l : List α} {m : List β},All2 R l m → All2 R' l m
 | [],[],_=>trivial
 | _ :: _,_ :: _,hh=>⟨h _ _ hh.1,All2.mono h hh.2⟩
 | [],_ :: _,hh=>hh.elim
 | _ :: _,[],hh=>hh.elim
theorem All2.length {α β : Type} {R : α → β → Prop} : ∀ {l : List α} {m : List β},All2 R l m → l.length = m.length
 | [],[],_=>rfl
 | _ :: _,_ :: _,hh=>congrArg (· + 1) (All2.length hh.2)
 | [],_ :: _,hh=>hh.elim
 | _ :: _,[],hh=>hh.elim
theorem All2.get {α β : Type} {R : α → β → Prop} : ∀ {l : List α} {m : List β} (_ : All2 R l m) {i : Nat} {a : α},l[i]? = some a → ∃ b,m[i]? = some b ∧ R a b
 | _ :: _,b :: _,hh,0,_,hi=>⟨b,rfl,by simp only [List.getElem?_cons_zero,Option.some.injEq] at hi; exact hi ▸ hh.1⟩
 | _ :: _,_ :: _,hh,i + 1,_,hi=>by simpa using All2.get hh.2 (i:=i) (by simpa using hi)
 | [],_ :: _,hh,_,_,_=>hh.elim
 | _ :: _,[],hh,_,_,_=>hh.elim
 | [],[],_,_,_,hi=>by simp at hi
theorem All2.of_get {α β : Type} {R : α → β → Prop} : ∀ {l : List α} {m : List β},l.length = m.length → (∀ (i : Nat) a b,l[i]? = some a → m[i]? = some b → R a b) → All2 R l m
 | [],[],_,_=>trivial
 | _ :: _,_ :: _,hl,h=>⟨h 0 _ _ rfl rfl,All2.of_get (by simpa using hl) fun i a b ha hb=>h (i + 1) a b (by simpa using ha) (by simpa using hb)⟩
theorem All2.set {α β : Type} {R : α → β → Prop} : ∀ {l : List α} {m : List β} (_ : All2 R l m) (i : Nat) {a : α} {b : β},R a b → All2 R (l.set i a) (m.set i b)
 | [],[],_,_,_,_,_=>trivial
 | _ :: _,_ :: _,hh,0,_,_,h=>⟨h,hh.2⟩
 | _ :: _,_ :: _,hh,i + 1,_,_,h=>⟨hh.1,All2.set hh.2 i h⟩
 | [],_ :: _,hh,_,_,_,_=>hh.elim
 | _ :: _,[],hh,_,_,_,_=>hh.elim
theorem All2.append {α β : Type} {R : α → β → Prop} : ∀ {l : List α} {m : List β} {l' : List α} {m' : List β},All2 R l m → All2 R l' m' → All2 R (l ++ l') (m ++ m')
 | [],[],_,_,_,h=>h
 | _ :: _,_ :: _,_,_,hh,h=>⟨hh.1,All2.append hh.2 h⟩
 | [],_ :: _,_,_,hh,_=>hh.elim
 | _ :: _,[],_,_,hh,_=>hh.elim
theorem All2.take {α β : Type} {R : α → β → Prop} : ∀ {l : List α} {m : List β} (_ : All2 R l m) (n : Nat),All2 R (l.take n) (m.take n)
 | [],[],_,0=>trivial
 | [],[],_,_ + 1=>trivial
 | _ :: _,_ :: _,_,0=>trivial
 | _ :: _,_ :: _,hh,n + 1=>⟨hh.1,All2.take hh.2 n⟩
 | [],_ :: _,hh,_=>hh.elim
 | _ :: _,[],hh,_=>hh.elim
theorem All2.drop {α β : Type} {R : α → β → Prop} : ∀ {l : List α} {m : List β} (_ : All2 R l m) (n : Nat),All2 R (l.drop n) (m.drop n)
 | [],[],_,0=>trivial
 | [],[],_,_ + 1=>trivial
 | _ :: _,_ :: _,hh,0=>hh
 | _ :: _,_ :: _,hh,n + 1=>All2.drop hh.2 n
 | [],_ :: _,hh,_=>hh.elim
 | _ :: _,[],hh,_=>hh.elim
theorem All2.map_left {α β γ : Type} {R : α → β → Prop} {S : γ → β → Prop} (f : α → γ) (h : ∀ a b,R a b → S (f a) b) : ∀ {l : List α} {m : List β},All2 R l m → All2 S (l.map f) m
 | [],[],_=>trivial
 | _ :: _,_ :: _,hh=>⟨h _ _ hh.1,All2.map_left f h hh.2⟩
 | [],_ :: _,hh=>hh.elim
 | _ :: _,[],hh=>hh.elim
def D.len : D → Nat | .ints l=>l.length | .rows l=>l.length | _=>0
def esz (T : Tab) (t : TypeId) : Nat:=match T t with | some e=>e.size | none=>0
def oneV : Value → Bool | .agg _=>false | .tuple _=>false | _=>true
def RowVal (T : Tab) (w : World) (t : TypeId) (len : Nat) : Option Nat → Value → Prop
 | none,y=>len = 0 ∧ ∃ a,y = .slice a 0 0
 | some b,y=>∃ cap cs te,y = .slice (some ⟨b,0,none⟩) len cap ∧ w.heap[b]? = some (.cells cs te (0,0)) ∧ cs.size = cap * esz T t ∧ len ≤ cap
def DenE (T : Tab) (w : World) (A : Nat → Prop) (cts : List Ct) (row : List D) (a : Addr) : Prop :=
 row.length = cts.length ∧ ∃ vs : Nat → Value,∀ (j : Nat) ct d,cts[j]? = some ct → row[j]? = some d → At w A (a.add j) (vs j) ∧ Rd T w A ct (vs j) d
def DenC (T : Tab) (w : World) (β : Nat → Option Nat) (A : Nat → Prop) (own : Own) : C → Value → Prop
 | .v x,y=>y = x ∧ oneV x = true
 | .d t x,y=>Rd T w A (.sl t) y x
 | .z _,y=>∃ a,y = .slice a 0 0
 | .p n off,y=>∃ b t l,own n = some (.cells t l) ∧ β n = some b ∧ y = .pointer (some ⟨b,off,none⟩)
 | .e cts row off,y=>∃ a : Addr,y = .pointer (some (a.add off)) ∧ DenE T w A cts row a
 | .r n t,y=>∃ x,own n = some (.row t x) ∧ RowVal T w t x.len (β n) y
 | .q n i off,y=>∃ t x b,own n = some (.row t x) ∧ β n = some b ∧ 0 ≤ i ∧ i < x.len ∧ y = .pointer (some ⟨b,i.toNat * esz T t + off,none⟩)
 | .m n t,y=>∃ l b,own n = some (.map t l) ∧ β n = some b ∧ y = .map (some b)
 | .bad,y=>oneV y = true
def DenU (T : Tab) (w : World) (β : Nat → Option Nat) (A : Nat → Prop) (own : Own) : U → Value → Prop
 | .c x,y=>DenC T w β A own x y
 | .a l,y=>∃ cs,y = .agg cs.toArray ∧ All2 (DenC T w β A own) l cs
def DenS (T : Tab) (w : World) (β : Nat → Option Nat) (A : Nat → Prop) (own : Own) : SV → Value → Prop
 | .u x,y=>DenU T w β A own x y
 | .t l,y=>∃ vs,y = .tuple vs.toArray ∧ All2 (DenU T w β A own) l vs
theorem Rd.oneV {T : Tab} {w : World} {A : Nat → Prop} {c : Ct} {v : Value} {d : D} (h : Rd T w A c v d) : oneV v = true:=by cases h <;> rfl
theorem RowVal.oneV {T : Tab} {w : World} {t : TypeId} {n : Nat} {b : Option Nat} {v : Value} (h : RowVal T w t n b v) : Sx.oneV v = true:=by
 cases b with
 | none=>obtain ⟨_,_,rfl⟩:=h; rfl
 | some b=>obtain ⟨_,_,_,rfl,_⟩:=h; rfl
theorem DenC.oneV {T : Tab} {w : World} {β : Nat → Option Nat} {A : Nat → Prop} {own : Own} {c : C} {v : Value} (h : DenC T w β A own c v) : oneV v = true:=by
 cases c with
 | v x=>exact h.1 ▸ h.2
 | d t x=>exact Rd.oneV h
 | z t=>obtain ⟨a,rfl⟩:=h; rfl
 | p n off=>obtain ⟨b,t,l,_,_,rfl⟩:=h; rfl
 | e cts row off=>obtain ⟨a,rfl,_⟩:=h; rfl
 | r n t=>obtain ⟨x,_,h⟩:=h; exact h.oneV
 | q n i off=>obtain ⟨t,x,b,_,_,_,_,rfl⟩:=h; rfl
 | m n t=>obtain ⟨l,b,_,_,rfl⟩:=h; rfl
 | bad=>exact h
def Keep (own : Own) (w : World) (β : Nat → Option Nat) (own' : Own) (w' : World) (β' : Nat → Option Nat) : Prop :=
 ∀ n B,own n = some B → β' n = β n ∧ match B with
  | .cells _ _=>∃ t l,own' n = some (.cells t l)
  | .row t x=>∃ x',own' n = some (.row t x') ∧ x'.len = x.len ∧ ∀ b cs te,β n = some b → w.heap[b]? = some (.cells cs te (0,0)) → ∃ cs',w'.heap[b]? = some (.cells cs' te (0,0)) ∧ cs'.size = cs.size
  | .map t _=>∃ l,own' n = some (.map t l)
theorem Keep.refl (own : Own) (w : World) (β : Nat → Option Nat) : Keep own w β own w β:=by
 intro n B h
 refine ⟨rfl,?_⟩
 cases B with
 | cells t l=>exact ⟨_,_,h⟩
 | row t x=>exact ⟨_,h,rfl,fun b cs te _ hb=>⟨_,hb,rfl⟩⟩
 | map t l=>exact ⟨_,h⟩
theorem RowVal.keep {T : Tab} {w w' : World} {t : TypeId} {n : Nat} {b : Option Nat} {v : Value} (h : RowVal T w t n b v)
  (k : ∀ c cs te,b = some c → w.heap[c]? = some (.cells cs te (0,0)) → ∃ cs',w'.heap[c]? = some (.cells cs' te (0,0)) ∧ cs'.size = cs.size) : RowVal T w' t n b v:=by
 cases b with
 | none=>exact h
 | some b =>
  obtain ⟨cap,cs,te,e,hb,hs⟩:=h
  obtain ⟨cs',h1,h2⟩:=k b cs te rfl hb
  exact ⟨cap,cs',te,e,h1,by rw [h2]; exact hs⟩
theorem DenE.stay {T : Tab} {w w' : World} {A A' : Nat → Prop} {cts : List Ct} {row : List D} {a : Addr} (s : Stay w A w' A') (h : DenE T w A cts row a) : DenE T w' A' cts row a:=by
 obtain ⟨h0,vs,h1⟩:=h
 exact ⟨h0,vs,fun j ct d a b=>⟨(h1 j ct d a b).1.stay s,(h1 j ct d a b).2.stay s⟩⟩
section
variable {T : Tab} {w w' : World} {β β' : Nat → Option Nat} {A A' : Nat → Prop} {own own' : Own}
theorem DenC.keep (s : Stay w A w' A') (k : Keep own w β own' w' β') {c : C} {v : Value} (h : DenC T w β A own c v) : DenC T w' β' A' own' c v:=by
 cases c with
 | v x=>exact h
 | d t x=>exact Rd.stay s h
 | z t=>exact h
 | p n off =>
  obtain ⟨b,t,l,h1,h2,rfl⟩:=h
  obtain ⟨hb,t',l',h3⟩:=k n _ h1
  exact ⟨b,t',l',h3,hb.trans h2,rfl⟩
 | e cts row off=>obtain ⟨a,h1,h2⟩:=h; exact ⟨a,h1,h2.stay s⟩
 | r n t =>
  obtain ⟨x,h1,h2⟩:=h
  obtain ⟨hb,x',h3,h4,h5⟩:=k n _ h1
  exact ⟨x',h3,by rw [h4,hb]; exact h2.keep fun c cs te e hc=>h5 c cs te e hc⟩
 | q n i off =>
  obtain ⟨t,x,b,h1,h2,h3,h4,rfl⟩:=h
  obtain ⟨hb,x',h5,h6,_⟩:=k n _ h1
  exact ⟨t,x',b,h5,hb.trans h2,h3,by rw [h6]; exact h4,rfl⟩
 | m n t =>
  obtain ⟨l,b,h1,h2,rfl⟩:=h
  obtain ⟨hb,l',h3⟩:=k n _ h1
  exact ⟨l',b,h3,hb.trans h2,rfl⟩
 | bad=>exact h
theorem DenU.keep (s : Stay w A w' A') (k : Keep own w β own' w' β') {u : U} {v : Value} (h : DenU T w β A own u v) : DenU T w' β' A' own' u v:=by
 cases u with
 | c x=>exact DenC.keep s k h
 | a l=>obtain ⟨cs,e,hh⟩:=h; exact ⟨cs,e,hh.mono fun _ _=>DenC.keep s k⟩
theorem DenS.keep (s : Stay w A w' A') (k : Keep own w β own' w' β') {u : SV} {v : Value} (h : DenS T w β A own u v) : DenS T w' β' A' own' u v:=by
 cases u with
 | u x=>exact DenU.keep s k h
 | t l=>obtain ⟨cs,e,hh⟩:=h; exact ⟨cs,e,hh.mono fun _ _=>DenU.keep s k⟩
end
end Sx
namespace Sx
open Go
structure Glob where
 ng : Nat
 cells : List (Nat × Value)
def GOk (G : Glob) (w : World) : Prop:=G.ng ≤ w.heap.size ∧ ∀ gv ∈ G.cells,gv.1 < G.ng ∧ w.cell? ⟨gv.1,0,none⟩ = some gv.2
def Av (X : Nat → Prop) (β : Nat → Option Nat) (own : Own) (b : Nat) : Prop:=X b ∨ ∃ n,own n ≠ none ∧ β n = some b
def RowRd (T : Tab) (w : World) (A : Nat → Prop) (t : TypeId) (x : D) (cs : Array Value) : Prop :=
 (∃ k l,T t = some (.ints k) ∧ x = .ints l ∧ ∀ (i : Nat) n,l[i]? = some n → cs[i]? = some (.int k n)) ∨
 (∃ c l,T t = some (.rows c) ∧ x = .rows l ∧ ∃ vs : Nat → Nat → Value,(∀ (i : Nat) e,l[i]? = some e → e.length = c.length) ∧
  (∀ (i : Nat) e (j : Nat) d,l[i]? = some e → e[j]? = some d → cs[i * c.length + j]? = some (vs i j)) ∧
  (∀ (i : Nat) e (j : Nat) ct d,l[i]? = some e → c[j]? = some ct → e[j]? = some d → Rd T w A ct (vs i j) d))
theorem RowRd.stay {T : Tab} {w w' : World} {A A' : Nat → Prop} {t : TypeId} {x : D} {cs : Array Value} (s : Stay w A w' A') (h : RowRd T w A t x cs) : RowRd T w' A' t x cs:=by
 rcases h with h | ⟨c,l,h1,h2,vs,h3,h4,h5⟩
 ·exact .inl h
 exact .inr ⟨c,l,h1,h2,vs,h3,h4,fun i e j ct d a b c=>(h5 i e j ct d a b c).stay s⟩
def RowAt (T : Tab) (w : World) (t : TypeId) (len : Nat) (cs : Array Value) : Option Nat → Prop
 | none=>len = 0
 | some b=>∃ te cap,w.heap[b]? = some (.cells cs te (0,0)) ∧ cs.size = cap * esz T t ∧ len ≤ cap
def MapRd (T : Tab) (w : World) (A : Nat → Prop) (t : TypeId) (l : List (ByteArray × List D)) (es : Array MapEntry) (clock : Nat) : Prop :=
 ∃ c,T t = some (.rows c) ∧ es.size = l.length ∧ (es.toList.map (·.born)).Nodup ∧ (∀ e ∈ es,e.born < clock) ∧
  ∀ (i : Nat) kr,l[i]? = some kr → kr.2.length = c.length ∧ ∃ born,∃ vs : List Value,es[i]? = some ⟨.string kr.1,.agg vs.toArray,born⟩ ∧ vs.length = c.length ∧
   ∀ (j : Nat) ct v d,c[j]? = some ct → vs[j]? = some v → kr.2[j]? = some d → Rd T w A ct v d
theorem MapRd.stay {T : Tab} {w w' : World} {A A' : Nat → Prop} {t : TypeId} {l : List (ByteArray × List D)} {es : Array MapEntry} {k : Nat} (s : Stay w A w' A') (h : MapRd T w A t l es k) : MapRd T w' A' t l es k:=by
 obtain ⟨c,h1,h2,h3,h4,h5⟩:=h
 refine ⟨c,h1,h2,h3,h4,fun i kr hi=>?_⟩
 obtain ⟨h6,born,vs,h7,h8,h9⟩:=h5 i kr hi
 exact ⟨h6,born,vs,h7,h8,fun j ct v d a b c=>(h9 j ct v d a b c).stay s⟩
def BlkOk (T : Tab) (w : World) (β : Nat → Option Nat) (A : Nat → Prop) (own : Own) (n : Nat) : Blk → Prop
 | .cells t l=>∃ b cs,β n = some b ∧ w.heap[b]? = some (.cells (List.toArray cs) t (0,0)) ∧ All2 (DenC T w β A own) l cs
 | .row t x=>∃ cs,RowRd T w A t x cs ∧ RowAt T w t x.len cs (β n)
 | .map t l=>∃ b es clock,β n = some b ∧ w.heap[b]? = some (.map es clock) ∧ MapRd T w A t l es clock
structure OwnOk (T : Tab) (G : Glob) (w : World) (β : Nat → Option Nat) (X : Nat → Prop) (own : Own) : Prop where
 blk : ∀ n B,own n = some B → BlkOk T w β (Av X β own) own n B
 inj : ∀ n m b,own n ≠ none → own m ≠ none → β n = some b → β m = some b → n = m
 loc : ∀ n b,own n ≠ none → β n = some b → b < w.heap.size ∧ ¬ X b ∧ G.ng ≤ b
structure Fr (w w' : World) (L : Nat → Prop) : Prop where
 os : w'.os = w.os
 tape : w'.tape = w.tape
 output : w'.output = w.output
 size : w.heap.size ≤ w'.heap.size
 heap : ∀ b,b < w.heap.size → ¬ L b → w'.heap[b]? = w.heap[b]?
theorem Fr.refl (w : World) (L : Nat → Prop) : Fr w w L:=⟨rfl,rfl,rfl,Nat.le_refl _,fun _ _ _=>rfl⟩
theorem Fr.trans {a b c : World} {L M : Nat → Prop} (h : Fr a b L) (k : Fr b c M) (hm : ∀ x,x < a.heap.size → M x → L x) : Fr a c L :=
 ⟨k.os.trans h.os,k.tape.trans h.tape,k.output.trans h.output,Nat.le_trans h.size k.size,
  fun x hx hl=>(k.heap x (Nat.lt_of_lt_of_le hx h.size) fun hM=>hl (hm x hx hM)).trans (h.heap x hx hl)⟩
theorem GOk.fr {G : Glob} {w w' : World} {L : Nat → Prop} (h : GOk G w) (f : Fr w w' L) (hl : ∀ b,b < G.ng → ¬ L b) : GOk G w':=by
 refine ⟨Nat.le_trans h.1 f.size,fun gv hg=>⟨(h.2 gv hg).1,?_⟩⟩
 exact (cell_of_heap (f.heap _ (Nat.lt_of_lt_of_le (h.2 gv hg).1 h.1) (hl _ (h.2 gv hg).1))).trans (h.2 gv hg).2
def Like (w : World) (β : Nat → Option Nat) (n : Nat) (w' : World) : Blk → Blk → Prop
 | .cells _ _,.cells _ _=>True
 | .row t x,.row t' x'=>t' = t ∧ x'.len = x.len ∧ ∀ b cs te,β n = some b → w.heap[b]? = some (.cells cs te (0,0)) → ∃ cs',w'.heap[b]? = some (.cells cs' te (0,0)) ∧ cs'.size = cs.size
 | .map t _,.map t' _=>t' = t
 | _,_=>False
def KeepL (own : Own) (w : World) (β : Nat → Option Nat) (own' : Own) (w' : World) (β' : Nat → Option Nat) : Prop :=
 ∀ n B B',own n = some B → own' n = some B' → β' n = β n ∧ Like w β n w' B B'
structure Ctx where
 T : Tab
 G : Glob
 w0 : World
 X : Nat → Prop
 L : Nat → Prop
 nt : Nat
 own0 : Own
 β0 : Nat → Option Nat
structure Rel (E : Ctx) (β : Nat → Option Nat) (env : Env) (own : Own) (a : Act) (w : World) : Prop where
 defers : a.defers = []
 size : a.tmps.size = E.nt
 vals : ∀ t sv,env t = some sv → DenS E.T w β (Av E.X β own) own sv (a.tmps.getD t undef)
 blks : OwnOk E.T E.G w β E.X own
 glob : GOk E.G w
 frame : Fr E.w0 w E.L
 mine : ∀ n b,own n ≠ none → β n = some b → E.w0.heap.size ≤ b ∨ E.L b
 xold : ∀ b,E.X b → b < E.w0.heap.size
 kept : KeepL E.own0 E.w0 E.β0 own w β
def Mine (β : Nat → Option Nat) (own : Own) (b : Nat) : Prop:=∃ n,own n ≠ none ∧ β n = some b
section
variable {E : Ctx} {β β' : Nat → Option Nat} {env : Env} {own own' : Own} {a : Act} {w w' : World}
theorem Rel.put (h : Rel E β env own a w) {d : Nat} {sv : SV} {v : Value} (hd : d < E.nt) (hv : DenS E.T w β (Av E.X β own) own sv v) : Rel E β (fset env d sv) own (a.put (some d) v) w where
 defers:=h.defers
 size:=by simpa [Act.put] using h.size
 vals:=by
  intro t s hs
  by_cases ht : t = d
  ·subst ht
   rw [fset_same] at hs
   obtain rfl:=Option.some.inj hs
   have hlt : t < a.tmps.size:=by rw [h.size]; exact hd
   simpa [Act.put,hlt] using hv
  rw [fset_ne _ _ ht] at hs
  have:=h.vals t s hs
  simpa [Act.put,Array.getElem?_setIfInBounds_ne (Ne.symm ht)] using this
 blks:=h.blks
 glob:=h.glob
 frame:=h.frame
 mine:=h.mine
 xold:=h.xold
 kept:=h.kept
theorem KeepL.keep {o1 : Own} {w1 : World} {β1 : Nat → Option Nat} (h : KeepL o1 w1 β1 own w β) (k : Keep own w β own' w' β') (hz : ∀ n,own n = none → own' n ≠ none → o1 n = none) : KeepL o1 w1 β1 own' w' β':=by
 intro n B B' h1 h2
 cases h3 : own n with
 | none=>have:=hz n h3 (by simp [h2]); rw [h1] at this; cases this
 | some B2 =>
  obtain ⟨e1,e2⟩:=h n B B2 h1 h3
  obtain ⟨e3,e4⟩:=k n B2 h3
  refine ⟨e3.trans e1,?_⟩
  cases B with
  | cells t l =>
   cases B2 with
   | cells t2 l2=>obtain ⟨t3,l3,e5⟩:=e4; rw [h2] at e5; obtain rfl:=Option.some.inj e5; trivial
   | _=>exact e2.elim
  | row t x =>
   cases B2 with
   | row t2 x2 =>
    obtain ⟨x3,e5,e6,e7⟩:=e4
    rw [h2] at e5
    obtain rfl:=Option.some.inj e5
    obtain ⟨e8,e9,e10⟩:=e2
    refine ⟨e8,e6.trans e9,fun b cs te hb hc=>?_⟩
    obtain ⟨cs2,c1,c2⟩:=e10 b cs te hb hc
    obtain ⟨cs3,c3,c4⟩:=e7 b cs2 te (e1.trans hb) c1
    exact ⟨cs3,c3,c4.trans c2⟩
   | _=>exact e2.elim
  | map t l =>
   cases B2 with
   | map t2 l2=>obtain ⟨l3,e5⟩:=e4; rw [h2] at e5; obtain rfl:=Option.some.inj e5; exact e2
   | _=>exact e2.elim
theorem BlkOk.keep {T : Tab} {A A' : Nat → Prop} {n : Nat} {B : Blk} (s : Stay w A w' A') (k : Keep own w β own' w' β') (hb : own n = some B) (hh : ∀ b,β n = some b → w'.heap[b]? = w.heap[b]?)
  (h : BlkOk T w β A own n B) : BlkOk T w' β' A' own' n B:=by
 have e:=(k n B hb).1
 cases B with
 | cells t l =>
  obtain ⟨b,cs,h1,h2,h3⟩:=h
  exact ⟨b,cs,e.trans h1,(hh b h1).trans h2,h3.mono fun _ _=>DenC.keep s k⟩
 | row t x =>
  obtain ⟨cs,h1,h2⟩:=h
  refine ⟨cs,h1.stay s,?_⟩
  rw [e]
  cases hβ : β n with
  | none=>rw [hβ] at h2; exact h2
  | some b=>rw [hβ] at h2; obtain ⟨te,cap,h3,h4⟩:=h2; exact ⟨te,cap,(hh b hβ).trans h3,h4⟩
 | map t l =>
  obtain ⟨b,es,clock,h1,h2,h3⟩:=h
  exact ⟨b,es,clock,e.trans h1,(hh b h1).trans h2,h3.stay s⟩
theorem Rel.step (h : Rel E β env own a w) (fr : Fr w w' (Mine β own)) (hA : ∀ b,b < w.heap.size → ¬ Av E.X β own b → ¬ Av E.X β' own' b) (k : Keep own w β own' w' β')
  (ho : OwnOk E.T E.G w' β' E.X own') (hm : ∀ n b,own' n ≠ none → β' n = some b → E.w0.heap.size ≤ b ∨ E.L b)
  (hz : ∀ n,own n = none → own' n ≠ none → E.own0 n = none) : Rel E β' env own' a w' where
 defers:=h.defers
 size:=h.size
 vals:=fun t sv hs=>(h.vals t sv hs).keep ⟨fr.size,fun b hb hn=>⟨fr.heap b hb fun ⟨n,h1,h2⟩=>hn (.inr ⟨n,h1,h2⟩),hA b hb hn⟩⟩ k
 blks:=ho
 glob:=h.glob.fr fr fun b hb ⟨n,h1,h2⟩=>by have:=(h.blks.loc n b h1 h2).2.2; omega
 frame:=h.frame.trans fr fun b hb ⟨n,h1,h2⟩=>(h.mine n b h1 h2).resolve_left (by omega)
 mine:=hm
 xold:=h.xold
 kept:=h.kept.keep k hz
theorem stay_of (h : Rel E β env own a w) (fr : Fr w w' (Mine β own)) (hA : ∀ b,b < w.heap.size → ¬ Av E.X β own b → ¬ Av E.X β' own' b) : Stay w (Av E.X β own) w' (Av E.X β' own') :=
 ⟨fr.size,fun b hb hn=>⟨fr.heap b hb fun ⟨n,h1,h2⟩=>hn (.inr ⟨n,h1,h2⟩),hA b hb hn⟩⟩
theorem Rel.idle (h : Rel E β env own a w) (fr : Fr w w' fun _=>False) : Rel E β env own a w':=by
 have s : Stay w (Av E.X β own) w' (Av E.X β own):=⟨fr.size,fun b hb hn=>⟨fr.heap b hb id,hn⟩⟩
 have k : Keep own w β own w' β:=by
  intro n B hB
  refine ⟨rfl,?_⟩
  cases B with
  | cells t l=>exact ⟨_,_,hB⟩
  | row t x=>exact ⟨_,hB,rfl,fun b cs te hβ hb=>⟨cs,(fr.heap b (h.blks.loc n b (by simp [hB]) hβ).1 id).trans hb,rfl⟩⟩
  | map t l=>exact ⟨_,hB⟩
 refine h.step ⟨fr.os,fr.tape,fr.output,fr.size,fun b hb _=>fr.heap b hb id⟩ (fun b _ hn=>hn) k
  ⟨fun n B hB=>(h.blks.blk n B hB).keep s k hB fun b hβ=>fr.heap b (h.blks.loc n b (by simp [hB]) hβ).1 id,h.blks.inj,fun n b h1 h2=>?_⟩ h.mine fun n h1 h2=>absurd h1 h2
 have:=h.blks.loc n b h1 h2
 exact ⟨Nat.lt_of_lt_of_le this.1 fr.size,this.2⟩
theorem Rel.new (h : Rel E β env own a w) {n : Nat} (hn : own n = none) (hn0 : E.own0 n = none) {o : Obj} {B : Blk}
  (hB : ∀ β',(∀ m,m ≠ n → β' m = β m) → β' n = some w.heap.size → Stay w (Av E.X β own) (w.alloc o) (Av E.X β' (fset own n B)) → Keep own w β (fset own n B) (w.alloc o) β' →
   BlkOk E.T (w.alloc o) β' (Av E.X β' (fset own n B)) (fset own n B) n B) :
  ∃ β',(∀ m,m ≠ n → β' m = β m) ∧ β' n = some w.heap.size ∧ Rel E β' env (fset own n B) a (w.alloc o) ∧ Stay w (Av E.X β own) (w.alloc o) (Av E.X β' (fset own n B)) ∧ Keep own w β (fset own n B) (w.alloc o) β':=by
 let β' : Nat → Option Nat:=fun m=>if m = n then some w.heap.size else β m
 have e1 : ∀ m,m ≠ n → β' m = β m:=fun m hm=>by simp [β',hm]
 have e2 : β' n = some w.heap.size:=by simp [β']
 have hsz : (w.alloc o).heap.size = w.heap.size + 1:=by simp
 have fr : Fr w (w.alloc o) (Mine β own):=⟨rfl,rfl,rfl,by omega,fun b hb _=>Go.RowKit.Below.heap_alloc w o b hb⟩
 have old : ∀ m,own m ≠ none → m ≠ n:=fun m hm e=>hm (e ▸ hn)
 have hA : ∀ b,b < w.heap.size → ¬ Av E.X β own b → ¬ Av E.X β' (fset own n B) b:=by
  rintro b hb hna (hx | ⟨m,h1,h2⟩)
  ·exact hna (.inl hx)
  by_cases hm : m = n
  ·subst hm; rw [e2] at h2; have:=Option.some.inj h2; omega
  rw [fset_ne _ _ hm] at h1; rw [e1 m hm] at h2; exact hna (.inr ⟨m,h1,h2⟩)
 have k : Keep own w β (fset own n B) (w.alloc o) β':=by
  intro m B' hB'
  have hm : m ≠ n:=old m (by simp [hB'])
  refine ⟨e1 m hm,?_⟩
  cases B' with
  | cells t l=>exact ⟨t,l,by rw [fset_ne _ _ hm]; exact hB'⟩
  | row t x=>exact ⟨x,by rw [fset_ne _ _ hm]; exact hB',rfl,fun b cs te hβ hb=>⟨cs,(Go.RowKit.Below.heap_alloc w o b (h.blks.loc m b (by simp [hB']) hβ).1).trans hb,rfl⟩⟩
  | map t l=>exact ⟨l,by rw [fset_ne _ _ hm]; exact hB'⟩
 have s:=stay_of h fr hA
 refine ⟨β',e1,e2,h.step fr hA k ⟨?_,?_,?_⟩ ?_ (fun m h1 h2=>by
  by_cases hm : m = n
  ·rw [hm]; exact hn0
  rw [fset_ne _ _ hm] at h2; exact absurd h1 h2),s,k⟩
 ·intro m B' hB'
  by_cases hm : m = n
  ·subst hm; rw [fset_same] at hB'; obtain rfl:=Option.some.inj hB'; exact hB β' e1 e2 s k
  rw [fset_ne _ _ hm] at hB'
  exact (h.blks.blk m B' hB').keep s k hB' fun b hβ=>Go.RowKit.Below.heap_alloc w o b (h.blks.loc m b (by simp [hB']) hβ).1
 ·intro m m' b h1 h2 h3 h4
  by_cases hm : m = n <;> by_cases hm' : m' = n
  ·rw [hm,hm']
  ·subst hm; rw [e2] at h3; rw [e1 m' hm'] at h4; rw [fset_ne _ _ hm'] at h2
   have:=(h.blks.loc m' b h2 h4).1; have:=Option.some.inj h3; omega
  ·subst hm'; rw [e2] at h4; rw [e1 m hm] at h3; rw [fset_ne _ _ hm] at h1
   have:=(h.blks.loc m b h1 h3).1; have:=Option.some.inj h4; omega
  rw [fset_ne _ _ hm] at h1; rw [fset_ne _ _ hm'] at h2; rw [e1 m hm] at h3; rw [e1 m' hm'] at h4
  exact h.blks.inj m m' b h1 h2 h3 h4
 ·intro m b h1 h2
  by_cases hm : m = n
  ·subst hm; rw [e2] at h2; obtain rfl:=Option.some.inj h2
   refine ⟨by omega,fun hx=>?_,h.glob.1⟩
   have:=h.xold _ hx; have:=h.frame.size; omega
  rw [fset_ne _ _ hm] at h1; rw [e1 m hm] at h2
  have:=h.blks.loc m b h1 h2; exact ⟨by omega,this.2⟩
 intro m b h1 h2
 by_cases hm : m = n
 ·subst hm; rw [e2] at h2; obtain rfl:=Option.some.inj h2; exact .inl h.frame.size
 rw [fset_ne _ _ hm] at h1; rw [e1 m hm] at h2; exact h.mine m b h1 h2
end
end Sx
