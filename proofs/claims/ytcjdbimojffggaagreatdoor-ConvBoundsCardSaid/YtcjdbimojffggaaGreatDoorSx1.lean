/- Part of the proof: a machine of states for walks, and contracts of functions over it. Conditions: those that each theorem names. -/
import Derived.WalkKit
import Derived.Below
import Derived.Orders
import Derived.Deep.Quiet
import Derived.Laws.CopyRow
import Derived.Laws.Append
set_option linter.unusedVariables false
set_option linter.unusedSimpArgs false
/-! A small machine of states for walks: what a call's temporaries and blocks hold, and what each operation does to that. -/
namespace Sx
open Go

/-- data, without memory -/
inductive D where
  | int (n : Int) | bool (b : Bool) | str (s : ByteArray) | ints (l : List Int) | rows (l : List (List D))
instance : Inhabited D := ⟨.int 0⟩
def D.toInt : D → Int | .int n => n | _ => 0
def D.toBool : D → Bool | .bool b => b | _ => false
def D.toStr : D → ByteArray | .str s => s | _ => ByteArray.empty
def D.toInts : D → List Int | .ints l => l | _ => []
def D.toRows : D → List (List D) | .rows l => l | _ => []
def cellD (r : List D) (j : Nat) : D := r.getD j (.int 0)

/-- the kinds of cells; a slice's is its type -/
inductive Ct where | int (k : IntKind) | bool | str | sl (t : TypeId) | oth
inductive El where | ints (k : IntKind) | rows (cts : List Ct)
def El.size : El → Nat | .ints _ => 1 | .rows c => c.length

/-- what one cell holds -/
inductive C where
  | v (x : Value)
  | d (t : TypeId) (x : D)
  | z (t : TypeId)
  | p (n off : Nat)
  | e (cts : List Ct) (row : List D) (off : Nat)
  | r (n : Nat) (t : TypeId)
  | q (n : Nat) (i : Int) (off : Nat)
  | m (n : Nat) (t : TypeId)
  | bad
inductive U where | c (x : C) | a (l : List C)
inductive SV where | u (x : U) | t (l : List U)
/-- a block of the call's own -/
inductive Blk where
  | cells (t : TypeId) (l : List C)
  | row (t : TypeId) (x : D)
  | map (t : TypeId) (l : List (ByteArray × List D))

abbrev Env := Nat → Option SV
abbrev Own := Nat → Option Blk
def fset {α : Type} (f : Nat → Option α) (k : Nat) (v : α) : Nat → Option α := fun n => bif n.beq k then some v else f n
def fdel {α : Type} (f : Nat → Option α) (k : Nat) : Nat → Option α := fun n => bif n.beq k then none else f n
theorem beqn {a b : Nat} (h : a ≠ b) : a.beq b = false := by
  cases hb : a.beq b
  · rfl
  · exact absurd (Nat.eq_of_beq_eq_true hb) h
theorem beqs (a : Nat) : a.beq a = true := by simp
theorem fset_same {α : Type} (f : Nat → Option α) (k : Nat) (v : α) : fset f k v k = some v := by simp [fset]
theorem fset_ne {α : Type} (f : Nat → Option α) {k n : Nat} (v : α) (h : n ≠ k) : fset f k v n = f n := by simp only [fset, beqn h, cond_false]
theorem fdel_same {α : Type} (f : Nat → Option α) (k : Nat) : fdel f k k = none := by simp [fdel]
theorem fdel_ne {α : Type} (f : Nat → Option α) {k n : Nat} (h : n ≠ k) : fdel f k n = f n := by simp only [fdel, beqn h, cond_false]
theorem fset_comm {α : Type} (f : Nat → Option α) {j k : Nat} (u v : α) (h : j ≠ k) : fset (fset f j u) k v = fset (fset f k v) j u := by
  funext n
  by_cases h1 : n = k
  · subst h1; rw [fset_same, fset_ne _ _ (Ne.symm h), fset_same]
  · by_cases h2 : n = j
    · subst h2; rw [fset_ne _ _ h1, fset_same, fset_same]
    · rw [fset_ne _ _ h1, fset_ne _ _ h2, fset_ne _ _ h2, fset_ne _ _ h1]

/-- what an operation may come to -/
inductive Out (ρ : Type) : Type 1 where
  | ret (x : ρ)
  | need (p : Prop) (o : Out ρ)
  | all (α : Type) (φ : α → Prop) (h : ∃ x, φ x) (k : α → Out ρ)
  | fail
def Need (p q : Prop) : Prop := p ∧ q
def Out.wp {ρ : Type} : Out ρ → (ρ → Prop) → Prop
  | .ret x, K => K x
  | .need p o, K => Need p (o.wp K)
  | .all α φ _ k, K => ∀ x : α, φ x → (k x).wp K
  | .fail, _ => False
def Out.bind {ρ σ : Type} : Out ρ → (ρ → Out σ) → Out σ
  | .ret x, f => f x
  | .need p o, f => .need p (o.bind f)
  | .all α φ h k, f => .all α φ h fun x => (k x).bind f
  | .fail, _ => .fail
theorem Out.wp_mono {ρ : Type} (o : Out ρ) {K K' : ρ → Prop} (h : ∀ x, K x → K' x) (hw : o.wp K) : o.wp K' := by
  induction o with
  | ret x => exact h _ hw
  | need p o ih => exact ⟨hw.1, ih hw.2⟩
  | all α φ hx k ih => exact fun x hp => ih x (hw x hp)
  | fail => exact hw
theorem Out.wp_some {ρ : Type} (o : Out ρ) {K : ρ → Prop} (hw : o.wp K) : ∃ x, K x := by
  induction o with
  | ret x => exact ⟨_, hw⟩
  | need p o ih => exact ih hw.2
  | all α φ hx k ih => obtain ⟨x, hp⟩ := hx; exact ih x (hw x hp)
  | fail => exact hw.elim
theorem Out.wp_bind {ρ σ : Type} (o : Out ρ) (f : ρ → Out σ) (K : σ → Prop) : (o.bind f).wp K ↔ o.wp fun x => (f x).wp K := by
  induction o with
  | ret x => exact Iff.rfl
  | need p o ih => exact and_congr_right fun _ => ih
  | all α φ hx k ih => exact forall_congr' fun x => imp_congr_right fun _ => ih x
  | fail => exact Iff.rfl
theorem Out.swap {ρ σ : Type} (o : Out ρ) (q : Out σ) {K : ρ → σ → Prop} (hw : o.wp fun x => q.wp fun y => K x y) : q.wp fun y => o.wp fun x => K x y := by
  induction q generalizing K with
  | ret y => exact hw
  | need p q ih => exact ⟨(o.wp_some hw).elim fun _ h => h.1, ih (o.wp_mono (fun _ h => h.2) hw)⟩
  | all α φ hx k ih => exact fun z hz => ih z (o.wp_mono (fun _ h => h z hz) hw)
  | fail => exact (o.wp_some hw).elim fun _ h => h

/-- what a call of a function may come to, of its arguments (pure: no block of the caller's is touched), or of these and the blocks that are lent to it (they are named 50000, 50001, ..; what becomes of them, and new ones: 60000, ..) -/
inductive Spec : Type 1 where
  | pure (f : List U → Out SV)
  | full (f : List U → List Blk → Out (SV × List (Option Blk) × List Blk))
end Sx
/-! What it means that a value stands for a state's word, and that it stays so. -/
namespace Sx
open Go

theorem add_add (a : Addr) (m n : Nat) : (a.add m).add n = a.add (m + n) := by
  unfold Addr.add
  by_cases h : m = 0 <;> by_cases k : n = 0 <;> simp_all [Nat.add_assoc]
theorem add_block (a : Addr) (n : Nat) : (a.add n).block = a.block := by unfold Addr.add; split <;> rfl
theorem add_zero (a : Addr) : a.add 0 = a := rfl
theorem add_lit (b o n : Nat) : (⟨b, o, none⟩ : Addr).add n = ⟨b, o + n, none⟩ := by unfold Addr.add; split <;> simp_all

abbrev Tab := TypeId → Option El
def InK (k : IntKind) (n : Int) : Prop := k.min ≤ n ∧ n ≤ k.max
def At (w : World) (A : Nat → Prop) (p : Addr) (v : Value) : Prop := ¬ A p.block ∧ p.block < w.heap.size ∧ w.cell? p = some v

inductive Rd (T : Tab) (w : World) (A : Nat → Prop) : Ct → Value → D → Prop
  | int {k : IntKind} {n : Int} : Rd T w A (.int k) (.int k n) (.int n)
  | bool {b : Bool} : Rd T w A .bool (.bool b) (.bool b)
  | str {s : ByteArray} : Rd T w A .str (.string s) (.str s)
  | nilI {t : TypeId} {k : IntKind} (h : T t = some (.ints k)) : Rd T w A (.sl t) (.slice none 0 0) (.ints [])
  | nilR {t : TypeId} {c : List Ct} (h : T t = some (.rows c)) : Rd T w A (.sl t) (.slice none 0 0) (.rows [])
  | ints {t : TypeId} {k : IntKind} {l : List Int} {a : Addr} {cap : Nat} (h : T t = some (.ints k)) (h1 : l.length ≤ cap)
      (h3 : ∀ (i : Nat) n, l[i]? = some n → At w A (a.add i) (.int k n)) : Rd T w A (.sl t) (.slice (some a) l.length cap) (.ints l)
  | rows {t : TypeId} {c : List Ct} {l : List (List D)} {a : Addr} {cap : Nat} (vs : Nat → Nat → Value) (h : T t = some (.rows c)) (h1 : l.length ≤ cap)
      (h3 : ∀ (i : Nat) e, l[i]? = some e → e.length = c.length)
      (h4 : ∀ (i : Nat) e (j : Nat) d, l[i]? = some e → e[j]? = some d → At w A (a.add (i * c.length + j)) (vs i j))
      (h5 : ∀ (i : Nat) e (j : Nat) ct d, l[i]? = some e → c[j]? = some ct → e[j]? = some d → Rd T w A ct (vs i j) d) :
      Rd T w A (.sl t) (.slice (some a) l.length cap) (.rows l)

/-- memory that is read stays -/
structure Stay (w : World) (A : Nat → Prop) (w' : World) (A' : Nat → Prop) : Prop where
  size : w.heap.size ≤ w'.heap.size
  heap : ∀ b, b < w.heap.size → ¬ A b → w'.heap[b]? = w.heap[b]? ∧ ¬ A' b
theorem cell_of_heap {w w' : World} {p : Addr} (h : w'.heap[p.block]? = w.heap[p.block]?) : w'.cell? p = w.cell? p := World.cell?_of_block (w := w) h
theorem At.stay {w w' : World} {A A' : Nat → Prop} (s : Stay w A w' A') {p : Addr} {v : Value} (h : At w A p v) : At w' A' p v :=
  ⟨(s.heap _ h.2.1 h.1).2, Nat.lt_of_lt_of_le h.2.1 s.size, (cell_of_heap (s.heap _ h.2.1 h.1).1).trans h.2.2⟩
theorem Rd.stay {T : Tab} {w w' : World} {A A' : Nat → Prop} (s : Stay w A w' A') {c : Ct} {v : Value} {d : D} (h : Rd T w A c v d) : Rd T w' A' c v d := by
  induction h with
  | int => exact .int
  | bool => exact .bool
  | str => exact .str
  | nilI h => exact .nilI h
  | nilR h => exact .nilR h
  | ints h h1 h3 => exact .ints h h1 fun i n hi => (h3 i n hi).stay s
  | rows vs h h1 h3 h4 h5 ih => exact .rows vs h h1 h3 (fun i e j d a b => (h4 i e j d a b).stay s) ih

def All2 {α β : Type} (R : α → β → Prop) : List α → List β → Prop
  | [], [] => True
  | a :: as, b :: bs => R a b ∧ All2 R as bs
  | _, _ => False
theorem All2.mono {α β : Type} {R R' : α → β → Prop} (h : ∀ a b, R a b → R' a b) : ∀ {l : List α} {m : List β}, All2 R l m → All2 R' l m
  | [], [], _ => trivial
  | _ :: _, _ :: _, hh => ⟨h _ _ hh.1, All2.mono h hh.2⟩
  | [], _ :: _, hh => hh.elim
  | _ :: _, [], hh => hh.elim
theorem All2.length {α β : Type} {R : α → β → Prop} : ∀ {l : List α} {m : List β}, All2 R l m → l.length = m.length
  | [], [], _ => rfl
  | _ :: _, _ :: _, hh => congrArg (· + 1) (All2.length hh.2)
  | [], _ :: _, hh => hh.elim
  | _ :: _, [], hh => hh.elim
theorem All2.get {α β : Type} {R : α → β → Prop} : ∀ {l : List α} {m : List β} (_ : All2 R l m) {i : Nat} {a : α}, l[i]? = some a → ∃ b, m[i]? = some b ∧ R a b
  | _ :: _, b :: _, hh, 0, _, hi => ⟨b, rfl, by simp only [List.getElem?_cons_zero, Option.some.injEq] at hi; exact hi ▸ hh.1⟩
  | _ :: _, _ :: _, hh, i + 1, _, hi => by simpa using All2.get hh.2 (i := i) (by simpa using hi)
  | [], _ :: _, hh, _, _, _ => hh.elim
  | _ :: _, [], hh, _, _, _ => hh.elim
  | [], [], _, _, _, hi => by simp at hi
theorem All2.of_get {α β : Type} {R : α → β → Prop} : ∀ {l : List α} {m : List β}, l.length = m.length → (∀ (i : Nat) a b, l[i]? = some a → m[i]? = some b → R a b) → All2 R l m
  | [], [], _, _ => trivial
  | _ :: _, _ :: _, hl, h => ⟨h 0 _ _ rfl rfl, All2.of_get (by simpa using hl) fun i a b ha hb => h (i + 1) a b (by simpa using ha) (by simpa using hb)⟩
theorem All2.set {α β : Type} {R : α → β → Prop} : ∀ {l : List α} {m : List β} (_ : All2 R l m) (i : Nat) {a : α} {b : β}, R a b → All2 R (l.set i a) (m.set i b)
  | [], [], _, _, _, _, _ => trivial
  | _ :: _, _ :: _, hh, 0, _, _, h => ⟨h, hh.2⟩
  | _ :: _, _ :: _, hh, i + 1, _, _, h => ⟨hh.1, All2.set hh.2 i h⟩
  | [], _ :: _, hh, _, _, _, _ => hh.elim
  | _ :: _, [], hh, _, _, _, _ => hh.elim
theorem All2.append {α β : Type} {R : α → β → Prop} : ∀ {l : List α} {m : List β} {l' : List α} {m' : List β}, All2 R l m → All2 R l' m' → All2 R (l ++ l') (m ++ m')
  | [], [], _, _, _, h => h
  | _ :: _, _ :: _, _, _, hh, h => ⟨hh.1, All2.append hh.2 h⟩
  | [], _ :: _, _, _, hh, _ => hh.elim
  | _ :: _, [], _, _, hh, _ => hh.elim
theorem All2.take {α β : Type} {R : α → β → Prop} : ∀ {l : List α} {m : List β} (_ : All2 R l m) (n : Nat), All2 R (l.take n) (m.take n)
  | [], [], _, 0 => trivial
  | [], [], _, _ + 1 => trivial
  | _ :: _, _ :: _, _, 0 => trivial
  | _ :: _, _ :: _, hh, n + 1 => ⟨hh.1, All2.take hh.2 n⟩
  | [], _ :: _, hh, _ => hh.elim
  | _ :: _, [], hh, _ => hh.elim
theorem All2.drop {α β : Type} {R : α → β → Prop} : ∀ {l : List α} {m : List β} (_ : All2 R l m) (n : Nat), All2 R (l.drop n) (m.drop n)
  | [], [], _, 0 => trivial
  | [], [], _, _ + 1 => trivial
  | _ :: _, _ :: _, hh, 0 => hh
  | _ :: _, _ :: _, hh, n + 1 => All2.drop hh.2 n
  | [], _ :: _, hh, _ => hh.elim
  | _ :: _, [], hh, _ => hh.elim
theorem All2.map_left {α β γ : Type} {R : α → β → Prop} {S : γ → β → Prop} (f : α → γ) (h : ∀ a b, R a b → S (f a) b) : ∀ {l : List α} {m : List β}, All2 R l m → All2 S (l.map f) m
  | [], [], _ => trivial
  | _ :: _, _ :: _, hh => ⟨h _ _ hh.1, All2.map_left f h hh.2⟩
  | [], _ :: _, hh => hh.elim
  | _ :: _, [], hh => hh.elim

def D.len : D → Nat | .ints l => l.length | .rows l => l.length | _ => 0
def esz (T : Tab) (t : TypeId) : Nat := match T t with | some e => e.size | none => 0
def oneV : Value → Bool | .agg _ => false | .tuple _ => false | _ => true

/-- the block of an own row, as a slice's value tells it -/
def RowVal (T : Tab) (w : World) (t : TypeId) (len : Nat) : Option Nat → Value → Prop
  | none, y => len = 0 ∧ ∃ a, y = .slice a 0 0
  | some b, y => ∃ cap cs te, y = .slice (some ⟨b, 0, none⟩) len cap ∧ w.heap[b]? = some (.cells cs te (0, 0)) ∧ cs.size = cap * esz T t ∧ len ≤ cap
def DenE (T : Tab) (w : World) (A : Nat → Prop) (cts : List Ct) (row : List D) (a : Addr) : Prop :=
  row.length = cts.length ∧ ∃ vs : Nat → Value, ∀ (j : Nat) ct d, cts[j]? = some ct → row[j]? = some d → At w A (a.add j) (vs j) ∧ Rd T w A ct (vs j) d
def DenC (T : Tab) (w : World) (β : Nat → Option Nat) (A : Nat → Prop) (own : Own) : C → Value → Prop
  | .v x, y => y = x ∧ oneV x = true
  | .d t x, y => Rd T w A (.sl t) y x
  | .z _, y => ∃ a, y = .slice a 0 0
  | .p n off, y => ∃ b t l, own n = some (.cells t l) ∧ β n = some b ∧ y = .pointer (some ⟨b, off, none⟩)
  | .e cts row off, y => ∃ a : Addr, y = .pointer (some (a.add off)) ∧ DenE T w A cts row a
  | .r n t, y => ∃ x, own n = some (.row t x) ∧ RowVal T w t x.len (β n) y
  | .q n i off, y => ∃ t x b, own n = some (.row t x) ∧ β n = some b ∧ 0 ≤ i ∧ i < x.len ∧ y = .pointer (some ⟨b, i.toNat * esz T t + off, none⟩)
  | .m n t, y => ∃ l b, own n = some (.map t l) ∧ β n = some b ∧ y = .map (some b)
  | .bad, y => oneV y = true
def DenU (T : Tab) (w : World) (β : Nat → Option Nat) (A : Nat → Prop) (own : Own) : U → Value → Prop
  | .c x, y => DenC T w β A own x y
  | .a l, y => ∃ cs, y = .agg cs.toArray ∧ All2 (DenC T w β A own) l cs
def DenS (T : Tab) (w : World) (β : Nat → Option Nat) (A : Nat → Prop) (own : Own) : SV → Value → Prop
  | .u x, y => DenU T w β A own x y
  | .t l, y => ∃ vs, y = .tuple vs.toArray ∧ All2 (DenU T w β A own) l vs
theorem Rd.oneV {T : Tab} {w : World} {A : Nat → Prop} {c : Ct} {v : Value} {d : D} (h : Rd T w A c v d) : oneV v = true := by cases h <;> rfl
theorem RowVal.oneV {T : Tab} {w : World} {t : TypeId} {n : Nat} {b : Option Nat} {v : Value} (h : RowVal T w t n b v) : Sx.oneV v = true := by
  cases b with
  | none => obtain ⟨_, _, rfl⟩ := h; rfl
  | some b => obtain ⟨_, _, _, rfl, _⟩ := h; rfl
theorem DenC.oneV {T : Tab} {w : World} {β : Nat → Option Nat} {A : Nat → Prop} {own : Own} {c : C} {v : Value} (h : DenC T w β A own c v) : oneV v = true := by
  cases c with
  | v x => exact h.1 ▸ h.2
  | d t x => exact Rd.oneV h
  | z t => obtain ⟨a, rfl⟩ := h; rfl
  | p n off => obtain ⟨b, t, l, _, _, rfl⟩ := h; rfl
  | e cts row off => obtain ⟨a, rfl, _⟩ := h; rfl
  | r n t => obtain ⟨x, _, h⟩ := h; exact h.oneV
  | q n i off => obtain ⟨t, x, b, _, _, _, _, rfl⟩ := h; rfl
  | m n t => obtain ⟨l, b, _, _, rfl⟩ := h; rfl
  | bad => exact h

/-- the own blocks' shapes stay -/
def Keep (own : Own) (w : World) (β : Nat → Option Nat) (own' : Own) (w' : World) (β' : Nat → Option Nat) : Prop :=
  ∀ n B, own n = some B → β' n = β n ∧ match B with
    | .cells _ _ => ∃ t l, own' n = some (.cells t l)
    | .row t x => ∃ x', own' n = some (.row t x') ∧ x'.len = x.len ∧ ∀ b cs te, β n = some b → w.heap[b]? = some (.cells cs te (0, 0)) → ∃ cs', w'.heap[b]? = some (.cells cs' te (0, 0)) ∧ cs'.size = cs.size
    | .map t _ => ∃ l, own' n = some (.map t l)
theorem Keep.refl (own : Own) (w : World) (β : Nat → Option Nat) : Keep own w β own w β := by
  intro n B h
  refine ⟨rfl, ?_⟩
  cases B with
  | cells t l => exact ⟨_, _, h⟩
  | row t x => exact ⟨_, h, rfl, fun b cs te _ hb => ⟨_, hb, rfl⟩⟩
  | map t l => exact ⟨_, h⟩
theorem RowVal.keep {T : Tab} {w w' : World} {t : TypeId} {n : Nat} {b : Option Nat} {v : Value} (h : RowVal T w t n b v)
    (k : ∀ c cs te, b = some c → w.heap[c]? = some (.cells cs te (0, 0)) → ∃ cs', w'.heap[c]? = some (.cells cs' te (0, 0)) ∧ cs'.size = cs.size) : RowVal T w' t n b v := by
  cases b with
  | none => exact h
  | some b =>
    obtain ⟨cap, cs, te, e, hb, hs⟩ := h
    obtain ⟨cs', h1, h2⟩ := k b cs te rfl hb
    exact ⟨cap, cs', te, e, h1, by rw [h2]; exact hs⟩
theorem DenE.stay {T : Tab} {w w' : World} {A A' : Nat → Prop} {cts : List Ct} {row : List D} {a : Addr} (s : Stay w A w' A') (h : DenE T w A cts row a) : DenE T w' A' cts row a := by
  obtain ⟨h0, vs, h1⟩ := h
  exact ⟨h0, vs, fun j ct d a b => ⟨(h1 j ct d a b).1.stay s, (h1 j ct d a b).2.stay s⟩⟩
section
variable {T : Tab} {w w' : World} {β β' : Nat → Option Nat} {A A' : Nat → Prop} {own own' : Own}
theorem DenC.keep (s : Stay w A w' A') (k : Keep own w β own' w' β') {c : C} {v : Value} (h : DenC T w β A own c v) : DenC T w' β' A' own' c v := by
  cases c with
  | v x => exact h
  | d t x => exact Rd.stay s h
  | z t => exact h
  | p n off =>
    obtain ⟨b, t, l, h1, h2, rfl⟩ := h
    obtain ⟨hb, t', l', h3⟩ := k n _ h1
    exact ⟨b, t', l', h3, hb.trans h2, rfl⟩
  | e cts row off => obtain ⟨a, h1, h2⟩ := h; exact ⟨a, h1, h2.stay s⟩
  | r n t =>
    obtain ⟨x, h1, h2⟩ := h
    obtain ⟨hb, x', h3, h4, h5⟩ := k n _ h1
    exact ⟨x', h3, by rw [h4, hb]; exact h2.keep fun c cs te e hc => h5 c cs te e hc⟩
  | q n i off =>
    obtain ⟨t, x, b, h1, h2, h3, h4, rfl⟩ := h
    obtain ⟨hb, x', h5, h6, _⟩ := k n _ h1
    exact ⟨t, x', b, h5, hb.trans h2, h3, by rw [h6]; exact h4, rfl⟩
  | m n t =>
    obtain ⟨l, b, h1, h2, rfl⟩ := h
    obtain ⟨hb, l', h3⟩ := k n _ h1
    exact ⟨l', b, h3, hb.trans h2, rfl⟩
  | bad => exact h
theorem DenU.keep (s : Stay w A w' A') (k : Keep own w β own' w' β') {u : U} {v : Value} (h : DenU T w β A own u v) : DenU T w' β' A' own' u v := by
  cases u with
  | c x => exact DenC.keep s k h
  | a l => obtain ⟨cs, e, hh⟩ := h; exact ⟨cs, e, hh.mono fun _ _ => DenC.keep s k⟩
theorem DenS.keep (s : Stay w A w' A') (k : Keep own w β own' w' β') {u : SV} {v : Value} (h : DenS T w β A own u v) : DenS T w' β' A' own' u v := by
  cases u with
  | u x => exact DenU.keep s k h
  | t l => obtain ⟨cs, e, hh⟩ := h; exact ⟨cs, e, hh.mono fun _ _ => DenU.keep s k⟩
end
end Sx
/-! States and worlds. -/
namespace Sx
open Go

structure Glob where
  ng : Nat
  cells : List (Nat × Value)
def GOk (G : Glob) (w : World) : Prop := G.ng ≤ w.heap.size ∧ ∀ gv ∈ G.cells, gv.1 < G.ng ∧ w.cell? ⟨gv.1, 0, none⟩ = some gv.2
def Av (X : Nat → Prop) (β : Nat → Option Nat) (own : Own) (b : Nat) : Prop := X b ∨ ∃ n, own n ≠ none ∧ β n = some b
/-- what an own row's cells read as -/
def RowRd (T : Tab) (w : World) (A : Nat → Prop) (t : TypeId) (x : D) (cs : Array Value) : Prop :=
  (∃ k l, T t = some (.ints k) ∧ x = .ints l ∧ ∀ (i : Nat) n, l[i]? = some n → cs[i]? = some (.int k n)) ∨
  (∃ c l, T t = some (.rows c) ∧ x = .rows l ∧ ∃ vs : Nat → Nat → Value, (∀ (i : Nat) e, l[i]? = some e → e.length = c.length) ∧
    (∀ (i : Nat) e (j : Nat) d, l[i]? = some e → e[j]? = some d → cs[i * c.length + j]? = some (vs i j)) ∧
    (∀ (i : Nat) e (j : Nat) ct d, l[i]? = some e → c[j]? = some ct → e[j]? = some d → Rd T w A ct (vs i j) d))
theorem RowRd.stay {T : Tab} {w w' : World} {A A' : Nat → Prop} {t : TypeId} {x : D} {cs : Array Value} (s : Stay w A w' A') (h : RowRd T w A t x cs) : RowRd T w' A' t x cs := by
  rcases h with h | ⟨c, l, h1, h2, vs, h3, h4, h5⟩
  · exact .inl h
  · exact .inr ⟨c, l, h1, h2, vs, h3, h4, fun i e j ct d a b c => (h5 i e j ct d a b c).stay s⟩
def RowAt (T : Tab) (w : World) (t : TypeId) (len : Nat) (cs : Array Value) : Option Nat → Prop
  | none => len = 0
  | some b => ∃ te cap, w.heap[b]? = some (.cells cs te (0, 0)) ∧ cs.size = cap * esz T t ∧ len ≤ cap
def MapRd (T : Tab) (w : World) (A : Nat → Prop) (t : TypeId) (l : List (ByteArray × List D)) (es : Array MapEntry) (clock : Nat) : Prop :=
  ∃ c, T t = some (.rows c) ∧ es.size = l.length ∧ (es.toList.map (·.born)).Nodup ∧ (∀ e ∈ es, e.born < clock) ∧
    ∀ (i : Nat) kr, l[i]? = some kr → kr.2.length = c.length ∧ ∃ born, ∃ vs : List Value, es[i]? = some ⟨.string kr.1, .agg vs.toArray, born⟩ ∧ vs.length = c.length ∧
      ∀ (j : Nat) ct v d, c[j]? = some ct → vs[j]? = some v → kr.2[j]? = some d → Rd T w A ct v d
theorem MapRd.stay {T : Tab} {w w' : World} {A A' : Nat → Prop} {t : TypeId} {l : List (ByteArray × List D)} {es : Array MapEntry} {k : Nat} (s : Stay w A w' A') (h : MapRd T w A t l es k) : MapRd T w' A' t l es k := by
  obtain ⟨c, h1, h2, h3, h4, h5⟩ := h
  refine ⟨c, h1, h2, h3, h4, fun i kr hi => ?_⟩
  obtain ⟨h6, born, vs, h7, h8, h9⟩ := h5 i kr hi
  exact ⟨h6, born, vs, h7, h8, fun j ct v d a b c => (h9 j ct v d a b c).stay s⟩
def BlkOk (T : Tab) (w : World) (β : Nat → Option Nat) (A : Nat → Prop) (own : Own) (n : Nat) : Blk → Prop
  | .cells t l => ∃ b cs, β n = some b ∧ w.heap[b]? = some (.cells (List.toArray cs) t (0, 0)) ∧ All2 (DenC T w β A own) l cs
  | .row t x => ∃ cs, RowRd T w A t x cs ∧ RowAt T w t x.len cs (β n)
  | .map t l => ∃ b es clock, β n = some b ∧ w.heap[b]? = some (.map es clock) ∧ MapRd T w A t l es clock
structure OwnOk (T : Tab) (G : Glob) (w : World) (β : Nat → Option Nat) (X : Nat → Prop) (own : Own) : Prop where
  blk : ∀ n B, own n = some B → BlkOk T w β (Av X β own) own n B
  inj : ∀ n m b, own n ≠ none → own m ≠ none → β n = some b → β m = some b → n = m
  loc : ∀ n b, own n ≠ none → β n = some b → b < w.heap.size ∧ ¬ X b ∧ G.ng ≤ b
structure Fr (w w' : World) (L : Nat → Prop) : Prop where
  os : w'.os = w.os
  tape : w'.tape = w.tape
  output : w'.output = w.output
  size : w.heap.size ≤ w'.heap.size
  heap : ∀ b, b < w.heap.size → ¬ L b → w'.heap[b]? = w.heap[b]?
theorem Fr.refl (w : World) (L : Nat → Prop) : Fr w w L := ⟨rfl, rfl, rfl, Nat.le_refl _, fun _ _ _ => rfl⟩
theorem Fr.trans {a b c : World} {L M : Nat → Prop} (h : Fr a b L) (k : Fr b c M) (hm : ∀ x, x < a.heap.size → M x → L x) : Fr a c L :=
  ⟨k.os.trans h.os, k.tape.trans h.tape, k.output.trans h.output, Nat.le_trans h.size k.size,
   fun x hx hl => (k.heap x (Nat.lt_of_lt_of_le hx h.size) fun hM => hl (hm x hx hM)).trans (h.heap x hx hl)⟩
theorem GOk.fr {G : Glob} {w w' : World} {L : Nat → Prop} (h : GOk G w) (f : Fr w w' L) (hl : ∀ b, b < G.ng → ¬ L b) : GOk G w' := by
  refine ⟨Nat.le_trans h.1 f.size, fun gv hg => ⟨(h.2 gv hg).1, ?_⟩⟩
  exact (cell_of_heap (f.heap _ (Nat.lt_of_lt_of_le (h.2 gv hg).1 h.1) (hl _ (h.2 gv hg).1))).trans (h.2 gv hg).2
/-- the shapes of the names that were there and still are -/
def Like (w : World) (β : Nat → Option Nat) (n : Nat) (w' : World) : Blk → Blk → Prop
  | .cells _ _, .cells _ _ => True
  | .row t x, .row t' x' => t' = t ∧ x'.len = x.len ∧ ∀ b cs te, β n = some b → w.heap[b]? = some (.cells cs te (0, 0)) → ∃ cs', w'.heap[b]? = some (.cells cs' te (0, 0)) ∧ cs'.size = cs.size
  | .map t _, .map t' _ => t' = t
  | _, _ => False
def KeepL (own : Own) (w : World) (β : Nat → Option Nat) (own' : Own) (w' : World) (β' : Nat → Option Nat) : Prop :=
  ∀ n B B', own n = some B → own' n = some B' → β' n = β n ∧ Like w β n w' B B'
/-- what a walk stands in -/
structure Ctx where
  T : Tab
  G : Glob
  w0 : World
  X : Nat → Prop
  L : Nat → Prop
  nt : Nat
  own0 : Own
  β0 : Nat → Option Nat
structure Rel (E : Ctx) (β : Nat → Option Nat) (env : Env) (own : Own) (a : Act) (w : World) : Prop where
  defers : a.defers = []
  size : a.tmps.size = E.nt
  vals : ∀ t sv, env t = some sv → DenS E.T w β (Av E.X β own) own sv (a.tmps.getD t undef)
  blks : OwnOk E.T E.G w β E.X own
  glob : GOk E.G w
  frame : Fr E.w0 w E.L
  mine : ∀ n b, own n ≠ none → β n = some b → E.w0.heap.size ≤ b ∨ E.L b
  xold : ∀ b, E.X b → b < E.w0.heap.size
  kept : KeepL E.own0 E.w0 E.β0 own w β
def Mine (β : Nat → Option Nat) (own : Own) (b : Nat) : Prop := ∃ n, own n ≠ none ∧ β n = some b
section
variable {E : Ctx} {β β' : Nat → Option Nat} {env : Env} {own own' : Own} {a : Act} {w w' : World}
theorem Rel.put (h : Rel E β env own a w) {d : Nat} {sv : SV} {v : Value} (hd : d < E.nt) (hv : DenS E.T w β (Av E.X β own) own sv v) : Rel E β (fset env d sv) own (a.put (some d) v) w where
  defers := h.defers
  size := by simpa [Act.put] using h.size
  vals := by
    intro t s hs
    by_cases ht : t = d
    · subst ht
      rw [fset_same] at hs
      obtain rfl := Option.some.inj hs
      have hlt : t < a.tmps.size := by rw [h.size]; exact hd
      simpa [Act.put, hlt] using hv
    · rw [fset_ne _ _ ht] at hs
      have := h.vals t s hs
      simpa [Act.put, Array.getElem?_setIfInBounds_ne (Ne.symm ht)] using this
  blks := h.blks
  glob := h.glob
  frame := h.frame
  mine := h.mine
  xold := h.xold
  kept := h.kept
theorem KeepL.keep {o1 : Own} {w1 : World} {β1 : Nat → Option Nat} (h : KeepL o1 w1 β1 own w β) (k : Keep own w β own' w' β') (hz : ∀ n, own n = none → own' n ≠ none → o1 n = none) : KeepL o1 w1 β1 own' w' β' := by
  intro n B B' h1 h2
  cases h3 : own n with
  | none => have := hz n h3 (by simp [h2]); rw [h1] at this; cases this
  | some B2 =>
    obtain ⟨e1, e2⟩ := h n B B2 h1 h3
    obtain ⟨e3, e4⟩ := k n B2 h3
    refine ⟨e3.trans e1, ?_⟩
    cases B with
    | cells t l =>
      cases B2 with
      | cells t2 l2 => obtain ⟨t3, l3, e5⟩ := e4; rw [h2] at e5; obtain rfl := Option.some.inj e5; trivial
      | _ => exact e2.elim
    | row t x =>
      cases B2 with
      | row t2 x2 =>
        obtain ⟨x3, e5, e6, e7⟩ := e4
        rw [h2] at e5
        obtain rfl := Option.some.inj e5
        obtain ⟨e8, e9, e10⟩ := e2
        refine ⟨e8, e6.trans e9, fun b cs te hb hc => ?_⟩
        obtain ⟨cs2, c1, c2⟩ := e10 b cs te hb hc
        obtain ⟨cs3, c3, c4⟩ := e7 b cs2 te (e1.trans hb) c1
        exact ⟨cs3, c3, c4.trans c2⟩
      | _ => exact e2.elim
    | map t l =>
      cases B2 with
      | map t2 l2 => obtain ⟨l3, e5⟩ := e4; rw [h2] at e5; obtain rfl := Option.some.inj e5; exact e2
      | _ => exact e2.elim
theorem BlkOk.keep {T : Tab} {A A' : Nat → Prop} {n : Nat} {B : Blk} (s : Stay w A w' A') (k : Keep own w β own' w' β') (hb : own n = some B) (hh : ∀ b, β n = some b → w'.heap[b]? = w.heap[b]?)
    (h : BlkOk T w β A own n B) : BlkOk T w' β' A' own' n B := by
  have e := (k n B hb).1
  cases B with
  | cells t l =>
    obtain ⟨b, cs, h1, h2, h3⟩ := h
    exact ⟨b, cs, e.trans h1, (hh b h1).trans h2, h3.mono fun _ _ => DenC.keep s k⟩
  | row t x =>
    obtain ⟨cs, h1, h2⟩ := h
    refine ⟨cs, h1.stay s, ?_⟩
    rw [e]
    cases hβ : β n with
    | none => rw [hβ] at h2; exact h2
    | some b => rw [hβ] at h2; obtain ⟨te, cap, h3, h4⟩ := h2; exact ⟨te, cap, (hh b hβ).trans h3, h4⟩
  | map t l =>
    obtain ⟨b, es, clock, h1, h2, h3⟩ := h
    exact ⟨b, es, clock, e.trans h1, (hh b h1).trans h2, h3.stay s⟩
/-- a step of the world that turns own blocks alone -/
theorem Rel.step (h : Rel E β env own a w) (fr : Fr w w' (Mine β own)) (hA : ∀ b, b < w.heap.size → ¬ Av E.X β own b → ¬ Av E.X β' own' b) (k : Keep own w β own' w' β')
    (ho : OwnOk E.T E.G w' β' E.X own') (hm : ∀ n b, own' n ≠ none → β' n = some b → E.w0.heap.size ≤ b ∨ E.L b)
    (hz : ∀ n, own n = none → own' n ≠ none → E.own0 n = none) : Rel E β' env own' a w' where
  defers := h.defers
  size := h.size
  vals := fun t sv hs => (h.vals t sv hs).keep ⟨fr.size, fun b hb hn => ⟨fr.heap b hb fun ⟨n, h1, h2⟩ => hn (.inr ⟨n, h1, h2⟩), hA b hb hn⟩⟩ k
  blks := ho
  glob := h.glob.fr fr fun b hb ⟨n, h1, h2⟩ => by have := (h.blks.loc n b h1 h2).2.2; omega
  frame := h.frame.trans fr fun b hb ⟨n, h1, h2⟩ => (h.mine n b h1 h2).resolve_left (by omega)
  mine := hm
  xold := h.xold
  kept := h.kept.keep k hz
theorem stay_of (h : Rel E β env own a w) (fr : Fr w w' (Mine β own)) (hA : ∀ b, b < w.heap.size → ¬ Av E.X β own b → ¬ Av E.X β' own' b) : Stay w (Av E.X β own) w' (Av E.X β' own') :=
  ⟨fr.size, fun b hb hn => ⟨fr.heap b hb fun ⟨n, h1, h2⟩ => hn (.inr ⟨n, h1, h2⟩), hA b hb hn⟩⟩
/-- the world turns nowhere that counts (a draw, blocks that nobody sees) -/
theorem Rel.idle (h : Rel E β env own a w) (fr : Fr w w' fun _ => False) : Rel E β env own a w' := by
  have s : Stay w (Av E.X β own) w' (Av E.X β own) := ⟨fr.size, fun b hb hn => ⟨fr.heap b hb id, hn⟩⟩
  have k : Keep own w β own w' β := by
    intro n B hB
    refine ⟨rfl, ?_⟩
    cases B with
    | cells t l => exact ⟨_, _, hB⟩
    | row t x => exact ⟨_, hB, rfl, fun b cs te hβ hb => ⟨cs, (fr.heap b (h.blks.loc n b (by simp [hB]) hβ).1 id).trans hb, rfl⟩⟩
    | map t l => exact ⟨_, hB⟩
  refine h.step ⟨fr.os, fr.tape, fr.output, fr.size, fun b hb _ => fr.heap b hb id⟩ (fun b _ hn => hn) k
    ⟨fun n B hB => (h.blks.blk n B hB).keep s k hB fun b hβ => fr.heap b (h.blks.loc n b (by simp [hB]) hβ).1 id, h.blks.inj, fun n b h1 h2 => ?_⟩ h.mine fun n h1 h2 => absurd h1 h2
  have := h.blks.loc n b h1 h2
  exact ⟨Nat.lt_of_lt_of_le this.1 fr.size, this.2⟩
/-- a new block -/
theorem Rel.new (h : Rel E β env own a w) {n : Nat} (hn : own n = none) (hn0 : E.own0 n = none) {o : Obj} {B : Blk}
    (hB : ∀ β', (∀ m, m ≠ n → β' m = β m) → β' n = some w.heap.size → Stay w (Av E.X β own) (w.alloc o) (Av E.X β' (fset own n B)) → Keep own w β (fset own n B) (w.alloc o) β' →
      BlkOk E.T (w.alloc o) β' (Av E.X β' (fset own n B)) (fset own n B) n B) :
    ∃ β', (∀ m, m ≠ n → β' m = β m) ∧ β' n = some w.heap.size ∧ Rel E β' env (fset own n B) a (w.alloc o) ∧ Stay w (Av E.X β own) (w.alloc o) (Av E.X β' (fset own n B)) ∧ Keep own w β (fset own n B) (w.alloc o) β' := by
  let β' : Nat → Option Nat := fun m => if m = n then some w.heap.size else β m
  have e1 : ∀ m, m ≠ n → β' m = β m := fun m hm => by simp [β', hm]
  have e2 : β' n = some w.heap.size := by simp [β']
  have hsz : (w.alloc o).heap.size = w.heap.size + 1 := by simp
  have fr : Fr w (w.alloc o) (Mine β own) := ⟨rfl, rfl, rfl, by omega, fun b hb _ => Go.RowKit.Below.heap_alloc w o b hb⟩
  have old : ∀ m, own m ≠ none → m ≠ n := fun m hm e => hm (e ▸ hn)
  have hA : ∀ b, b < w.heap.size → ¬ Av E.X β own b → ¬ Av E.X β' (fset own n B) b := by
    rintro b hb hna (hx | ⟨m, h1, h2⟩)
    · exact hna (.inl hx)
    · by_cases hm : m = n
      · subst hm; rw [e2] at h2; have := Option.some.inj h2; omega
      · rw [fset_ne _ _ hm] at h1; rw [e1 m hm] at h2; exact hna (.inr ⟨m, h1, h2⟩)
  have k : Keep own w β (fset own n B) (w.alloc o) β' := by
    intro m B' hB'
    have hm : m ≠ n := old m (by simp [hB'])
    refine ⟨e1 m hm, ?_⟩
    cases B' with
    | cells t l => exact ⟨t, l, by rw [fset_ne _ _ hm]; exact hB'⟩
    | row t x => exact ⟨x, by rw [fset_ne _ _ hm]; exact hB', rfl, fun b cs te hβ hb => ⟨cs, (Go.RowKit.Below.heap_alloc w o b (h.blks.loc m b (by simp [hB']) hβ).1).trans hb, rfl⟩⟩
    | map t l => exact ⟨l, by rw [fset_ne _ _ hm]; exact hB'⟩
  have s := stay_of h fr hA
  refine ⟨β', e1, e2, h.step fr hA k ⟨?_, ?_, ?_⟩ ?_ (fun m h1 h2 => by
    by_cases hm : m = n
    · rw [hm]; exact hn0
    · rw [fset_ne _ _ hm] at h2; exact absurd h1 h2), s, k⟩
  · intro m B' hB'
    by_cases hm : m = n
    · subst hm; rw [fset_same] at hB'; obtain rfl := Option.some.inj hB'; exact hB β' e1 e2 s k
    · rw [fset_ne _ _ hm] at hB'
      exact (h.blks.blk m B' hB').keep s k hB' fun b hβ => Go.RowKit.Below.heap_alloc w o b (h.blks.loc m b (by simp [hB']) hβ).1
  · intro m m' b h1 h2 h3 h4
    by_cases hm : m = n <;> by_cases hm' : m' = n
    · rw [hm, hm']
    · subst hm; rw [e2] at h3; rw [e1 m' hm'] at h4; rw [fset_ne _ _ hm'] at h2
      have := (h.blks.loc m' b h2 h4).1; have := Option.some.inj h3; omega
    · subst hm'; rw [e2] at h4; rw [e1 m hm] at h3; rw [fset_ne _ _ hm] at h1
      have := (h.blks.loc m b h1 h3).1; have := Option.some.inj h4; omega
    · rw [fset_ne _ _ hm] at h1; rw [fset_ne _ _ hm'] at h2; rw [e1 m hm] at h3; rw [e1 m' hm'] at h4
      exact h.blks.inj m m' b h1 h2 h3 h4
  · intro m b h1 h2
    by_cases hm : m = n
    · subst hm; rw [e2] at h2; obtain rfl := Option.some.inj h2
      refine ⟨by omega, fun hx => ?_, h.glob.1⟩
      have := h.xold _ hx; have := h.frame.size; omega
    · rw [fset_ne _ _ hm] at h1; rw [e1 m hm] at h2
      have := h.blks.loc m b h1 h2; exact ⟨by omega, this.2⟩
  · intro m b h1 h2
    by_cases hm : m = n
    · subst hm; rw [e2] at h2; obtain rfl := Option.some.inj h2; exact .inl h.frame.size
    · rw [fset_ne _ _ hm] at h1; rw [e1 m hm] at h2; exact h.mine m b h1 h2
end
end Sx
/-! What each operation does to a state. -/
namespace Sx
open Go

inductive Ty where
  | cell (c : Ct) | ptr (e : TypeId) | slice (e : TypeId) | map (k e : TypeId) | struct (fs : List (Nat × TypeId)) | array (n : Nat) (e : TypeId) | iface | other
structure TI where
  ty : Ty
  cts : List Ct
  zero : List Value
  bytes : Nat
def ctsOf (P : Program) : Nat → TypeId → List Ct
  | 0, _ => []
  | n + 1, t => match P.underlying t with
    | some .bool => [.bool]
    | some (.int k) => [.int k]
    | some .string => [.str]
    | some (.slice _) => [.sl t]
    | some (.struct fs) => fs.toList.flatMap fun f => ctsOf P n f.type
    | some (.array m e) => (List.replicate m (ctsOf P n e)).flatten
    | _ => [.oth]
def tyOf : TypeDesc → Ty
  | .bool => .cell .bool | .int k => .cell (.int k) | .string => .cell .str | .pointer e => .ptr e | .slice e => .slice e | .map k e => .map k e
  | .struct fs => .struct (fs.toList.map fun f => (f.offset, f.type)) | .array n e => .array n e | .interface _ => .iface | _ => .other
def ttOf (P : Program) (t : TypeId) : Option TI :=
  match P.underlying t, P.info? t with
  | some d, some i => match i.zero with
    | some z => let c := ctsOf P 12 t; bif c.length.beq i.size && z.cells.size.beq i.size && z.cells.toList.all oneV then some ⟨tyOf d, c, z.cells.toList, i.bytes⟩ else none
    | none => none
  | _, _ => none
abbrev TT := TypeId → Option TI
def lookT.{u} {α : Type u} : List (Nat × α) → Nat → Option α
  | [], _ => none
  | (k, v) :: r, n => bif n.beq k then some v else lookT r n
def elOf (tt : TT) (t : TypeId) : Option El :=
  match tt t with
  | some ⟨.slice e, _, _, _⟩ => match tt e with
    | some ⟨.cell (.int k), _, _, _⟩ => some (.ints k)
    | some i => some (.rows i.cts)
    | none => none
  | some ⟨.map _ e, _, _, _⟩ => match tt e with
    | some i => some (.rows i.cts)
    | none => none
  | _ => none
def TOk (P : Program) (tt : TT) : Prop := ∀ t i, tt t = some i → ttOf P t = some i

/-- the program as a walk sees it -/
structure Pr where
  P : Program
  tt : TT
  specs : List (FuncId × Spec)
def Pr.T (S : Pr) : Tab := elOf S.tt
def isAggT : Ty → Bool | .struct _ => true | .array _ _ => true | _ => false

def constSV : Value → Option SV
  | .agg cs => bif cs.toList.all oneV then some (.u (.a (cs.toList.map .v))) else none
  | .tuple _ => none
  | v => some (.u (.c (.v v)))
def ev (env : Env) : Operand → Option SV
  | .tmp t => env t
  | .const v => constSV v
  | .func f => some (.u (.c (.v (.func (.func f) #[] #[]))))
  | .global _ => none
def evC (env : Env) (x : Operand) : Option C := match ev env x with | some (.u (.c c)) => some c | _ => none
def evU (env : Env) (x : Operand) : Option U := match ev env x with | some (.u u) => some u | _ => none
def evV (env : Env) (x : Operand) : Option Value := match ev env x with | some (.u (.c (.v v))) => some v | _ => none
/-- a word, looked at -/
def C.see.{u} {ρ : Type u} (c : C) (k : C → ρ) : ρ := match c with
  | .v x => k (.v x)
  | .d t x => k (.d t x)
  | .z t => k (.z t)
  | .p n o => k (.p n o)
  | .e a b o => k (.e a b o)
  | .r n t => k (.r n t)
  | .q n i o => k (.q n i o)
  | .m n t => k (.m n t)
  | .bad => k .bad
def seeL.{u} {ρ : Type u} : List C → (List C → ρ) → ρ
  | [], k => k []
  | c :: l, k => c.see fun c => seeL l fun r => k (c :: r)
theorem see_eq.{u} {ρ : Type u} (c : C) (k : C → ρ) : c.see k = k c := by cases c <;> rfl
theorem seeL_eq.{u} {ρ : Type u} : ∀ (l : List C) (k : List C → ρ), seeL l k = k l
  | [], _ => rfl
  | c :: l, k => by rw [seeL, see_eq, seeL_eq l]
def U.see.{u} {ρ : Type u} (x : U) (k : U → ρ) : ρ := match x with
  | .c x => x.see fun x => k (.c x)
  | .a l => seeL l fun l => k (.a l)
theorem U.see_eq.{u} {ρ : Type u} (x : U) (k : U → ρ) : x.see k = k x := by
  cases x with
  | c x => show x.see (fun x => k (.c x)) = _; rw [Sx.see_eq]
  | a l => show seeL l (fun l => k (.a l)) = _; rw [seeL_eq]
def seeU.{u} {ρ : Type u} : List U → (List U → ρ) → ρ
  | [], k => k []
  | c :: l, k => c.see fun c => seeU l fun r => k (c :: r)
theorem seeU_eq.{u} {ρ : Type u} : ∀ (l : List U) (k : List U → ρ), seeU l k = k l
  | [], _ => rfl
  | c :: l, k => by rw [seeU, U.see_eq, seeU_eq l]
def SV.see.{u} {ρ : Type u} (s : SV) (k : SV → ρ) : ρ := match s with
  | .u x => x.see fun x => k (.u x)
  | .t l => seeU l fun l => k (.t l)
theorem SV.see_eq.{u} {ρ : Type u} (s : SV) (k : SV → ρ) : s.see k = k s := by
  cases s with
  | u x => show x.see (fun x => k (.u x)) = _; rw [U.see_eq]
  | t l => show seeU l (fun l => k (.t l)) = _; rw [seeU_eq]
def retC (c : C) : Out SV := .ret (.u (.c c))
def retV (v : Value) : Out SV := .ret (.u (.c (.v v)))
def U.cells : U → List C | .c x => [x] | .a l => l
/-- a cell's word, of data -/
def cOf : Ct → D → C
  | .int k, x => .v (.int k x.toInt)
  | .bool, x => .v (.bool x.toBool)
  | .str, x => .v (.string x.toStr)
  | .sl t, x => .d t x
  | .oth, _ => .bad
/-- data, of a cell's word -/
def dOf (T : Tab) : Ct → C → Option D
  | .int k, .v (.int k' n) => if k = k' then some (.int n) else none
  | .bool, .v (.bool b) => some (.bool b)
  | .str, .v (.string s) => some (.str s)
  | .sl t, .d t' x => bif t.beq t' then some x else none
  | .sl t, .v (.slice none 0 0) => match T t with | some (.ints _) => some (.ints []) | some (.rows _) => some (.rows []) | none => none
  | _, _ => none
def part? (S : Pr) (t : TypeId) (l : List C) (off : Nat) : Option U :=
  match S.tt t with
  | some i => bif isAggT i.ty then (bif (off + i.cts.length).ble l.length then some (.a ((l.drop off).take i.cts.length)) else none)
    else match l[off]? with | some c => some (.c c) | none => none
  | none => none
def rowPart? (S : Pr) (t : TypeId) (cts : List Ct) (row : List D) (off : Nat) : Option U :=
  match S.tt t with
  | some i => bif isAggT i.ty then (bif (off + i.cts.length).ble cts.length then some (.a ((List.range i.cts.length).map fun j => cOf (cts.getD (off + j) .oth) (cellD row (off + j)))) else none)
    else match cts[off]? with | some ct => some (.c (cOf ct (cellD row off))) | none => none
  | none => none
def qRow (S : Pr) (t : TypeId) (x : D) (i : Int) : Option (List Ct × List D) :=
  match S.T t, x with
  | some (.ints k), .ints l => some ([.int k], [.int (l.getD i.toNat 0)])
  | some (.rows c), .rows l => some (c, l.getD i.toNat [])
  | _, _ => none
def loadS (S : Pr) (snap : Own) (t : TypeId) : C → Option U
  | .p n off => match snap n with | some (.cells _ l) => part? S t l off | _ => none
  | .e cts row off => rowPart? S t cts row off
  | .q n i off => match snap n with
    | some (.row u x) => match qRow S u x i with | some (cts, row) => rowPart? S t cts row off | none => none
    | _ => none
  | _ => none
def lenS (snap : Own) : Ty → C → Option Int
  | .slice _, .d _ x => some (x.len : Int)
  | .slice _, .z _ => some 0
  | .slice _, .v (.slice none 0 0) => some 0
  | .cell .str, .v (.string s) => some (s.size : Int)
  | .slice _, .r n _ => match snap n with | some (.row _ x) => some (x.len : Int) | _ => none
  | .map _ _, .m n _ => match snap n with | some (.map _ l) => some (l.length : Int) | _ => none
  | _, _ => none
def dcut (T : Tab) (t : TypeId) (x : D) (lo hi : Int) : Option D :=
  match T t with
  | some (.ints _) => some (.ints ((x.toInts.take hi.toNat).drop lo.toNat))
  | some (.rows _) => some (.rows ((x.toRows.take hi.toNat).drop lo.toNat))
  | none => none
def fillC (place : Nat → Option (Nat × Nat)) (cells : List C) : List (Nat × List C) → Option (List C)
  | [] => some cells
  | (i, v) :: rest => match place i with
    | none => none
    | some (off, size) => bif v.length.beq size && (off + size).ble cells.length then fillC place (cells.take off ++ v ++ cells.drop (off + size)) rest else none
def sizeT (S : Pr) (t : TypeId) : Option Nat := (S.tt t).map (·.cts.length)
def mapO {α β : Type} (f : α → Option β) : List α → Option (List β)
  | [] => some []
  | a :: r => match f a with | some b => (match mapO f r with | some l => some (b :: l) | none => none) | none => none
def placesS (S : Pr) (fs : List (Nat × TypeId)) : Option (List (Nat × Nat)) := mapO (fun f => match sizeT S f.2 with | some n => some (f.1, n) | none => none) fs
def partsC (env : Env) (ps : List (Nat × Operand)) : Option (List (Nat × List C)) := mapO (fun p => match evU env p.2 with | some u => some (p.1, u.cells) | none => none) ps
/-- the elements of a slice written out -/
def elemsD (T : Tab) (cts : List Ct) (l : List C) : Option (List D) :=
  match cts, l with
  | [], [] => some []
  | ct :: cs, c :: l => match dOf T ct c with | some d => (match elemsD T cs l with | some r => some (d :: r) | none => none) | none => none
  | _, _ => none
def binI (op : BinOp) (k : IntKind) (a b : Int) : Out SV :=
  match op with
  | .add => retV (.int k (k.wrap (a + b)))
  | .sub => retV (.int k (k.wrap (a - b)))
  | .mul => retV (.int k (k.wrap (a * b)))
  | .quo => .need (b ≠ 0) (retV (.int k (k.wrap (a.tdiv b))))
  | .rem => .need (b ≠ 0) (retV (.int k (a.tmod b)))
  | .and => retV (.int k (k.wrap ((BitVec.ofInt k.bits a &&& BitVec.ofInt k.bits b).toNat)))
  | .or => retV (.int k (k.wrap ((BitVec.ofInt k.bits a ||| BitVec.ofInt k.bits b).toNat)))
  | .xor => retV (.int k (k.wrap ((BitVec.ofInt k.bits a ^^^ BitVec.ofInt k.bits b).toNat)))
  | .andNot => retV (.int k (k.wrap ((BitVec.ofInt k.bits a &&& ~~~ BitVec.ofInt k.bits b).toNat)))
  | .eql => retV (.bool (a == b))
  | .neq => retV (.bool (a != b))
  | .lss => retV (.bool (decide (a < b)))
  | .leq => retV (.bool (decide (a ≤ b)))
  | .gtr => retV (.bool (decide (a > b)))
  | .geq => retV (.bool (decide (a ≥ b)))
  | _ => .fail
def sameK (k k' : IntKind) : Bool := decide (k = k')
def binS (ty : Ty) (op : BinOp) (x y : C) (lit : Bool) : Out SV :=
  match x, y with
  | .v (.int k a), .v (.int k' b) => match op with
    | .shl => .need (0 ≤ b) (retV (.int k (k.wrap (a * 2 ^ (min b.toNat k.bits)))))
    | .shr => .need (0 ≤ b) (retV (.int k (a.fdiv (2 ^ (min b.toNat k.bits)))))
    | _ => bif sameK k k' then binI op k a b else .fail
  | .v (.string a), .v (.string b) => match op with
    | .eql => retV (.bool (a.toList == b.toList))
    | .neq => retV (.bool (!(a.toList == b.toList)))
    | .gtr => retV (.bool (!(Op.bytesLess a.toList b.toList || a.toList == b.toList)))
    | _ => .fail
  | .v (.bool a), .v (.bool b) => match ty, op with
    | .cell .bool, .eql => retV (.bool (a == b))
    | .cell .bool, .neq => retV (.bool (!(a == b)))
    | _, _ => .fail
  | .v (.iface _ _), .v .nilIface => match ty, op with
    | .iface, .eql => retV (.bool false)
    | .iface, .neq => retV (.bool true)
    | _, _ => .fail
  | .v .nilIface, .v .nilIface => match ty, op, lit with
    | .iface, .eql, true => retV (.bool true)
    | .iface, .neq, true => retV (.bool false)
    | _, _, _ => .fail
  | .p _ _, .v (.pointer none) => match ty, op with
    | .ptr _, .eql => retV (.bool false)
    | .ptr _, .neq => retV (.bool true)
    | _, _ => .fail
  | .v (.pointer none), .v (.pointer none) => match ty, op with
    | .ptr _, .eql => retV (.bool true)
    | .ptr _, .neq => retV (.bool false)
    | _, _ => .fail
  | .d _ xd, .v (.slice none 0 0) => match ty, op with
    | .slice _, .eql => .all Bool (fun b => b = true → xd.len = 0) ⟨false, by simp⟩ fun b => retV (.bool b)
    | .slice _, .neq => .all Bool (fun b => b = false → xd.len = 0) ⟨true, by simp⟩ fun b => retV (.bool b)
    | _, _ => .fail
  | _, _ => .fail
def isConst : Operand → Bool | .const _ => true | _ => false
def pickS (b : Bool) (x y : SV) : Out SV :=
  match x, y with
  | .u (.c (.v (.bool p))), .u (.c (.v (.bool q))) => retV (.bool (bif b then p else q))
  | .u (.c (.v (.int k m))), .u (.c (.v (.int k' n))) => bif sameK k k' then retV (.int k (bif b then m else n)) else .fail
  | _, _ => bif b then .ret x else .ret y
def optI (env : Env) (dflt : Int) : Option Operand → Option Int
  | none => some dflt
  | some x => match evV env x with | some (.int _ n) => some n | _ => none
def sliceS (S : Pr) (env : Env) (t : TypeId) (c : C) (lo hi mx : Option Operand) : Out SV :=
  match c with
  | .d u x => match mx with
    | none => match optI env 0 lo, optI env (x.len : Int) hi with
      | some l, some h => match dcut S.T u x l h with
        | some y => bif t.beq u then .need (0 ≤ l ∧ l ≤ h ∧ h ≤ (x.len : Int)) (retC (.d u y)) else .fail
        | none => .fail
      | _, _ => .fail
    | some m => match hi with
      | some hh => match optI env 0 lo, optI env 0 (some hh), optI env 0 (some m) with
        | some 0, some 0, some 0 => bif t.beq u then retC (.z u) else .fail
        | _, _, _ => .fail
      | none => .fail
  | _ => .fail
/-- maps of strings -/
def findM (s : ByteArray) : List (ByteArray × List D) → Option (List D)
  | [] => none
  | p :: l => if s = p.1 then some p.2 else findM s l
def putM (s : ByteArray) (r : List D) : List (ByteArray × List D) → List (ByteArray × List D)
  | [] => [(s, r)]
  | p :: l => if s = p.1 then (s, r) :: l else p :: putM s r l
def rowCs (cts : List Ct) (r : List D) : List C := (List.range cts.length).map fun j => cOf (cts.getD j .oth) (cellD r j)
def lookS (zero : List Value) (cts : List Ct) : Option (List D) → Out SV
  | some r => seeL (rowCs cts r) fun l => .ret (.t [.a l, .c (.v (.bool true))])
  | none => .ret (.t [.a (zero.map .v), .c (.v (.bool false))])
/-- operations that make nothing of the call's own and turn nothing -/
def opV (S : Pr) (snap : Own) (env : Env) (o : Oper) : Out SV :=
  match o.op with
  | .move x | .assign x => match ev env x with | some sv => .ret sv | none => .fail
  | .pick c x y => match evV env c, ev env x, ev env y with | some (.bool b), some p, some q => pickS b p q | _, _, _ => .fail
  | .fieldAddr s x f => match S.tt s, evC env x with
    | some ⟨.struct fs, _, _, _⟩, some c => match fs[f]? with
      | some (off, t) => match sizeT S t with
        | some (_ + 1) => match c with
          | .p n o => retC (.p n (o + off))
          | .e cts row o => retC (.e cts row (o + off))
          | .q n i o => retC (.q n i (o + off))
          | _ => .fail
        | _ => .fail
      | none => .fail
    | _, _ => .fail
  | .field t x f => match S.tt t, ev env x with
    | some ⟨.struct fs, _, _, _⟩, some (.u (.a l)) => match fs[f]? with
      | some (off, ft) => match part? S ft l off with | some u => .ret (.u u) | none => .fail
      | none => .fail
    | _, _ => .fail
  | .extract x i => match ev env x with
    | some (.t l) => match l[i]? with | some u => .ret (.u u) | none => .fail
    | _ => .fail
  | .nilCheck x => match evC env x with
    | some (.p n o) => retC (.p n o)
    | some (.e cts row o) => retC (.e cts row o)
    | some (.q n i o) => retC (.q n i o)
    | _ => .fail
  | .makeInterface t x => match S.tt t, evV env x with
    | some ⟨.cell _, _, _, _⟩, some v => retV (.iface t v)
    | _, _ => .fail
  | .load t x => match evC env x with
    | some c => match loadS S snap t c with | some u => .ret (.u u) | none => .fail
    | none => .fail
  | .indexAddr t x i => match S.tt t, evC env x, evV env i with
    | some ⟨.slice _, _, _, _⟩, some (.d u y), some (.int _ n) => bif t.beq u then (match qRow S u y n with
        | some (cts, row) => .need (0 ≤ n ∧ n < (y.len : Int)) (retC (.e cts row 0))
        | none => .fail) else .fail
    | some ⟨.slice _, _, _, _⟩, some (.r m u), some (.int _ n) => match snap m with
        | some (.row _ y) => bif t.beq u then .need (0 ≤ n ∧ n < (y.len : Int)) (retC (.q m n 0)) else .fail
        | _ => .fail
    | some ⟨.array len e, _, _, _⟩, some (.p m o), some (.int _ n) => match sizeT S e with
        | some sz => .need (0 ≤ n ∧ n < (len : Int)) (retC (.p m (o + n.toNat * sz)))
        | none => .fail
    | _, _, _ => .fail
  | .slice t x lo hi mx => match S.tt t, evC env x with | some ⟨.slice _, _, _, _⟩, some c => sliceS S env t c lo hi mx | _, _ => .fail
  | .build t ps => match S.tt t, partsC env ps.toList with
    | some ⟨.struct fs, _, z, _⟩, some l => match placesS S fs with
      | some pl => match fillC (fun i => pl[i]?) (z.map .v) l with | some r => .ret (.u (.a r)) | none => .fail
      | none => .fail
    | some ⟨.array _ e, _, z, _⟩, some l => match sizeT S e with
      | some n => match fillC (fun i => some (i * n, n)) (z.map .v) l with | some r => .ret (.u (.a r)) | none => .fail
      | none => .fail
    | _, _ => .fail
  | .binOp op t x y _ => match S.tt t, evC env x, evC env y with | some i, some c, some d => binS i.ty op c d (isConst x || isConst y) | _, _, _ => .fail
  | .unOp op _ x => match op, evV env x with
    | .not, some (.bool b) => retV (.bool (!b))
    | .neg, some (.int k n) => retV (.int k (k.wrap (0 - n)))
    | .xor, some (.int k n) => retV (.int k (k.wrap ((BitVec.ofInt k.bits (if k.signed then -1 else k.max) ^^^ BitVec.ofInt k.bits n).toNat)))
    | _, _ => .fail
  | .convert s t x => match S.tt s, S.tt t, evV env x with
    | some _, some ⟨.cell (.int k), _, _, _⟩, some (.int _ n) => retV (.int k (k.wrap n))
    | _, _, _ => .fail
  | .call ⟨.builtin .len, args, ts⟩ => match args.toList, ts.toList with
    | [x], [t] => match S.tt t, evC env x with | some i, some c => (match lenS snap i.ty c with | some n => retV (.int .i64 n) | none => .fail) | _, _ => .fail
    | _, _ => .fail
  | .call ⟨.builtin .min, args, _⟩ => match args.toList with
    | [x, y] => match evV env x, evV env y with | some (.int k a), some (.int _ b) => retV (.int k (if b < a then b else a)) | _, _ => .fail
    | _ => .fail
  | .call ⟨.builtin .max, args, _⟩ => match args.toList with
    | [x, y] => match evV env x, evV env y with | some (.int k a), some (.int _ b) => retV (.int k (if b > a then b else a)) | _, _ => .fail
    | _ => .fail
  | .buildSlice t len ps => match S.tt t, partsC env ps.toList with
    | some ⟨.slice e, _, _, _⟩, some l => bif len.beq 0 && l.isEmpty then (match sizeT S e with | some (_ + 1) => retC (.z t) | _ => .fail) else match sizeT S e, S.T t with
      | some (sz + 1), some (.ints k) => match mapO (fun p => match p.2 with | [c] => (match dOf S.T (.int k) c with | some d => some d.toInt | none => none) | _ => none) l with
        | some xs => bif (l.map (·.1) == List.range len) && (len * (sz + 1)).ble (2 ^ 24) then retC (.d t (.ints xs)) else .fail
        | none => .fail
      | some (sz + 1), some (.rows cts) => match mapO (fun p => elemsD S.T cts p.2) l with
        | some xs => bif (l.map (·.1) == List.range len) && (len * (sz + 1)).ble (2 ^ 24) then retC (.d t (.rows xs)) else .fail
        | none => .fail
      | _, _ => .fail
    | _, _ => .fail
  | .lookup t x k true => match S.tt t, evC env x, evV env k, S.T t with
    | some ⟨.map kt e, _, _, _⟩, some (.m n u), some (.string s), some (.rows cts) => match snap n, S.tt e, S.tt kt with
      | some (.map u' l), some i, some ⟨.cell .str, _, _, _⟩ => bif t.beq u' && !(i.zero.length.beq 1) then .all (Option (List D)) (fun o => findM s l = o) ⟨_, rfl⟩ (lookS i.zero cts) else .fail
      | _, _, _ => .fail
    | _, _, _, _ => .fail
  | _ => .fail
end Sx
/-! The operations that turn nothing: each does what the state says. -/
namespace Sx
open Go
set_option linter.unusedVariables false
set_option linter.unusedSimpArgs false

theorem out_ret {ρ : Type} {x : ρ} {K : ρ → Prop} (h : (Out.ret x).wp K) : K x := h
theorem wp_ite_cond {ρ : Type} {b : Bool} {x y : Out ρ} {K : ρ → Prop} (h : (bif b then x else y).wp K) : (b = true ∧ x.wp K) ∨ (b = false ∧ y.wp K) := by
  cases b
  · exact .inr ⟨rfl, h⟩
  · exact .inl ⟨rfl, h⟩
theorem wp_cond_fail {ρ : Type} {b : Bool} {x : Out ρ} {K : ρ → Prop} (h : (bif b then x else .fail).wp K) : b = true ∧ x.wp K := by
  cases b
  · exact h.elim
  · exact ⟨rfl, h⟩

section table
variable {P : Program} {tt : TT} {t : TypeId} {i : TI}
structure TIok (P : Program) (t : TypeId) (i : TI) : Prop where
  ok : ∃ d inf z, P.underlying t = some d ∧ tyOf d = i.ty ∧ P.info? t = some inf ∧ inf.size = i.cts.length ∧ inf.zero = some z ∧ z.cells.toList = i.zero ∧ i.zero.length = i.cts.length ∧ (∀ v ∈ i.zero, oneV v = true) ∧ inf.bytes = i.bytes ∧ ctsOf P 12 t = i.cts
theorem TOk.get (h : TOk P tt) (ht : tt t = some i) : TIok P t i := by
  have h1 := h t i ht
  unfold ttOf at h1
  cases hu : P.underlying t with
  | none => simp [hu] at h1
  | some d =>
    cases hi : P.info? t with
    | none => simp [hu, hi] at h1
    | some inf =>
      cases hz : inf.zero with
      | none => simp [hu, hi, hz] at h1
      | some z =>
        simp only [hu, hi, hz] at h1
        cases hb : ((ctsOf P 12 t).length.beq inf.size && z.cells.size.beq inf.size && z.cells.toList.all oneV) with
        | false => rw [hb] at h1; cases h1
        | true =>
          rw [hb] at h1
          obtain rfl := Option.some.inj h1
          simp only [Bool.and_eq_true] at hb
          have e1 := Nat.eq_of_beq_eq_true hb.1.1
          have e2 := Nat.eq_of_beq_eq_true hb.1.2
          exact ⟨d, inf, z, hu, rfl, hi, e1.symm, hz, rfl, by simpa using e2.trans e1.symm, fun v hv => List.all_eq_true.1 hb.2 v hv, rfl, rfl⟩
theorem TIok.isAgg (h : TIok P t i) (w : World) : (Go.isAgg t).run P w = .ok (isAggT i.ty) w := by
  obtain ⟨d, inf, z, hu, hd, _⟩ := h.ok
  unfold Go.isAgg
  rw [Sem.run_bind, run_underlying hu w, ← hd]
  cases d <;> rfl
theorem TIok.size (h : TIok P t i) (w : World) : (Go.sizeOf t).run P w = .ok i.cts.length w := by
  obtain ⟨d, inf, z, _, _, hi, hs, _⟩ := h.ok
  simp [Go.sizeOf, typeInfo, hi, hs]
theorem TIok.zeroV (h : TIok P t i) (w : World) : ∃ z, (zeroValue t).run P w = .ok z w ∧ z.cells.toList = i.zero := by
  obtain ⟨d, inf, z, _, _, hi, _, hz, hc, _⟩ := h.ok
  exact ⟨z, by simp [zeroValue, typeInfo, hi, hz], hc⟩
theorem TIok.slice (h : TIok P t i) {e : TypeId} (he : i.ty = .slice e) : P.underlying t = some (.slice e) := by
  obtain ⟨d, inf, z, hu, hd, _⟩ := h.ok
  rw [he] at hd
  cases d <;> simp_all [tyOf]
theorem TIok.mapT (h : TIok P t i) {k e : TypeId} (he : i.ty = .map k e) : P.underlying t = some (.map k e) := by
  obtain ⟨d, inf, z, hu, hd, _⟩ := h.ok
  rw [he] at hd
  cases d <;> simp_all [tyOf]
theorem TIok.strT (h : TIok P t i) (he : i.ty = .cell .str) : P.underlying t = some .string := by
  obtain ⟨d, inf, z, hu, hd, _⟩ := h.ok
  rw [he] at hd
  cases d <;> simp_all [tyOf]
theorem TIok.array (h : TIok P t i) {n : Nat} {e : TypeId} (he : i.ty = .array n e) : P.underlying t = some (.array n e) := by
  obtain ⟨d, inf, z, hu, hd, _⟩ := h.ok
  rw [he] at hd
  cases d <;> simp_all [tyOf]
theorem TIok.intK (h : TIok P t i) {k : IntKind} (he : i.ty = .cell (.int k)) : P.underlying t = some (.int k) := by
  obtain ⟨d, inf, z, hu, hd, _⟩ := h.ok
  rw [he] at hd
  cases d <;> simp_all [tyOf]
theorem TIok.struct (h : TIok P t i) {fs : List (Nat × TypeId)} (he : i.ty = .struct fs) : ∃ gs, P.underlying t = some (.struct gs) ∧ fs = gs.toList.map fun f => (f.offset, f.type) := by
  obtain ⟨d, inf, z, hu, hd, _⟩ := h.ok
  rw [he] at hd
  cases d <;> simp_all [tyOf]
end table

section
variable {S : Pr} {E : Ctx} {β : Nat → Option Nat} {env : Env} {own snap : Own} {a : Act} {w : World}
theorem den_all (T : Tab) (A : Nat → Prop) : ∀ (l : List Value), l.all oneV = true → All2 (DenC T w β A own) (l.map .v) l
  | [], _ => trivial
  | v :: l, h => by
    simp only [List.all_cons, Bool.and_eq_true] at h
    exact ⟨⟨rfl, h.1⟩, den_all T A l h.2⟩
theorem constSV_den (T : Tab) (A : Nat → Prop) {v : Value} {sv : SV} (h : constSV v = some sv) : DenS T w β A own sv v := by
  cases v <;> simp only [constSV, Option.some.injEq] at h <;> try (subst h; exact ⟨rfl, rfl⟩)
  · rename_i cs
    cases hb : cs.toList.all oneV with
    | false => simp [hb] at h
    | true =>
      simp only [hb, cond_true, Option.some.injEq] at h
      subst h
      exact ⟨cs.toList, by simp, den_all T A cs.toList hb⟩
  · simp at h
theorem ev_den (h : Rel E β env own a w) {x : Operand} {sv : SV} (hx : ev env x = some sv) : DenS E.T w β (Av E.X β own) own sv (a.eval x) := by
  cases x with
  | tmp t => exact h.vals t sv hx
  | const v => exact constSV_den _ _ hx
  | global g => simp [ev] at hx
  | func f => simp only [ev, Option.some.injEq] at hx; subst hx; exact ⟨rfl, rfl⟩
theorem evC_den (h : Rel E β env own a w) {x : Operand} {c : C} (hx : evC env x = some c) : DenC E.T w β (Av E.X β own) own c (a.eval x) := by
  unfold evC at hx
  split at hx
  · rename_i c' he
    obtain rfl := Option.some.inj hx
    exact ev_den h he
  · simp at hx
theorem evU_den (h : Rel E β env own a w) {x : Operand} {u : U} (hx : evU env x = some u) : DenU E.T w β (Av E.X β own) own u (a.eval x) := by
  unfold evU at hx
  split at hx
  · rename_i c' he
    obtain rfl := Option.some.inj hx
    exact ev_den h he
  · simp at hx
theorem evV_eq (h : Rel E β env own a w) {x : Operand} {v : Value} (hx : evV env x = some v) : a.eval x = v ∧ oneV v = true := by
  unfold evV at hx
  split at hx
  · rename_i c' he
    obtain rfl := Option.some.inj hx
    exact ev_den h he
  · simp at hx

/-- what an operation's soundness says: it yields a value that the state's word stands for, and turns nothing that counts -/
def VOk (S : Pr) (E : Ctx) (β : Nat → Option Nat) (own : Own) (a : Act) (w : World) (o : Oper) (K : SV → Prop) : Prop :=
  ∃ sv v w', K sv ∧ (execOp a.eval o).run S.P w = .ok (.value v) w' ∧ Fr w w' (fun _ => False) ∧ DenS E.T w' β (Av E.X β own) own sv v
theorem VOk.same {o : Oper} {K : SV → Prop} {sv : SV} {v : Value} (hk : K sv) (hr : (execOp a.eval o).run S.P w = .ok (.value v) w) (hd : DenS E.T w β (Av E.X β own) own sv v) : VOk S E β own a w o K :=
  ⟨sv, v, w, hk, hr, Fr.refl _ _, hd⟩
variable (hT : TOk S.P S.tt) (h : Rel E β env own a w) (hs : ∀ n B, snap n = some B → own n = some B) (hET : E.T = S.T)
include h in
theorem v_move {o : Oper} {x : Operand} {K : SV → Prop} (ho : o.op = .move x ∨ o.op = .assign x) (hk : (opV S snap env o).wp K) : VOk S E β own a w o K := by
  rcases ho with ho | ho <;>
  · simp only [opV, ho] at hk
    cases he : ev env x with
    | none => rw [he] at hk; exact hk.elim
    | some sv =>
      rw [he] at hk
      exact .same hk (by simp [execOp, ho]) (ev_den h he)
include h in
theorem v_pick {o : Oper} {c x y : Operand} {K : SV → Prop} (ho : o.op = .pick c x y) (hk : (opV S snap env o).wp K) : VOk S E β own a w o K := by
  simp only [opV, ho] at hk
  split at hk
  · rename_i b p q h1 h2 h3
    have hc := (evV_eq h h1).1
    have hp := ev_den h h2
    have hq := ev_den h h3
    have hrun : (execOp a.eval o).run S.P w = .ok (.value (if b then a.eval x else a.eval y)) w := by
      simp [execOp, ho, hc, asBool]
    unfold pickS at hk
    split at hk
    · rename_i p' q'
      refine .same hk hrun ?_
      have e1 : a.eval x = .bool p' := hp.1
      have e2 : a.eval y = .bool q' := hq.1
      rw [e1, e2]
      cases b <;> exact ⟨rfl, rfl⟩
    · rename_i k m k' n
      obtain ⟨hkk, hk⟩ := wp_cond_fail hk
      have ek : k = k' := of_decide_eq_true hkk
      refine .same hk hrun ?_
      have e1 : a.eval x = .int k m := hp.1
      have e2 : a.eval y = .int k' n := hq.1
      rw [e1, e2, ek]
      cases b <;> exact ⟨rfl, rfl⟩
    · cases b
      · exact .same hk hrun hq
      · exact .same hk hrun hp
  · exact hk.elim
include hT h in
theorem v_fieldAddr {o : Oper} {s : TypeId} {x : Operand} {f : Nat} {K : SV → Prop} (ho : o.op = .fieldAddr s x f) (hk : (opV S snap env o).wp K) : VOk S E β own a w o K := by
  simp only [opV, ho] at hk
  split at hk
  · rename_i fs cts z by_ c h1 h2
    have ht := hT.get h1
    obtain ⟨gs, hu, hf⟩ := ht.struct rfl
    have hc := evC_den h h2
    split at hk
    · rename_i off t h3
      have hg : ∃ g, gs[f]? = some g ∧ g.offset = off ∧ g.type = t := by
        rw [hf] at h3
        simp only [List.getElem?_map, Array.getElem?_toList, Option.map_eq_some_iff, Prod.mk.injEq] at h3
        obtain ⟨g, a1, a2, a3⟩ := h3
        exact ⟨g, a1, a2, a3⟩
      obtain ⟨g, hg1, hg2, hg3⟩ := hg
      split at hk
      · rename_i n h4
        have hsz : ∀ w : World, (Go.sizeOf g.type).run S.P w = .ok (n + 1) w := by
          intro w
          unfold sizeT at h4
          cases h5 : S.tt t with
          | none => simp [h5] at h4
          | some i => simp only [h5, Option.map_some, Option.some.injEq] at h4; have hz := (hT.get h5).size w; rw [h4] at hz; rw [hg3]; exact hz
        have hrun : ∀ ad : Addr, a.eval x = .pointer (some ad) → (execOp a.eval o).run S.P w = .ok (.value (.pointer (some (ad.add off)))) w := by
          intro ad hx
          simp [execOp, ho, Instr.fieldAt, run_underlying hu, hx, Instr.sureAddr, hg1, fieldPlace, hsz, hg2]
        split at hk
        · obtain ⟨b, t', l, a1, a2, a3⟩ := hc
          refine .same hk (hrun _ a3) ⟨b, t', l, a1, a2, ?_⟩
          rw [add_lit]
        · obtain ⟨ad, a1, a2⟩ := hc
          refine .same hk (hrun _ a1) ⟨ad, ?_, a2⟩
          rw [add_add]
        · obtain ⟨t', x', b, a1, a2, a3, a4, a5⟩ := hc
          refine .same hk (hrun _ a5) ⟨t', x', b, a1, a2, a3, a4, ?_⟩
          rw [add_lit, Nat.add_assoc]
        · exact hk.elim
      · exact hk.elim
    · exact hk.elim
  · exact hk.elim
theorem All2.drop_take {α β : Type} {R : α → β → Prop} {l : List α} {m : List β} (h : All2 R l m) (i n : Nat) : All2 R ((l.drop i).take n) ((m.drop i).take n) := (h.drop i).take n
/-- a part of an aggregate -/
theorem part_run (hT : TOk S.P S.tt) {t : TypeId} {l : List C} {off : Nat} {u : U} {cs : List Value} {A : Nat → Prop} {T : Tab} (hp : part? S t l off = some u) (hl : All2 (DenC T w β A own) l cs) :
    ∃ v, (Go.part t cs.toArray off).run S.P w = .ok v w ∧ DenU T w β A own u v := by
  unfold part? at hp
  split at hp
  · rename_i i hi
    have ht := hT.get hi
    have hag := ht.isAgg w
    have hsz := ht.size w
    cases hb : isAggT i.ty with
    | true =>
      rw [hb] at hp hag
      simp only [cond_true] at hp
      cases hle : (off + i.cts.length).ble l.length with
      | false => simp [hle] at hp
      | true =>
        simp only [hle, cond_true, Option.some.injEq] at hp
        subst hp
        refine ⟨.agg ((cs.drop off).take i.cts.length).toArray, ?_, _, rfl, hl.drop_take off _⟩
        simp only [Go.part, Sem.run_bind, hag, Result.andThen_ok, if_true, hsz, Sem.run_pure]
        congr 2
        apply Array.ext'
        simp [List.take_drop]
    | false =>
      rw [hb] at hp hag
      simp only [cond_false] at hp
      split at hp
      · rename_i c hc
        obtain rfl := Option.some.inj hp
        obtain ⟨v, hv, hd⟩ := hl.get hc
        refine ⟨v, ?_, hd⟩
        simp [Go.part, Sem.run_bind, hag, hv]
      · simp at hp
  · simp at hp
include hT h in
theorem v_field {o : Oper} {s : TypeId} {x : Operand} {f : Nat} {K : SV → Prop} (ho : o.op = .field s x f) (hk : (opV S snap env o).wp K) : VOk S E β own a w o K := by
  simp only [opV, ho] at hk
  split at hk
  · rename_i fs cts z by_ l h1 h2
    have ht := hT.get h1
    obtain ⟨gs, hu, hf⟩ := ht.struct rfl
    obtain ⟨cs, hx, hl⟩ := ev_den h h2
    split at hk
    · rename_i off t h3
      rw [hf] at h3
      simp only [List.getElem?_map, Array.getElem?_toList, Option.map_eq_some_iff, Prod.mk.injEq] at h3
      obtain ⟨g, hg1, hg2, hg3⟩ := h3
      split at hk
      · rename_i u h4
        obtain ⟨v, hr, hd⟩ := part_run hT h4 hl
        refine .same hk ?_ hd
        rw [← hg3, ← hg2] at hr
        simp [execOp, ho, Instr.field, run_underlying hu, hg1, hx, asAgg, hr]
      · exact hk.elim
    · exact hk.elim
  · exact hk.elim
include h in
theorem v_extract {o : Oper} {x : Operand} {i : Nat} {K : SV → Prop} (ho : o.op = .extract x i) (hk : (opV S snap env o).wp K) : VOk S E β own a w o K := by
  simp only [opV, ho] at hk
  split at hk
  · rename_i l h1
    obtain ⟨vs, hx, hl⟩ := ev_den h h1
    split at hk
    · rename_i u h2
      obtain ⟨v, hv, hd⟩ := hl.get h2
      refine .same hk ?_ hd
      simp [execOp, ho, Instr.extract, hx, hv]
    · exact hk.elim
  · exact hk.elim
include h in
theorem v_nilCheck {o : Oper} {x : Operand} {K : SV → Prop} (ho : o.op = .nilCheck x) (hk : (opV S snap env o).wp K) : VOk S E β own a w o K := by
  simp only [opV, ho] at hk
  have hrun : ∀ ad : Addr, a.eval x = .pointer (some ad) → (execOp a.eval o).run S.P w = .ok (.value (.pointer (some ad))) w := by
    intro ad hx
    simp [execOp, ho, hx]
  split at hk
  · rename_i n off h1
    have hc := evC_den h h1
    obtain ⟨b, t, l, a1, a2, a3⟩ := hc
    exact .same hk (hrun _ a3) ⟨b, t, l, a1, a2, rfl⟩
  · rename_i n off h1
    have hc := evC_den h h1
    obtain ⟨ad, a1, a2⟩ := hc
    exact .same hk (hrun _ a1) ⟨ad, rfl, a2⟩
  · rename_i n off h1
    have hc := evC_den h h1
    obtain ⟨t, x, b, a1, a2, a3, a4, a5⟩ := hc
    exact .same hk (hrun _ a5) ⟨t, x, b, a1, a2, a3, a4, rfl⟩
  · exact hk.elim
include hT h in
theorem v_makeInterface {o : Oper} {t : TypeId} {x : Operand} {K : SV → Prop} (ho : o.op = .makeInterface t x) (hk : (opV S snap env o).wp K) : VOk S E β own a w o K := by
  simp only [opV, ho] at hk
  split at hk
  · rename_i c cts z by_ v h1 h2
    have ht := hT.get h1
    obtain ⟨d, inf, z, hu, hd, _⟩ := ht.ok
    have hx := (evV_eq h h2).1
    refine .same hk (v := .iface t v) ?_ ⟨rfl, rfl⟩
    cases d <;> simp_all [tyOf, execOp, Instr.makeInterface, run_underlying hu]
  · exact hk.elim
end
end Sx
/-! Loads, places, parts, numbers. -/
namespace Sx
open Go
set_option linter.unusedVariables false
set_option linter.unusedSimpArgs false
section
variable {S : Pr} {E : Ctx} {β : Nat → Option Nat} {env : Env} {own snap : Own} {a : Act} {w : World}
theorem loadVar_run (hT : TOk S.P S.tt) {t : TypeId} {i : TI} (ht : S.tt t = some i) (ad : Addr) (vs : List Value) (hl : vs.length = i.cts.length) (hb : isAggT i.ty = true)
    (hc : ∀ (j : Nat) v, vs[j]? = some v → w.cell? (ad.add j) = some v) : (loadVar t ad).run S.P w = .ok (.agg vs.toArray) w := by
  have h1 := (hT.get ht).isAgg w
  have h2 := (hT.get ht).size w
  have h3 := run_loadCells_list (P := S.P) w ad vs hc
  rw [hb] at h1
  rw [hl] at h3
  simp [loadVar, Sem.run_bind, h1, h2, h3]
theorem loadVar_one (hT : TOk S.P S.tt) {t : TypeId} {i : TI} (ht : S.tt t = some i) (ad : Addr) (v : Value) (hb : isAggT i.ty = false) (hc : w.cell? ad = some v) : (loadVar t ad).run S.P w = .ok v w := by
  have h1 := (hT.get ht).isAgg w
  rw [hb] at h1
  simp [loadVar, Sem.run_bind, h1, hc]
theorem cOf_den {T : Tab} {A : Nat → Prop} {ct : Ct} {v : Value} {d : D} (h : Rd T w A ct v d) : DenC T w β A own (cOf ct d) v := by
  cases h with
  | int => exact ⟨rfl, rfl⟩
  | bool => exact ⟨rfl, rfl⟩
  | str => exact ⟨rfl, rfl⟩
  | nilI h => exact .nilI h
  | nilR h => exact .nilR h
  | ints h h1 h3 => exact .ints h h1 h3
  | rows vs h h1 h3 h4 h5 => exact .rows vs h h1 h3 h4 h5
theorem part_load (hT : TOk S.P S.tt) {t : TypeId} {l : List C} {off b : Nat} {u : U} {cs : List Value} {A : Nat → Prop} {T : Tab} (hp : part? S t l off = some u) (hl : All2 (DenC T w β A own) l cs)
    (hc : ∀ (j : Nat) v, cs[j]? = some v → w.cell? ⟨b, j, none⟩ = some v) : ∃ v, (loadVar t ⟨b, off, none⟩).run S.P w = .ok v w ∧ DenU T w β A own u v := by
  unfold part? at hp
  split at hp
  · rename_i i hi
    cases hb : isAggT i.ty with
    | true =>
      rw [hb] at hp
      simp only [cond_true] at hp
      cases hle : (off + i.cts.length).ble l.length with
      | false => simp [hle] at hp
      | true =>
        simp only [hle, cond_true, Option.some.injEq] at hp
        subst hp
        have hlen := hl.length
        have hle' := Nat.le_of_ble_eq_true hle
        refine ⟨_, loadVar_run hT hi _ ((cs.drop off).take i.cts.length) (by simp; omega) hb ?_, _, rfl, hl.drop_take off _⟩
        intro j v hv
        rw [add_lit]
        refine hc _ _ ?_
        rw [List.getElem?_take] at hv
        split at hv
        · rwa [List.getElem?_drop] at hv
        · simp at hv
    | false =>
      rw [hb] at hp
      simp only [cond_false] at hp
      split at hp
      · rename_i c hcc
        obtain rfl := Option.some.inj hp
        obtain ⟨v, hv, hd⟩ := hl.get hcc
        exact ⟨v, loadVar_one hT hi _ v hb (hc _ _ hv), hd⟩
      · simp at hp
  · simp at hp
theorem row_load (hT : TOk S.P S.tt) {t : TypeId} {cts : List Ct} {row : List D} {off : Nat} {u : U} {A : Nat → Prop} {T : Tab} {ad : Addr} (vs : Nat → Value) (hp : rowPart? S t cts row off = some u)
    (hl : row.length = cts.length) (hc : ∀ (j : Nat) ct d, cts[j]? = some ct → row[j]? = some d → w.cell? (ad.add j) = some (vs j) ∧ Rd T w A ct (vs j) d) :
    ∃ v, (loadVar t (ad.add off)).run S.P w = .ok v w ∧ DenU T w β A own u v := by
  have key : ∀ j, j < cts.length → w.cell? (ad.add j) = some (vs j) ∧ DenC T w β A own (cOf (cts.getD j .oth) (cellD row j)) (vs j) := by
    intro j hj
    have e1 : cts[j]? = some cts[j] := List.getElem?_eq_getElem hj
    have e2 : row[j]? = some row[j] := List.getElem?_eq_getElem (by omega)
    obtain ⟨h1, h2⟩ := hc j _ _ e1 e2
    refine ⟨h1, ?_⟩
    have := cOf_den (β := β) (own := own) h2
    simpa [cellD, List.getD, e1, e2] using this
  unfold rowPart? at hp
  split at hp
  · rename_i i hi
    cases hb : isAggT i.ty with
    | true =>
      rw [hb] at hp
      simp only [cond_true] at hp
      cases hle : (off + i.cts.length).ble cts.length with
      | false => simp [hle] at hp
      | true =>
        simp only [hle, cond_true, Option.some.injEq] at hp
        subst hp
        have hle' := Nat.le_of_ble_eq_true hle
        refine ⟨_, loadVar_run hT hi _ ((List.range i.cts.length).map fun j => vs (off + j)) (by simp) hb ?_, _, rfl, ?_⟩
        · intro j v hv
          rw [add_add]
          simp only [List.getElem?_map, List.getElem?_range', Option.map_eq_some_iff] at hv
          obtain ⟨j', hj', rfl⟩ := hv
          have : j' = j ∧ j < i.cts.length := by
            have := List.getElem?_eq_some_iff.1 hj'
            obtain ⟨h1, h2⟩ := this
            simp at h1 h2
            exact ⟨h2.symm, h1⟩
          rw [this.1]
          exact (key (off + j) (by omega)).1
        · refine All2.of_get (by simp) ?_
          intro j c v h1 h2
          simp only [List.getElem?_map, Option.map_eq_some_iff] at h1 h2
          obtain ⟨j1, h1, rfl⟩ := h1
          obtain ⟨j2, h2, rfl⟩ := h2
          have := List.getElem?_eq_some_iff.1 h1
          obtain ⟨hj, e1⟩ := this
          have e2 := h1.symm.trans h2
          simp at hj e1
          obtain rfl := Option.some.inj e2
          exact (key (off + j1) (by omega)).2
    | false =>
      rw [hb] at hp
      simp only [cond_false] at hp
      split at hp
      · rename_i ct hct
        obtain rfl := Option.some.inj hp
        have hj := (List.getElem?_eq_some_iff.1 hct).1
        obtain ⟨h1, h2⟩ := key off hj
        refine ⟨vs off, loadVar_one hT hi _ _ hb h1, ?_⟩
        show DenC T w β A own (cOf ct (cellD row off)) (vs off)
        simpa [List.getD, hct] using h2
      · simp at hp
  · simp at hp
theorem DenE.cells {T : Tab} {A : Nat → Prop} {cts : List Ct} {row : List D} {ad : Addr} (h : DenE T w A cts row ad) : row.length = cts.length ∧ ∃ vs : Nat → Value, ∀ (j : Nat) ct d, cts[j]? = some ct → row[j]? = some d → w.cell? (ad.add j) = some (vs j) ∧ Rd T w A ct (vs j) d := by
  obtain ⟨h0, vs, h1⟩ := h
  exact ⟨h0, vs, fun j ct d a b => ⟨(h1 j ct d a b).1.2.2, (h1 j ct d a b).2⟩⟩
theorem cell_of_block {b : Nat} {cs : Array Value} {t : TypeId} {f : Nat × Nat} (h : w.heap[b]? = some (.cells cs t f)) (j : Nat) : w.cell? ⟨b, j, none⟩ = cs[j]? := by
  simp [World.cell?, h]
/-- an own row's element, as a row of cells -/
theorem qRow_cells {A : Nat → Prop} {t : TypeId} {x : D} {i : Int} {cs : Array Value} {b : Nat} {te : TypeId} {cts : List Ct} {row : List D} (hq : qRow S t x i = some (cts, row)) (hi : 0 ≤ i ∧ i < x.len)
    (hr : RowRd S.T w A t x cs) (hb : w.heap[b]? = some (.cells cs te (0, 0))) :
    row.length = cts.length ∧ esz S.T t = cts.length ∧ ∃ vs : Nat → Value, ∀ (j : Nat) ct d, cts[j]? = some ct → row[j]? = some d → w.cell? ((⟨b, i.toNat * esz S.T t, none⟩ : Addr).add j) = some (vs j) ∧ Rd S.T w A ct (vs j) d := by
  rcases hr with ⟨k, l, h1, rfl, h2⟩ | ⟨c, l, h1, rfl, vs, h2, h3, h4⟩
  · simp only [qRow, h1, Option.some.injEq, Prod.mk.injEq] at hq
    obtain ⟨rfl, rfl⟩ := hq
    have hz : esz S.T t = 1 := by simp [esz, h1, El.size]
    refine ⟨rfl, hz, fun _ => .int k (l.getD i.toNat 0), ?_⟩
    intro j ct d hct hd
    have hlt : i.toNat < l.length := by have := hi.2; simp only [D.len] at this; omega
    have e := List.getElem?_eq_getElem hlt
    have := h2 _ _ e
    have hj : j = 0 := by
      rcases j with _ | j
      · rfl
      · simp at hct
    subst hj
    simp only [List.getElem?_cons_zero, Option.some.injEq] at hct hd
    subst hct hd
    rw [add_lit, cell_of_block hb, hz]
    simp only [Nat.mul_one, Nat.add_zero, List.getD, e, Option.getD_some]
    exact ⟨this, .int⟩
  · simp only [qRow, h1, Option.some.injEq, Prod.mk.injEq] at hq
    obtain ⟨rfl, rfl⟩ := hq
    have hz : esz S.T t = c.length := by simp [esz, h1, El.size]
    have hlt : i.toNat < l.length := by have := hi.2; simp only [D.len] at this; omega
    have e := List.getElem?_eq_getElem hlt
    have e' : l.getD i.toNat [] = l[i.toNat] := by simp [List.getD, e]
    rw [e']
    refine ⟨h2 _ _ e, hz, vs i.toNat, ?_⟩
    intro j ct d hct hd
    rw [add_lit, cell_of_block hb, hz]
    exact ⟨h3 _ _ _ _ e hd, h4 _ _ _ _ _ e hct hd⟩
variable (hT : TOk S.P S.tt) (h : Rel E β env own a w) (hs : ∀ n B, snap n = some B → own n = some B) (hET : E.T = S.T)
include hT h hs hET in
theorem loadS_run {t : TypeId} {c : C} {u : U} {y : Value} (hl : loadS S snap t c = some u) (hc : DenC E.T w β (Av E.X β own) own c y) :
    ∃ v, (Instr.loadAt t y).run S.P w = .ok v w ∧ DenU E.T w β (Av E.X β own) own u v := by
  have at_ : ∀ {ad : Addr} {v : Value}, (loadVar t ad).run S.P w = .ok v w → (Instr.loadAt t (.pointer (some ad))).run S.P w = .ok v w := by
    intro ad v hv
    simp [Instr.loadAt, Instr.sureAddr, Sem.run_bind, hv]
  unfold loadS at hl
  split at hl
  · rename_i n off
    obtain ⟨b, t', l', a1, a2, rfl⟩ := hc
    split at hl
    · rename_i t2 l hn
      have hb := h.blks.blk n _ (hs _ _ hn)
      obtain ⟨b', cs, b1, b2, b3⟩ := hb
      have : b' = b := by rw [a2] at b1; exact (Option.some.inj b1).symm
      subst this
      obtain ⟨v, hv, hd⟩ := part_load hT hl b3 (b := b') (fun j v hj => by rw [cell_of_block b2]; simpa using hj)
      exact ⟨v, at_ hv, hd⟩
    · simp at hl
  · rename_i cts row off
    obtain ⟨ad, rfl, a2⟩ := hc
    obtain ⟨h0, vs, h1⟩ := a2.cells
    obtain ⟨v, hv, hd⟩ := row_load hT (β := β) (own := own) vs hl h0 h1
    exact ⟨v, at_ hv, hd⟩
  · rename_i n i off
    obtain ⟨t', x', b, a1, a2, a3, a4, rfl⟩ := hc
    split at hl
    · rename_i u2 x hn
      have e := (hs _ _ hn).symm.trans a1
      obtain ⟨rfl, rfl⟩ : u2 = t' ∧ x = x' := by simpa using e
      obtain ⟨cs, b1, b2⟩ := h.blks.blk n _ a1
      rw [a2] at b2
      obtain ⟨te, cap, b3, b4, b5⟩ := b2
      split at hl
      · rename_i cts row hq
        rw [hET] at b1
        obtain ⟨h0, hz, vs, h1⟩ := qRow_cells (S := S) hq ⟨a3, a4⟩ b1 b3
        obtain ⟨v, hv, hd⟩ := row_load hT (β := β) (own := own) vs hl h0 h1
        refine ⟨v, ?_, by rw [hET]; exact hd⟩
        rw [add_lit] at hv
        rw [hET]
        exact at_ hv
      · simp at hl
    · simp at hl
  · simp at hl
include hT h hs hET in
theorem v_load {o : Oper} {t : TypeId} {x : Operand} {K : SV → Prop} (ho : o.op = .load t x) (hk : (opV S snap env o).wp K) : VOk S E β own a w o K := by
  simp only [opV, ho] at hk
  split at hk
  · rename_i c h1
    split at hk
    · rename_i u h2
      obtain ⟨v, hv, hd⟩ := loadS_run hT h hs hET h2 (evC_den h h1)
      refine .same hk ?_ hd
      simp [execOp, ho, Sem.run_bind, hv]
    · exact hk.elim
  · exact hk.elim
end
end Sx
/-! Maps of strings: what looking up, setting, making one does. -/
namespace Sx
open Go
set_option linter.unusedVariables false
set_option linter.unusedSimpArgs false
theorem bytesB (a b : ByteArray) : (a == b) = true ↔ a = b := by
  obtain ⟨x⟩ := a
  obtain ⟨y⟩ := b
  show (x == y) = true ↔ _
  simp
theorem findNow_str (s : ByteArray) : ∀ (l : List (ByteArray × List D)) (es : List MapEntry) (i : Nat), es.length = l.length → (∀ (j : Nat) kr, l[j]? = some kr → ∃ v b, es[j]? = some ⟨.string kr.1, v, b⟩) →
    (Instr.findNow .string (.string s) es i = some none ∧ findM s l = none ∧ ∀ r, putM s r l = l ++ [(s, r)]) ∨
    (∃ j kr v b, Instr.findNow .string (.string s) es i = some (some (i + j, v)) ∧ l[j]? = some kr ∧ es[j]? = some ⟨.string kr.1, v, b⟩ ∧ kr.1 = s ∧ findM s l = some kr.2 ∧ ∀ r, putM s r l = l.set j (s, r))
  | [], es, i, hl, _ => by
    obtain rfl : es = [] := List.length_eq_zero_iff.1 hl
    exact .inl ⟨rfl, rfl, fun _ => rfl⟩
  | p :: l, [], i, hl, _ => by simp at hl
  | p :: l, e :: es, i, hl, hk => by
    obtain ⟨v, b, he⟩ := hk 0 p rfl
    have he : e = ⟨.string p.1, v, b⟩ := Option.some.inj he
    subst he
    by_cases c : s = p.1
    · subst c
      refine .inr ⟨0, p, v, b, ?_, rfl, rfl, rfl, by rw [findM, if_pos rfl], fun r => by rw [putM, if_pos rfl]; rfl⟩
      have hy : (p.1 == p.1) = true := (bytesB _ _).2 rfl
      simp only [Instr.findNow, Instr.sameNow, hy]
      rfl
    · have hn : (s == p.1) = false := by
        cases h : (s == p.1) with
        | false => rfl
        | true => exact absurd ((bytesB _ _).1 h) c
      rcases findNow_str s l es (i + 1) (by simpa using hl) (fun j kr hj => hk (j + 1) kr hj) with ⟨h1, h2, h3⟩ | ⟨j, kr, v', b', h1, h2, h3, h4, h5, h6⟩
      · refine .inl ⟨?_, by rw [findM, if_neg c]; exact h2, fun r => by rw [putM, if_neg c, h3]; rfl⟩
        simp only [Instr.findNow, Instr.sameNow, hn]; exact h1
      · refine .inr ⟨j + 1, kr, v', b', ?_, h2, h3, h4, by rw [findM, if_neg c]; exact h5, fun r => by rw [putM, if_neg c, h6]; rfl⟩
        simp only [Instr.findNow, Instr.sameNow, hn]
        rw [h1, show i + 1 + j = i + (j + 1) by omega]
theorem check_run {P : Program} {kt : TypeId} {s : ByteArray} {e : Bool} {w : World} (hk : P.underlying kt = some .string) : (Instr.checkKey e 10000 kt (.string s)).run P w = .ok () w := by
  rw [show (10000 : Nat) = 9999 + 1 from rfl, Instr.checkKey]
  simp only [Sem.run_bind, run_underlying hk, Result.andThen_ok]
  rfl
theorem findKey_run {P : Program} {kt : TypeId} {s : ByteArray} {es : List MapEntry} {w : World} {r : Option (Nat × Value)} (hk : P.underlying kt = some .string) (hf : Instr.findNow .string (.string s) es 0 = some r) : (Instr.findKey kt (.string s) es).run P w = .ok r w := by
  unfold Instr.findKey
  simp only [Sem.run_bind, run_underlying hk, Result.andThen_ok, hf]
  rfl
theorem getObj_run {P : Program} {b : Nat} {es : Array MapEntry} {clock : Nat} {w : World} (hg : w.heap[b]? = some (.map es clock)) : (getObj b).run P w = .ok (.map es clock) w := by
  simp [getObj, Sem.run, hg]
theorem lookup_run {P : Program} {t kt e : TypeId} {s : ByteArray} {b : Nat} {es : Array MapEntry} {clock : Nat} {w : World} {z : Value} (hu : P.underlying t = some (.map kt e)) (hk : P.underlying kt = some .string) (hg : w.heap[b]? = some (.map es clock)) (hz : (zeroValue e).run P w = .ok z w)
    {r : Option (Nat × Value)} (hf : Instr.findNow .string (.string s) es.toList 0 = some r) : (Instr.lookup t (.map (some b)) (.string s) true).run P w = .ok (.tuple #[(match r with | some p => p.2 | none => z), .bool (match r with | some _ => true | none => false)]) w := by
  unfold Instr.lookup
  simp only [Sem.run_bind, run_underlying hu, Result.andThen_ok, getObj_run hg, Sem.run_pure, check_run hk, findKey_run hk hf]
  cases r with
  | none => simp only [Sem.run_bind, hz, Result.andThen_ok, Sem.run_pure]; rfl
  | some p => simp only [Sem.run_pure, Result.andThen_ok]; rfl
theorem setObj_run {P : Program} {b : Nat} {o : Obj} {es : Array MapEntry} {clock : Nat} {w : World} (hg : w.heap[b]? = some (.map es clock)) : (setObj b o).run P w = .ok () { w with heap := w.heap.set! b o } := by
  simp [setObj, Sem.run, hg]
theorem same_run {P : Program} {s : ByteArray} {w : World} : (Instr.keyThatStays (.string s) (.string s)).run P w = .ok (.string s) w := by
  have hy : (s == s) = true := (bytesB _ _).2 rfl
  unfold Instr.keyThatStays
  rw [if_pos (by rw [show (10000 : Nat) = 9999 + 1 from rfl]; simp only [Instr.sameBits]; exact hy)]
  rfl
def putO (es : Array MapEntry) (clock : Nat) (s : ByteArray) (v : Value) : Option (Nat × Value) → Obj
  | some p => .map (es.modify p.1 fun e => { e with key := .string s, val := v }) clock
  | none => .map (es.push { key := .string s, val := v, born := clock }) (clock + 1)
theorem put_run {P : Program} {t kt e : TypeId} {s : ByteArray} {b : Nat} {es : Array MapEntry} {clock : Nat} {w : World} {v : Value} (hu : P.underlying t = some (.map kt e)) (hk : P.underlying kt = some .string) (hg : w.heap[b]? = some (.map es clock))
    {r : Option (Nat × Value)} (hf : Instr.findNow .string (.string s) es.toList 0 = some r) (hr : ∀ i x, r = some (i, x) → ∃ y c, es[i]? = some ⟨.string s, y, c⟩) : (Instr.mapUpdate t (.map (some b)) (.string s) v).run P w =
      .ok () { w with heap := w.heap.set! b (putO es clock s v r) } := by
  unfold Instr.mapUpdate
  simp only [Sem.run_bind, run_underlying hu, Result.andThen_ok, getObj_run hg, check_run hk, findKey_run hk hf]
  cases r with
  | none => exact setObj_run hg
  | some p =>
    obtain ⟨i, x⟩ := p
    obtain ⟨y, c, hy⟩ := hr i x rfl
    simp only [hy, Option.map_some, Option.getD_some, Sem.run_bind, same_run, Result.andThen_ok]
    exact setObj_run hg
theorem rowCs_den {T : Tab} {w : World} {β : Nat → Option Nat} {A : Nat → Prop} {own : Own} {cts : List Ct} {r : List D} {vs : List Value} (h1 : r.length = cts.length) (h2 : vs.length = cts.length)
    (h3 : ∀ (j : Nat) ct v d, cts[j]? = some ct → vs[j]? = some v → r[j]? = some d → Rd T w A ct v d) : All2 (DenC T w β A own) (rowCs cts r) vs := by
  refine All2.of_get (by simp [rowCs, h2]) fun j c v hc hv => ?_
  have hj : j < cts.length := by
    have := (List.getElem?_eq_some_iff.1 hv).1; omega
  unfold rowCs at hc
  rw [List.getElem?_map, List.getElem?_range hj] at hc
  simp only [Option.map_some, Option.some.injEq] at hc
  subst hc
  have e1 : cts[j]? = some cts[j] := List.getElem?_eq_getElem hj
  have e2 : r[j]? = some r[j] := List.getElem?_eq_getElem (by omega)
  have := cOf_den (β := β) (own := own) (h3 j _ _ _ e1 hv e2)
  simpa [cellD, List.getD, e1, e2] using this
theorem keys_at {T : Tab} {w : World} {A : Nat → Prop} {t : TypeId} {l : List (ByteArray × List D)} {es : Array MapEntry} {clock : Nat} (h : MapRd T w A t l es clock) : es.toList.length = l.length ∧ ∀ (j : Nat) kr, l[j]? = some kr → ∃ v b, es.toList[j]? = some ⟨.string kr.1, v, b⟩ := by
  obtain ⟨c, h1, h2, h3, h4, h5⟩ := h
  refine ⟨by simpa using h2, fun j kr hj => ?_⟩
  obtain ⟨_, born, vs, h7, _⟩ := h5 j kr hj
  exact ⟨_, born, by simpa using h7⟩
theorem map_put {T : Tab} {w w' : World} {A A' : Nat → Prop} {t : TypeId} {l : List (ByteArray × List D)} {es : Array MapEntry} {clock : Nat} {s : ByteArray} {cts : List Ct} {ds : List D} {vs : List Value} (st : Stay w A w' A')
    (h : MapRd T w A t l es clock) (hc : T t = some (.rows cts)) (hd : ds.length = cts.length) (hv : vs.length = cts.length) (hr : ∀ (j : Nat) ct v d, cts[j]? = some ct → vs[j]? = some v → ds[j]? = some d → Rd T w A ct v d)
    {r : Option (Nat × Value)} (hf : Instr.findNow .string (.string s) es.toList 0 = some r) :
    ∃ es' clock', putO es clock s (.agg vs.toArray) r = .map es' clock' ∧ MapRd T w' A' t (putM s ds l) es' clock' := by
  obtain ⟨kl, kk⟩ := keys_at h
  have h' := h.stay st
  obtain ⟨c, h1, h2, h3, h4, h5⟩ := h'
  obtain rfl : c = cts := by rw [hc] at h1; exact (El.rows.inj (Option.some.inj h1)).symm
  have hr' : ∀ (j : Nat) ct v d, c[j]? = some ct → vs[j]? = some v → ds[j]? = some d → Rd T w' A' ct v d := fun j ct v d a b e => (hr j ct v d a b e).stay st
  rcases findNow_str s l es.toList 0 kl kk with ⟨e1, e2, e3⟩ | ⟨j, kr, v, b, e1, e2, e3, e4, e5, e6⟩
  · rw [hf] at e1
    obtain rfl := Option.some.inj e1
    refine ⟨_, _, rfl, c, hc, by rw [e3]; simp [h2], ?_, ?_, ?_⟩
    · simp only [Array.toList_push, List.map_append, List.map_cons, List.map_nil]
      refine List.nodup_append.2 ⟨h3, by simp, ?_⟩
      intro x hx y hy
      simp only [List.mem_cons, List.not_mem_nil, or_false] at hy
      subst hy
      obtain ⟨e, he, rfl⟩ := List.mem_map.1 hx
      have := h4 e (by simpa using he)
      omega
    · intro e he
      rcases Array.mem_push.1 he with he | rfl
      · have := h4 e he; omega
      · exact Nat.lt_succ_self _
    · intro i kr hi
      rw [e3] at hi
      by_cases hil : i < l.length
      · rw [List.getElem?_append_left hil] at hi
        obtain ⟨q1, born, ws, q2, q3, q4⟩ := h5 i kr hi
        refine ⟨q1, born, ws, ?_, q3, q4⟩
        rw [Array.getElem?_push, if_neg (by omega)]; exact q2
      · rw [List.getElem?_append_right (by omega)] at hi
        have hi0 : i - l.length = 0 := by
          have := (List.getElem?_eq_some_iff.1 hi).1
          simp at this; omega
        rw [hi0] at hi
        obtain rfl : (s, ds) = kr := Option.some.inj hi
        refine ⟨hd, clock, vs, ?_, hv, hr'⟩
        rw [Array.getElem?_push, if_pos (by omega)]
  · rw [hf] at e1
    obtain rfl := Option.some.inj e1
    simp only [Nat.zero_add]
    have hjs : j < es.size := by
      have := (List.getElem?_eq_some_iff.1 e3).1; simpa using this
    have hget : ∀ i, (es.modify j fun e => { e with key := .string s, val := .agg vs.toArray })[i]? = if j = i then some ⟨.string s, .agg vs.toArray, b⟩ else es[i]? := by
      intro i
      rw [Array.getElem?_modify]
      split
      · rename_i hh
        subst hh
        have e3' : es[j]? = some ⟨.string kr.1, v, b⟩ := by simpa using e3
        rw [e3']; rfl
      · rfl
    have hborn : ((es.modify j fun e => { e with key := .string s, val := .agg vs.toArray }).toList.map (·.born)) = es.toList.map (·.born) := by
      refine List.ext_getElem? fun i => ?_
      simp only [List.getElem?_map, Array.getElem?_toList, hget]
      split
      · rename_i hh
        subst hh
        have e3' : es[j]? = some ⟨.string kr.1, v, b⟩ := by simpa using e3
        rw [e3']; rfl
      · rfl
    refine ⟨_, _, rfl, c, hc, by rw [e6]; simp [h2], by rw [hborn]; exact h3, ?_, ?_⟩
    · intro e he
      have : e.born ∈ es.toList.map (·.born) := by rw [← hborn]; exact List.mem_map.2 ⟨e, (by first | exact Array.mem_toList_iff.2 he | exact Array.mem_toList.2 he | exact he.val), rfl⟩
      obtain ⟨e', he', h6⟩ := List.mem_map.1 this
      rw [← h6]; exact h4 e' (by simpa using he')
    · intro i kr' hi
      rw [e6, List.getElem?_set] at hi
      rw [hget]
      split at hi
      · rename_i hh
        subst hh
        rw [if_pos (by omega)] at hi
        obtain rfl : (s, ds) = kr' := Option.some.inj hi
        exact ⟨hd, b, vs, by rw [if_pos rfl], hv, hr'⟩
      · rename_i hh
        rw [if_neg hh]
        exact h5 i kr' hi
end Sx
/-! Elements, cuts, aggregates, numbers. -/
namespace Sx
open Go
set_option linter.unusedVariables false
set_option linter.unusedSimpArgs false
section
variable {S : Pr} {E : Ctx} {β : Nat → Option Nat} {env : Env} {own snap : Own} {a : Act} {w : World}
theorem el_size (hT : TOk S.P S.tt) {t e : TypeId} {cts : List Ct} {z : List Value} {by_ : Nat} (ht : S.tt t = some ⟨.slice e, cts, z, by_⟩) {el : El} (he : S.T t = some el) :
    ∃ i, S.tt e = some i ∧ i.cts.length = el.size ∧ ∀ w, (Go.sizeOf e).run S.P w = .ok el.size w := by
  unfold Pr.T elOf at he
  rw [ht] at he
  simp only at he
  cases hi : S.tt e with
  | none => simp [hi] at he
  | some i =>
    have hl : i.cts.length = el.size := by
      rw [hi] at he
      rcases i with ⟨ty, c, z', by'⟩
      have other : some (El.rows c) = some el → c.length = el.size := by
        intro e
        obtain rfl := Option.some.inj e
        rfl
      cases ty with
      | cell ct =>
        cases ct with
        | int k =>
          simp only [Option.some.injEq] at he
          subst he
          obtain ⟨d, inf, zz, _, _, _, _, _, _, _, _, _, hc⟩ := (hT.get hi).ok
          have hu := (hT.get hi).intK rfl
          simp only [ctsOf, hu] at hc
          simp [← hc, El.size]
        | _ => exact other he
      | _ => exact other he
    refine ⟨i, rfl, hl, fun w => ?_⟩
    rw [← hl]
    exact (hT.get hi).size w
variable (hT : TOk S.P S.tt) (h : Rel E β env own a w) (hs : ∀ n B, snap n = some B → own n = some B) (hET : E.T = S.T)
theorem need_of {ρ : Type} {p : Prop} {o : Out ρ} {K : ρ → Prop} (h : (Out.need p o).wp K) : p ∧ o.wp K := h
/-- the element that is read, of data -/
theorem data_elem {T : Tab} {A : Nat → Prop} {t : TypeId} {y : D} {n : Int} {v : Value} {cts : List Ct} {row : List D} (hd : Rd T w A (.sl t) v y) (hT : T = S.T) (hq : qRow S t y n = some (cts, row)) (hn : 0 ≤ n ∧ n < (y.len : Int)) :
    ∃ ad cap el, v = .slice (some ad) y.len cap ∧ T t = some el ∧ DenE T w A cts row (ad.add (n.toNat * el.size)) := by
  subst hT
  have hlt : n.toNat < y.len := by omega
  cases hd with
  | nilI h => simp [D.len] at hlt
  | nilR h => simp [D.len] at hlt
  | @ints t k l ad cap h h1 h3 =>
    simp only [qRow, h, Option.some.injEq, Prod.mk.injEq] at hq
    obtain ⟨rfl, rfl⟩ := hq
    refine ⟨ad, cap, _, rfl, h, rfl, fun _ => .int k (l.getD n.toNat 0), ?_⟩
    intro j ct d hct hd
    have hj : j = 0 := by
      rcases j with _ | j
      · rfl
      · simp at hct
    subst hj
    simp only [List.getElem?_cons_zero, Option.some.injEq] at hct hd
    subst hct hd
    have e := List.getElem?_eq_getElem (l := l) (i := n.toNat) hlt
    have := h3 _ _ e
    simp only [El.size, Nat.mul_one, List.getD, e, Option.getD_some]
    exact ⟨this, .int⟩
  | @rows t c l ad cap vs h h1 h3 h4 h5 =>
    simp only [qRow, h, Option.some.injEq, Prod.mk.injEq] at hq
    obtain ⟨rfl, rfl⟩ := hq
    have e := List.getElem?_eq_getElem (l := l) (i := n.toNat) hlt
    have e' : l.getD n.toNat [] = l[n.toNat] := by simp [List.getD, e]
    rw [e']
    refine ⟨ad, cap, _, rfl, h, h3 _ _ e, vs n.toNat, ?_⟩
    intro j ct d hct hd
    rw [add_add]
    exact ⟨h4 _ _ _ _ e hd, h5 _ _ _ _ _ e hct hd⟩
theorem index_run {o : Oper} {t e : TypeId} {x i : Operand} {k : IntKind} {n : Int} {ad : Addr} {len cap sz : Nat} (ho : o.op = .indexAddr t x i) (hu : S.P.underlying t = some (.slice e)) (hx : a.eval x = .slice (some ad) len cap) (hi : a.eval i = .int k n)
    (hn : 0 ≤ n ∧ n < (len : Int)) (hz : (Go.sizeOf e).run S.P w = .ok sz w) : (execOp a.eval o).run S.P w = .ok (.value (.pointer (some (ad.add (n.toNat * sz))))) w := by
  simp [execOp, ho, Instr.indexAt, asIntOf, run_underlying hu, hx, hi, hn, hz]
include hT h hs hET in
theorem v_indexAddr {o : Oper} {t : TypeId} {x i : Operand} {K : SV → Prop} (ho : o.op = .indexAddr t x i) (hk : (opV S snap env o).wp K) : VOk S E β own a w o K := by
  simp only [opV, ho] at hk
  split at hk
  · rename_i e cts z by_ u y k n h1 h2 h3
    have hd : Rd E.T w (Av E.X β own) (.sl u) (a.eval x) y := evC_den h h2
    have hi := (evV_eq h h3).1
    obtain ⟨hu, hk1⟩ := wp_cond_fail hk
    clear hk
    obtain rfl := Nat.eq_of_beq_eq_true hu
    split at hk1
    · rename_i cts' row hq
      obtain ⟨hn, hk2⟩ := need_of hk1
      obtain ⟨ad, cap, el, hv, hel, hde⟩ := data_elem hd hET hq hn
      rw [hET] at hel
      obtain ⟨ie, _, _, hz⟩ := el_size hT h1 hel
      refine .same hk2 (index_run ho ((hT.get h1).slice rfl) hv hi hn (hz w)) ⟨_, rfl, hde⟩
    · exact hk1.elim
  · rename_i e cts z by_ m u k n h1 h2 h3
    have hd := evC_den h h2
    have hi := (evV_eq h h3).1
    split at hk
    · rename_i tt y hm
      obtain ⟨hu, hk1⟩ := wp_cond_fail hk
      clear hk
      obtain rfl := Nat.eq_of_beq_eq_true hu
      obtain ⟨hn, hk2⟩ := need_of hk1
      clear hk1
      obtain ⟨x', b1, b2⟩ := hd
      have e' := (hs _ _ hm).symm.trans b1
      simp only [Option.some.injEq, Blk.row.injEq] at e'
      obtain ⟨rfl, rfl⟩ := e'
      cases hb : β m with
      | none => rw [hb] at b2; have := b2.1; omega
      | some b =>
        rw [hb] at b2
        obtain ⟨cap, cs, te, hv, c1, c2, c3⟩ := b2
        cases hel : S.T tt with
        | none =>
          exfalso
          obtain ⟨cs', r1, _⟩ := h.blks.blk m _ b1
          rcases r1 with ⟨k', l', r2, _⟩ | ⟨c', l', r2, _⟩ <;> rw [hET, hel] at r2 <;> cases r2
        | some el =>
          obtain ⟨ie, _, _, hz⟩ := el_size hT h1 hel
          refine .same hk2 (index_run ho ((hT.get h1).slice rfl) hv hi hn (hz w)) ⟨tt, y, b, b1, hb, hn.1, hn.2, ?_⟩
          rw [add_lit, hET]
          simp [esz, hel]
    · exact hk.elim
  · rename_i len e cts z by_ m off k n h1 h2 h3
    have hd := evC_den h h2
    have hi := (evV_eq h h3).1
    split at hk
    · rename_i sz h4
      obtain ⟨hn, hk⟩ := need_of hk
      obtain ⟨b, t', l, a1, a2, a3⟩ := hd
      have hz : (Go.sizeOf e).run S.P w = .ok sz w := by
        unfold sizeT at h4
        cases h5 : S.tt e with
        | none => simp [h5] at h4
        | some ie => simp only [h5, Option.map_some, Option.some.injEq] at h4; rw [← h4]; exact (hT.get h5).size w
      refine .same hk (v := .pointer (some ⟨b, off + n.toNat * sz, none⟩)) ?_ ⟨b, t', l, a1, a2, rfl⟩
      have hu := (hT.get h1).array rfl
      rw [← add_lit]
      simp [execOp, ho, Instr.indexAt, asIntOf, run_underlying hu, a3, hi, hn, hz, Instr.sureAddr]
    · exact hk.elim
  · exact hk.elim
end
end Sx
