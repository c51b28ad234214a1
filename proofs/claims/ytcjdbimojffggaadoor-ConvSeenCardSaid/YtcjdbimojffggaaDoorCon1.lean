/- Part of the proof: a machine of states for walks, and contracts of functions over it. Conditions: those that each theorem names. -/
import Derived.Test.YtcjdbimojffggaaDoorTabs
import Derived.Test.YtcjdbimojffggaaDoorCode
set_option linter.unusedVariables false
set_option linter.unusedSimpArgs false
/-! Words for the contracts. -/
namespace Sx
open Go Go.Proofs
set_option linter.unusedVariables false
abbrev I64 (n : Int) : C := .v (.int .i64 n)
abbrev I32 (n : Int) : C := .v (.int .i32 n)
abbrev U64 (n : Int) : C := .v (.int .u64 n)
abbrev U32 (n : Int) : C := .v (.int .u32 n)
abbrev Bo (b : Bool) : C := .v (.bool b)
abbrev St (s : ByteArray) : C := .v (.string s)
abbrev w64 (n : Int) : Int := IntKind.i64.wrap n
abbrev x64 (n : Int) : Int := IntKind.u64.wrap n
abbrev w32 (n : Int) : Int := IntKind.i32.wrap n
noncomputable abbrev PR : Program := (B []).P
noncomputable abbrev TB : Tab := (B []).T
def one (c : C) : Out SV := .ret (.u (.c c))
def agg (l : List C) : Out SV := .ret (.u (.a l))
/-- a contract, pure -/
def Ok (G : Glob) (f : FuncId) (g : List U → Out SV) : Prop := Entr PR f ∧ SoundP PR TB G f g
def OkF (G : Glob) (f : FuncId) (g : List U → List Blk → Out (SV × List (Option Blk) × List Blk)) : Prop := Entr PR f ∧ SoundF PR TB G f g
theorem noneS {G : Glob} : AllSound (B []) G := fun f sp h => by cases h
theorem AllSound.cons {G : Glob} {sp : List (FuncId × Spec)} {f : FuncId} {g : List U → Out SV} (tys : List TypeId) (h : Ok G f g) (hs : AllSound (B sp) G) : AllSound (B ((f, .pure (normG (B []) tys g)) :: sp)) G := by
  intro n s hn
  simp only [B, lookT] at hn
  cases hb : n.beq f with
  | true =>
    rw [hb] at hn
    simp only [cond_true, Option.some.injEq] at hn
    obtain rfl := Nat.eq_of_beq_eq_true hb
    subst hn
    exact ⟨h.1, SoundP.norm tys h.2⟩
  | false => rw [hb] at hn; exact hs n s hn
theorem AllSound.consF {G : Glob} {sp : List (FuncId × Spec)} {f : FuncId} {g : List U → List Blk → Out (SV × List (Option Blk) × List Blk)} (tys : List TypeId) (h : OkF G f g) (hs : AllSound (B sp) G) : AllSound (B ((f, .full (normF (B []) tys g)) :: sp)) G := by
  intro n s hn
  simp only [B, lookT] at hn
  cases hb : n.beq f with
  | true =>
    rw [hb] at hn
    simp only [cond_true, Option.some.injEq] at hn
    obtain rfl := Nat.eq_of_beq_eq_true hb
    subst hn
    exact ⟨h.1, SoundF.norm tys h.2⟩
  | false => rw [hb] at hn; exact hs n s hn
theorem okP {G : Glob} {sp : List (FuncId × Spec)} {f : FuncId} {fn : Func} {code : Code} {g : List U → Out SV} (hS : AllSound (B sp) G) (hf : PR.funcs[f]? = some fn) (hb : fn.body = some code) (hn : (fn.name == "runtime.NumGoroutine") = false)
    (hw : ∀ (K : SV → Prop) us, (g us).wp K → us.length ≤ fn.ntmps ∧ wpC (B sp) fn.ntmps code (argEnv us) (fun _ => none) (retP (B sp) fn.resultTypes.toList fn.results.toList K) (fun _ _ _ => False) (retP (B sp) fn.resultTypes.toList fn.results.toList K)) : Ok G f g :=
  sound_pure (S := B sp) (BT sp) hS hf hb hn hw
theorem okF (keep : Bool) {G : Glob} {sp : List (FuncId × Spec)} {f : FuncId} {fn : Func} {code : Code} {g : List U → List Blk → Out (SV × List (Option Blk) × List Blk)} (hS : AllSound (B sp) G) (hf : PR.funcs[f]? = some fn) (hb : fn.body = some code) (hn : (fn.name == "runtime.NumGoroutine") = false)
    (hw : ∀ (K : SV × List (Option Blk) × List Blk → Prop) us lent, (g us lent).wp K → us.length ≤ fn.ntmps ∧ wpC (B sp) fn.ntmps code (argEnv us) (lentOwn lent) (retF (B sp) fn.resultTypes.toList fn.results.toList lent.length keep K) (fun _ _ _ => False) (retF (B sp) fn.resultTypes.toList fn.results.toList lent.length keep K)) : OkF G f g :=
  sound_full keep (S := B sp) (BT sp) hS hf hb hn hw
theorem fin {ρ : Type} {K : ρ → Prop} {a b : ρ} (h : K a) (e : a = b) : K b := e ▸ h
theorem mixed {sp : List (FuncId × Spec)} : (B sp).P.follows .mixedOrders = true := by kernel_rfl
theorem wrap64 {n : Int} (h : -9223372036854775808 ≤ n ∧ n < 9223372036854775808) : IntKind.i64.wrap n = n := by rw [IntKind.wrap_i64]; omega
theorem w64_eq {n : Int} (h : -9223372036854775808 ≤ n ∧ n < 9223372036854775808) : w64 n = n := wrap64 h
end Sx
/-! Words; kinds of numbers; an error's code. -/
namespace Sx
open Go Go.Proofs
set_option linter.unusedVariables false
set_option maxRecDepth 30000
variable {G : Glob}
abbrev RF := SV × List (Option Blk) × List Blk
def errV (n : Int) : C := .v (.iface 54 (.int .i64 n))
def nilV : C := .v .nilIface
def wp1 (b : Bool) {ρ : Type} (k : Bool → Out ρ) : Out ρ := .all Bool (fun c => b = c) ⟨b, rfl⟩ k
abbrev maxL : Nat := 68719476736
abbrev nos : ByteArray := ⟨#[]⟩
def kindsB (j k : Int) : Bool := decide (j = k) && (decide (j = 1) || decide (j = 2))
def kindsS : List U → Out SV
  | [.a [.d 28 _, .v (.int .u64 _), .v (.int .u64 _), .v (.int .i64 j), .v (.int .u64 _), .d 30 _, .v (.int .u32 _), .v (.string _)], .a [.d 28 _, .v (.int .u64 _), .v (.int .u64 _), .v (.int .i64 k), .v (.int .u64 _), .d 30 _, .v (.int .u32 _), .v (.string _)]] => one (Bo (kindsB j k))
  | _ => .fail
theorem kinds_ok : Ok G 43 kindsS := by
  refine okP noneS Tryd.func43 rfl (by decide) fun K us hk => ?_
  unfold kindsS at hk
  split at hk
  · rename_i a1 a2 a3 j a4 a5 a6 a7 b1 b2 b3 k b4 b5 b6 b7
    refine ⟨by show 2 ≤ _; decide, ?_⟩
    conv => whnf
    refine Ask.i (fun c1 => ?_) (fun c1 => ?_)
    · have c1 : j = k := by simpa using (show (j == k) = true from c1)
      conv => whnf
      refine Ask.i (fun c2 => ?_) (fun c2 => ?_)
      · have c2 : j = 1 := by simpa using (show (j == 1) = true from c2)
        conv => whnf
        refine fin hk ?_
        rw [show kindsB j k = true by simp [kindsB, ← c1, c2]]
        try rfl
      · have c2 : j ≠ 1 := by simpa using (show (j == 1) = false from c2)
        conv => whnf
        refine fin hk ?_
        rw [show kindsB j k = (j == 2) by rw [kindsB, ← c1]; simp [c2]; by_cases h : j = 2 <;> simp [h]]
        try rfl
    · have c1 : j ≠ k := by simpa using (show (j == k) = false from c1)
      conv => whnf
      refine fin hk ?_
      rw [show kindsB j k = false by simp [kindsB, c1]]
      try rfl
  · exact hk.elim
def G1 : Glob := ⟨1, [(0, .iface 127 (.agg #[.pointer (some ⟨1, 25, none⟩)]))]⟩
def codeS : List U → Out SV
  | [.c (.v .nilIface)] => one (I64 0)
  | [.c (.v (.iface 54 (.int .i64 n)))] => one (I64 n)
  | _ => .fail
theorem code_ok : Ok G1 12 codeS := by
  refine ⟨⟨_, Tryd.func12, rfl, by decide⟩, ?_⟩
  intro K us X w vals hk hG hX hu
  have hL : YtcjdbimojffggaaDoor.Cd.Lays w := (hG.2 _ (List.mem_cons_self ..)).2
  have key : ∀ (o : Option Int) (vals : List Value), vals = [YtcjdbimojffggaaDoor.Cd.errV o] → K (.u (.c (I64 (YtcjdbimojffggaaDoor.Cd.codeOf o)))) → Calls PR 12 vals.toArray w fun e w' => ∃ r v, e = .returned v ∧ K r ∧ DenS TB w' (fun _ => none) X (fun _ => none) r v ∧ Fr w w' fun _ => False := by
    intro o vals e1 k1
    subst e1
    refine (YtcjdbimojffggaaDoor.Cd.code_any o w hL).mono fun e w' ⟨h1, h2⟩ => ?_
    exact ⟨_, _, h1, k1, ⟨rfl, rfl⟩, ⟨h2.os, h2.tape, h2.output, h2.size, fun b hb _ => h2.block b hb⟩⟩
  unfold codeS at hk
  split at hk
  · cases vals with
    | nil => exact hu.elim
    | cons v vs => cases vs with
      | nil => exact key none _ (by rw [hu.1.1]; rfl) hk
      | cons _ _ => exact hu.2.elim
  · rename_i n
    cases vals with
    | nil => exact hu.elim
    | cons v vs => cases vs with
      | nil => exact key (some n) _ (by rw [hu.1.1]; rfl) hk
      | cons _ _ => exact hu.2.elim
  · exact hk.elim
end Sx
/-! Typed data. -/
namespace Sx
open Go Go.Proofs
set_option linter.unusedVariables false
set_option maxRecDepth 30000
variable {G : Glob}
/-- data of its type; no list is longer than may be -/
inductive Typ (T : Tab) : Ct → D → Prop
  | int {k : IntKind} {n : Int} (h : k.min ≤ n ∧ n ≤ k.max) : Typ T (.int k) (.int n)
  | bool {b : Bool} : Typ T .bool (.bool b)
  | str {s : ByteArray} : Typ T .str (.str s)
  | ints {t : TypeId} {k : IntKind} {l : List Int} (h : T t = some (.ints k)) (hl : l.length ≤ 9223372036854775807) (hr : ∀ x ∈ l, k.min ≤ x ∧ x ≤ k.max) : Typ T (.sl t) (.ints l)
  | rows {t : TypeId} {c : List Ct} {l : List (List D)} (h : T t = some (.rows c)) (hl : l.length ≤ 9223372036854775807) (hn : ∀ r ∈ l, r.length = c.length)
      (hd : ∀ r ∈ l, ∀ (j : Nat) ct d, c[j]? = some ct → r[j]? = some d → Typ T ct d) : Typ T (.sl t) (.rows l)
/-- no list in it is long -/
inductive Small : D → Prop
  | int {n : Int} : Small (.int n)
  | bool {b : Bool} : Small (.bool b)
  | str {s : ByteArray} : Small (.str s)
  | ints {l : List Int} : Small (.ints l)
  | rows {l : List (List D)} (h : l.length ≤ 12000) (hd : ∀ r ∈ l, ∀ d ∈ r, Small d) : Small (.rows l)
theorem Typ.sl {T : Tab} {t : TypeId} {c : List Ct} {x : D} (h : Typ T (.sl t) x) (ht : T t = some (.rows c)) :
    ∃ l, x = .rows l ∧ l.length ≤ 9223372036854775807 ∧ ∀ r ∈ l, r.length = c.length ∧ ∀ (j : Nat) ct, c[j]? = some ct → Typ T ct (cellD r j) := by
  cases h with
  | ints h => rw [ht] at h; cases h
  | rows h hl hn hd =>
    rw [ht] at h
    obtain rfl := El.rows.inj (Option.some.inj h)
    refine ⟨_, rfl, hl, fun r hr => ⟨hn r hr, fun j ct hj => ?_⟩⟩
    have hlt := (List.getElem?_eq_some_iff.1 hj).1
    have : j < r.length := by rw [hn r hr]; exact hlt
    have hg := List.getElem?_eq_getElem this
    refine hd r hr j ct _ hj ?_
    rw [hg]
    simp [cellD, List.getD, hg]
theorem getD_mem {α : Type} {l : List α} {i : Nat} {a : α} (h : i < l.length) : l.getD i a ∈ l := by rw [List.getD_eq_getElem?_getD, List.getElem?_eq_getElem h]; exact List.getElem_mem h
theorem getD_get {α : Type} {l : List α} {i : Nat} {a : α} (h : i < l.length) : l.getD i a = l[i] := by rw [List.getD_eq_getElem?_getD, List.getElem?_eq_getElem h]; rfl
/-- no deeper than that -/
inductive Dp : Nat → D → Prop
  | int {k : Nat} {n : Int} : Dp k (.int n)
  | bool {k : Nat} {b : Bool} : Dp k (.bool b)
  | str {k : Nat} {s : ByteArray} : Dp k (.str s)
  | ints {k : Nat} {l : List Int} : Dp k (.ints l)
  | rows {k : Nat} {l : List (List D)} (h : l.length ≤ 12000) (hd : ∀ r ∈ l, ∀ d ∈ r, Dp k d) : Dp (k + 1) (.rows l)
theorem Dp.mono {k : Nat} {d : D} (h : Dp k d) : ∀ {m : Nat}, k ≤ m → Dp m d := by
  induction h with
  | int => intro m _; exact .int
  | bool => intro m _; exact .bool
  | str => intro m _; exact .str
  | ints => intro m _; exact .ints
  | rows h hd ih =>
    intro m hm
    cases m with
    | zero => omega
    | succ m => exact .rows h fun r hr d hd' => ih r hr d hd' (by omega)
/-- what is small has a depth -/
theorem Small.dp {d : D} (h : Small d) : ∃ k, Dp k d := by
  induction h with
  | int => exact ⟨0, .int⟩
  | bool => exact ⟨0, .bool⟩
  | str => exact ⟨0, .str⟩
  | ints => exact ⟨0, .ints⟩
  | @rows l h hd ih =>
    have one : ∀ r : List D, (∀ d ∈ r, ∃ k, Dp k d) → ∃ k, ∀ d ∈ r, Dp k d := by
      intro r
      induction r with
      | nil => intro _; exact ⟨0, fun d hd => by cases hd⟩
      | cons a r ih2 =>
        intro h2
        obtain ⟨k1, e1⟩ := h2 a (List.mem_cons_self ..)
        obtain ⟨k2, e2⟩ := ih2 fun d hd => h2 d (List.mem_cons_of_mem _ hd)
        refine ⟨max k1 k2, fun d hd => ?_⟩
        rcases List.mem_cons.1 hd with rfl | hd
        · exact e1.mono (by omega)
        · exact (e2 d hd).mono (by omega)
    have all : ∀ l : List (List D), (∀ r ∈ l, ∀ d ∈ r, ∃ k, Dp k d) → ∃ k, ∀ r ∈ l, ∀ d ∈ r, Dp k d := by
      intro l
      induction l with
      | nil => intro _; exact ⟨0, fun r hr => by cases hr⟩
      | cons a l ih2 =>
        intro h2
        obtain ⟨k1, e1⟩ := one a (h2 a (List.mem_cons_self ..))
        obtain ⟨k2, e2⟩ := ih2 fun r hr => h2 r (List.mem_cons_of_mem _ hr)
        refine ⟨max k1 k2, fun r hr d hd => ?_⟩
        rcases List.mem_cons.1 hr with rfl | hr
        · exact (e1 d hd).mono (by omega)
        · exact (e2 r hr d hd).mono (by omega)
    obtain ⟨k, hk⟩ := all l ih
    exact ⟨k + 1, .rows h hk⟩
theorem Dp.sl {k : Nat} {l : List (List D)} (h : Dp k (.rows l)) : ∃ m, k = m + 1 ∧ l.length ≤ 12000 ∧ ∀ r ∈ l, ∀ d ∈ r, Dp m d := by
  cases h with
  | rows h hd => exact ⟨_, rfl, h, hd⟩
theorem Dp.cell {k : Nat} {row : List D} (h : ∀ d ∈ row, Dp k d) {j : Nat} (hj : j < row.length) : Dp k (cellD row j) := by
  have e : cellD row j = row[j] := by simp [cellD, List.getD, hj]
  rw [e]
  exact h _ (List.getElem_mem hj)
theorem list11 {row : List D} (h : row.length = 11) : row = [cellD row 0, cellD row 1, cellD row 2, cellD row 3, cellD row 4, cellD row 5, cellD row 6, cellD row 7, cellD row 8, cellD row 9, cellD row 10] := by
  match row, h with
  | [a, b, c, d, e, f, g, i, j, k, l], _ => rfl
theorem list8 {row : List D} (h : row.length = 8) : row = [cellD row 0, cellD row 1, cellD row 2, cellD row 3, cellD row 4, cellD row 5, cellD row 6, cellD row 7] := by
  match row, h with
  | [a, b, c, d, e, f, g, i], _ => rfl
theorem list7 {row : List D} (h : row.length = 7) : row = [cellD row 0, cellD row 1, cellD row 2, cellD row 3, cellD row 4, cellD row 5, cellD row 6] := by
  match row, h with
  | [a, b, c, d, e, f, g], _ => rfl
theorem Typ.eInt {T : Tab} {k : IntKind} {d : D} (h : Typ T (.int k) d) : .int d.toInt = d := by cases h; rfl
theorem Typ.eBool {T : Tab} {d : D} (h : Typ T .bool d) : .bool d.toBool = d := by cases h; rfl
theorem Typ.eStr {T : Tab} {d : D} (h : Typ T .str d) : .str d.toStr = d := by cases h; rfl
end Sx
/-! Twins of values, of attributes. -/
namespace Sx
open Go Go.Proofs
set_option linter.unusedVariables false
set_option maxRecDepth 30000
variable {G : Glob}
def VGood (k : Nat) (x m : D) : Prop := Typ TB (.sl 149) x ∧ Dp k x ∧ Typ TB (.sl 28) m ∧ Dp k m
def valS (k : Nat) : List U → Out SV
  | [.a [.v (.int .i64 kd), .v (.string s), .v (.bool b), .v (.int .u64 n), .d 149 x, .d 28 m, .v (.string i), .v (.string u)]] => .need (VGood k x m) (agg [I64 kd, St s, Bo b, U64 n, .d 149 x, .d 28 m, St i, St u])
  | _ => .fail
def keyS (k : Nat) : List U → Out SV
  | [.a [.v (.string ky), .v (.bool h), .v (.int .i64 kd), .v (.string s), .v (.bool b), .v (.int .u64 n), .d 149 x, .d 28 m, .v (.string i), .v (.string u), .v (.string w)]] => .need (VGood k x m) (agg [St ky, Bo h, I64 kd, St s, Bo b, U64 n, .d 149 x, .d 28 m, St i, St u, St w])
  | _ => .fail
def eachVS (k : Nat) : List U → Out SV
  | [.c (.d 149 x), .c (.v (.func (.func 84) p q))] => bif p.isEmpty && q.isEmpty then .need (Typ TB (.sl 149) x ∧ Dp k x) (.ret (.u (.c (.d 149 x)))) else .fail
  | _ => .fail
theorem eachV_ok (k : Nat) (hF : ∀ m, k = m + 1 → Ok G 84 (valS m)) : Ok G 87 (eachVS k) := by
  cases k with
  | zero =>
    refine okP noneS Tryd.func87 rfl (by decide) fun K us hk => ?_
    unfold eachVS at hk
    split at hk
    · obtain ⟨_, ⟨h1, h2⟩, _⟩ := wp_cond_fail hk
      obtain ⟨l, rfl, _⟩ := h1.sl rfl
      obtain ⟨m, h, _⟩ := h2.sl
      cases h
    · exact hk.elim
  | succ m =>
    have hS : AllSound (B [(84, .pure (normG (B []) [151] (valS m)))]) G := .cons _ (hF m rfl) noneS
    refine okP hS Tryd.func87 rfl (by decide) fun K us hk => ?_
    unfold eachVS at hk
    split at hk
    · rename_i x p q
      refine ⟨by show 2 ≤ _; decide, ?_⟩
      obtain ⟨hpq, ⟨hT, hDp⟩, hk2⟩ := wp_cond_fail hk
      simp only [Bool.and_eq_true, Array.isEmpty_iff] at hpq
      obtain ⟨rfl, rfl⟩ := hpq
      obtain ⟨l, rfl, hl, hrow⟩ := hT.sl rfl
      obtain ⟨m', hm', hlen, hdp⟩ := hDp.sl
      obtain rfl : m = m' := by omega
      conv => whnf
      refine ⟨[(5, 19, 149)], _, _, rfl, Nat, (fun i => ([(1, .u (.c (.v (.func (.func 84) #[] #[])))), (5, .u (.c (.r 19 149))), (8, .u (.c (.d 149 (.rows l)))), (9, .u (.c (I64 (l.length : Nat)))), (10, .u (.c (I64 (i : Nat))))], [(19, .row 149 (.rows (l.take i)))])),
        (fun i => i ≤ l.length), (fun i => l.length - i), fun x _ => rfl, ⟨0, Nat.zero_le _, ⟨rfl, rfl, rfl, rfl, rfl, trivial⟩, ⟨rfl, trivial⟩⟩, ?_⟩
      intro i hi0
      conv => whnf
      refine Ask.i (fun c1 => ?_) (fun c1 => ?_)
      · have c1 : (i : Int) < ((l.length : Nat) : Int) := of_decide_eq_true c1
        have hi : i < l.length := by omega
        have hR := hrow _ (getD_mem (a := []) hi)
        have hD := hdp _ (getD_mem (a := []) hi)
        have hl8 : (l.getD i []).length = 8 := hR.1
        conv => whnf
        refine ⟨⟨by omega, c1⟩, ?_⟩
        conv => whnf
        refine ⟨⟨hR.2 4 _ rfl, Dp.cell hD (by rw [hl8]; decide), hR.2 5 _ rfl, Dp.cell hD (by rw [hl8]; decide)⟩, ?_⟩
        conv => whnf
        refine ⟨by show (l.take i).length + 1 ≤ 274877906944; simp; omega, ?_⟩
        conv => whnf
        have e : l.take i ++ [[.int (cellD (l.getD i []) 0).toInt, .str (cellD (l.getD i []) 1).toStr, .bool (cellD (l.getD i []) 2).toBool, .int (cellD (l.getD i []) 3).toInt, cellD (l.getD i []) 4, cellD (l.getD i []) 5, .str (cellD (l.getD i []) 6).toStr, .str (cellD (l.getD i []) 7).toStr]] = l.take (i + 1) := by
          rw [List.take_succ_eq_append_getElem hi, ← getD_get (a := []) hi]
          refine congrArg (fun z => l.take i ++ [z]) ?_
          rw [(hR.2 0 _ rfl).eInt, (hR.2 1 _ rfl).eStr, (hR.2 2 _ rfl).eBool, (hR.2 3 _ rfl).eInt, (hR.2 6 _ rfl).eStr, (hR.2 7 _ rfl).eStr]
          exact (list8 hl8).symm
        refine ⟨i + 1, hi, by show l.length - (i + 1) < l.length - i; omega, ⟨rfl, rfl, rfl, rfl, congrArg (fun z : Int => some (SV.u (.c (I64 z)))) (w64_eq (n := (i : Int) + 1) (by omega)), trivial⟩, ⟨congrArg (fun z => some (Blk.row 149 (.rows z))) e, trivial⟩⟩
      · have c1 : ¬ (i : Int) < ((l.length : Nat) : Int) := of_decide_eq_false c1
        have hi : i = l.length := by omega
        conv => whnf
        refine fin hk2 ?_
        exact congrArg (fun z => SV.u (.c (.d 149 (.rows z)))) (by rw [hi, List.take_length] : l = l.take i)
    · exact hk.elim
def eachKS (k : Nat) : List U → Out SV
  | [.c (.d 28 x), .c (.v (.func (.func 74) p q))] => bif p.isEmpty && q.isEmpty then .need (Typ TB (.sl 28) x ∧ Dp k x) (.ret (.u (.c (.d 28 x)))) else .fail
  | _ => .fail
theorem eachK_ok (k : Nat) (hF : ∀ m, k = m + 1 → Ok G 74 (keyS m)) : Ok G 73 (eachKS k) := by
  cases k with
  | zero =>
    refine okP noneS Tryd.func73 rfl (by decide) fun K us hk => ?_
    unfold eachKS at hk
    split at hk
    · obtain ⟨_, ⟨h1, h2⟩, _⟩ := wp_cond_fail hk
      obtain ⟨l, rfl, _⟩ := h1.sl rfl
      obtain ⟨m, h, _⟩ := h2.sl
      cases h
    · exact hk.elim
  | succ m =>
    have hS : AllSound (B [(74, .pure (normG (B []) [153] (keyS m)))]) G := .cons _ (hF m rfl) noneS
    refine okP hS Tryd.func73 rfl (by decide) fun K us hk => ?_
    unfold eachKS at hk
    split at hk
    · rename_i x p q
      refine ⟨by show 2 ≤ _; decide, ?_⟩
      obtain ⟨hpq, ⟨hT, hDp⟩, hk2⟩ := wp_cond_fail hk
      simp only [Bool.and_eq_true, Array.isEmpty_iff] at hpq
      obtain ⟨rfl, rfl⟩ := hpq
      obtain ⟨l, rfl, hl, hrow⟩ := hT.sl rfl
      obtain ⟨m', hm', hlen, hdp⟩ := hDp.sl
      obtain rfl : m = m' := by omega
      conv => whnf
      refine ⟨[(5, 19, 28)], _, _, rfl, Nat, (fun i => ([(1, .u (.c (.v (.func (.func 74) #[] #[])))), (5, .u (.c (.r 19 28))), (8, .u (.c (.d 28 (.rows l)))), (9, .u (.c (I64 (l.length : Nat)))), (10, .u (.c (I64 (i : Nat))))], [(19, .row 28 (.rows (l.take i)))])),
        (fun i => i ≤ l.length), (fun i => l.length - i), fun x _ => rfl, ⟨0, Nat.zero_le _, ⟨rfl, rfl, rfl, rfl, rfl, trivial⟩, ⟨rfl, trivial⟩⟩, ?_⟩
      intro i hi0
      conv => whnf
      refine Ask.i (fun c1 => ?_) (fun c1 => ?_)
      · have c1 : (i : Int) < ((l.length : Nat) : Int) := of_decide_eq_true c1
        have hi : i < l.length := by omega
        have hR := hrow _ (getD_mem (a := []) hi)
        have hD := hdp _ (getD_mem (a := []) hi)
        have hl8 : (l.getD i []).length = 11 := hR.1
        conv => whnf
        refine ⟨⟨by omega, c1⟩, ?_⟩
        conv => whnf
        refine ⟨⟨hR.2 6 _ rfl, Dp.cell hD (by rw [hl8]; decide), hR.2 7 _ rfl, Dp.cell hD (by rw [hl8]; decide)⟩, ?_⟩
        conv => whnf
        refine ⟨by show (l.take i).length + 1 ≤ 274877906944; simp; omega, ?_⟩
        conv => whnf
        have e : l.take i ++ [[.str (cellD (l.getD i []) 0).toStr, .bool (cellD (l.getD i []) 1).toBool, .int (cellD (l.getD i []) 2).toInt, .str (cellD (l.getD i []) 3).toStr, .bool (cellD (l.getD i []) 4).toBool, .int (cellD (l.getD i []) 5).toInt, cellD (l.getD i []) 6, cellD (l.getD i []) 7, .str (cellD (l.getD i []) 8).toStr, .str (cellD (l.getD i []) 9).toStr, .str (cellD (l.getD i []) 10).toStr]] = l.take (i + 1) := by
          rw [List.take_succ_eq_append_getElem hi, ← getD_get (a := []) hi]
          refine congrArg (fun z => l.take i ++ [z]) ?_
          rw [(hR.2 0 _ rfl).eStr, (hR.2 1 _ rfl).eBool, (hR.2 2 _ rfl).eInt, (hR.2 3 _ rfl).eStr, (hR.2 4 _ rfl).eBool, (hR.2 5 _ rfl).eInt, (hR.2 8 _ rfl).eStr, (hR.2 9 _ rfl).eStr, (hR.2 10 _ rfl).eStr]
          exact (list11 hl8).symm
        refine ⟨i + 1, hi, by show l.length - (i + 1) < l.length - i; omega, ⟨rfl, rfl, rfl, rfl, congrArg (fun z : Int => some (SV.u (.c (I64 z)))) (w64_eq (n := (i : Int) + 1) (by omega)), trivial⟩, ⟨congrArg (fun z => some (Blk.row 28 (.rows z))) e, trivial⟩⟩
      · have c1 : ¬ (i : Int) < ((l.length : Nat) : Int) := of_decide_eq_false c1
        have hi : i = l.length := by omega
        conv => whnf
        refine fin hk2 ?_
        exact congrArg (fun z => SV.u (.c (.d 28 (.rows z)))) (by rw [hi, List.take_length] : l = l.take i)
    · exact hk.elim
def keysS (k : Nat) : List U → Out SV
  | [.c (.d 28 x)] => .need (Typ TB (.sl 28) x ∧ Dp k x) (.ret (.u (.c (.d 28 x))))
  | _ => .fail
theorem key_ok {k : Nat} (hV : Ok G 84 (valS k)) : Ok G 74 (keyS k) := by
  have hS : AllSound (B [(84, .pure (normG (B []) [151] (valS k)))]) G := .cons _ hV noneS
  refine okP hS Tryd.func74 rfl (by decide) fun K us hk => ?_
  unfold keyS at hk
  split at hk
  · rename_i ky h kd s b n x m i u w
    refine ⟨by show 1 ≤ _; decide, ?_⟩
    obtain ⟨hg, hk⟩ := hk
    conv => whnf
    refine ⟨hg, ?_⟩
    conv => whnf
    exact hk
  · exact hk.elim
theorem keys_ok {k : Nat} (hE : Ok G 73 (eachKS k)) : Ok G 53 (keysS k) := by
  have hS : AllSound (B [(73, .pure (normG (B []) [28, 154] (eachKS k)))]) G := .cons _ hE noneS
  refine okP hS Tryd.func53 rfl (by decide) fun K us hk => ?_
  unfold keysS at hk
  split at hk
  · rename_i x
    refine ⟨by show 1 ≤ _; decide, ?_⟩
    obtain ⟨hg, hk⟩ := hk
    conv => whnf
    refine ⟨hg, ?_⟩
    conv => whnf
    exact hk
  · exact hk.elim
theorem val_ok {k : Nat} (hE : Ok G 87 (eachVS k)) (hK : Ok G 53 (keysS k)) : Ok G 84 (valS k) := by
  have hS : AllSound (B [(87, .pure (normG (B []) [149, 162] (eachVS k))), (53, .pure (normG (B []) [28] (keysS k)))]) G := .cons _ hE (.cons _ hK noneS)
  refine okP hS Tryd.func84 rfl (by decide) fun K us hk => ?_
  unfold valS at hk
  split at hk
  · rename_i kd s b n x m i u
    refine ⟨by show 1 ≤ _; decide, ?_⟩
    obtain ⟨⟨h1, h2, h3, h4⟩, hk⟩ := hk
    conv => whnf
    refine ⟨mixed, [(7, [1]), (9, [1])], [(1, []), (2, [1]), (4, []), (5, [1])], [], by kernel_rfl, ?_⟩
    conv => whnf
    refine ⟨⟨h1, h2⟩, ?_⟩
    conv => whnf
    refine ⟨⟨h3, h4⟩, ?_⟩
    conv => whnf
    exact hk
  · exact hk.elim
theorem val_all : ∀ k : Nat, Ok G 84 (valS k)
  | 0 => val_ok (eachV_ok 0 fun m h => by omega) (keys_ok (eachK_ok 0 fun m h => by omega))
  | k + 1 => val_ok (eachV_ok (k + 1) fun m h => by cases h; exact val_all k) (keys_ok (eachK_ok (k + 1) fun m h => by cases h; exact key_ok (val_all k)))
theorem keys_all (k : Nat) : Ok G 53 (keysS k) := keys_ok (eachK_ok k fun m h => key_ok (val_all m))
end Sx
/-! Twins of exemplars, of numbers. -/
namespace Sx
open Go Go.Proofs
set_option linter.unusedVariables false
set_option maxRecDepth 30000
variable {G : Glob}
def exS (k : Nat) : List U → Out SV
  | [.a [.d 28 m, .v (.int .u64 t), .v (.int .i64 kd), .v (.int .u64 n), .v (.string s), .v (.string tr), .v (.string u)]] => .need (Typ TB (.sl 28) m ∧ Dp k m) (agg [.d 28 m, U64 t, I64 kd, U64 n, St s, St tr, St u])
  | _ => .fail
theorem ex_ok {k : Nat} : Ok G 55 (exS k) := by
  have hS : AllSound (B [(53, .pure (normG (B []) [28] (keysS k)))]) G := .cons _ (keys_all k) noneS
  refine okP hS Tryd.func55 rfl (by decide) fun K us hk => ?_
  unfold exS at hk
  split at hk
  · rename_i m t kd n s tr u
    refine ⟨by show 1 ≤ _; decide, ?_⟩
    obtain ⟨hg, hk⟩ := hk
    conv => whnf
    refine ⟨hg, ?_⟩
    conv => whnf
    exact hk
  · exact hk.elim
def eachXS (k : Nat) : List U → Out SV
  | [.c (.d 30 x), .c (.v (.func (.func 55) p q))] => bif p.isEmpty && q.isEmpty then .need (Typ TB (.sl 30) x ∧ Dp k x) (.ret (.u (.c (.d 30 x)))) else .fail
  | _ => .fail
theorem eachX_ok (k : Nat) (hF : ∀ m, k = m + 1 → Ok G 55 (exS m)) : Ok G 54 (eachXS k) := by
  cases k with
  | zero =>
    refine okP noneS Tryd.func54 rfl (by decide) fun K us hk => ?_
    unfold eachXS at hk
    split at hk
    · obtain ⟨_, ⟨h1, h2⟩, _⟩ := wp_cond_fail hk
      obtain ⟨l, rfl, _⟩ := h1.sl rfl
      obtain ⟨m, h, _⟩ := h2.sl
      cases h
    · exact hk.elim
  | succ m =>
    have hS : AllSound (B [(55, .pure (normG (B []) [122] (exS m)))]) G := .cons _ (hF m rfl) noneS
    refine okP hS Tryd.func54 rfl (by decide) fun K us hk => ?_
    unfold eachXS at hk
    split at hk
    · rename_i x p q
      refine ⟨by show 2 ≤ _; decide, ?_⟩
      obtain ⟨hpq, ⟨hT, hDp⟩, hk2⟩ := wp_cond_fail hk
      simp only [Bool.and_eq_true, Array.isEmpty_iff] at hpq
      obtain ⟨rfl, rfl⟩ := hpq
      obtain ⟨l, rfl, hl, hrow⟩ := hT.sl rfl
      obtain ⟨m', hm', hlen, hdp⟩ := hDp.sl
      obtain rfl : m = m' := by omega
      conv => whnf
      refine ⟨[(5, 19, 30)], _, _, rfl, Nat, (fun i => ([(1, .u (.c (.v (.func (.func 55) #[] #[])))), (5, .u (.c (.r 19 30))), (8, .u (.c (.d 30 (.rows l)))), (9, .u (.c (I64 (l.length : Nat)))), (10, .u (.c (I64 (i : Nat))))], [(19, .row 30 (.rows (l.take i)))])),
        (fun i => i ≤ l.length), (fun i => l.length - i), fun x _ => rfl, ⟨0, Nat.zero_le _, ⟨rfl, rfl, rfl, rfl, rfl, trivial⟩, ⟨rfl, trivial⟩⟩, ?_⟩
      intro i hi0
      conv => whnf
      refine Ask.i (fun c1 => ?_) (fun c1 => ?_)
      · have c1 : (i : Int) < ((l.length : Nat) : Int) := of_decide_eq_true c1
        have hi : i < l.length := by omega
        have hR := hrow _ (getD_mem (a := []) hi)
        have hD := hdp _ (getD_mem (a := []) hi)
        have hl8 : (l.getD i []).length = 7 := hR.1
        conv => whnf
        refine ⟨⟨by omega, c1⟩, ?_⟩
        conv => whnf
        refine ⟨⟨hR.2 0 _ rfl, Dp.cell hD (by rw [hl8]; decide)⟩, ?_⟩
        conv => whnf
        refine ⟨by show (l.take i).length + 1 ≤ 274877906944; simp; omega, ?_⟩
        conv => whnf
        have e : l.take i ++ [[cellD (l.getD i []) 0, .int (cellD (l.getD i []) 1).toInt, .int (cellD (l.getD i []) 2).toInt, .int (cellD (l.getD i []) 3).toInt, .str (cellD (l.getD i []) 4).toStr, .str (cellD (l.getD i []) 5).toStr, .str (cellD (l.getD i []) 6).toStr]] = l.take (i + 1) := by
          rw [List.take_succ_eq_append_getElem hi, ← getD_get (a := []) hi]
          refine congrArg (fun z => l.take i ++ [z]) ?_
          rw [(hR.2 1 _ rfl).eInt, (hR.2 2 _ rfl).eInt, (hR.2 3 _ rfl).eInt, (hR.2 4 _ rfl).eStr, (hR.2 5 _ rfl).eStr, (hR.2 6 _ rfl).eStr]
          exact (list7 hl8).symm
        refine ⟨i + 1, hi, by show l.length - (i + 1) < l.length - i; omega, ⟨rfl, rfl, rfl, rfl, congrArg (fun z : Int => some (SV.u (.c (I64 z)))) (w64_eq (n := (i : Int) + 1) (by omega)), trivial⟩, ⟨congrArg (fun z => some (Blk.row 30 (.rows z))) e, trivial⟩⟩
      · have c1 : ¬ (i : Int) < ((l.length : Nat) : Int) := of_decide_eq_false c1
        have hi : i = l.length := by omega
        conv => whnf
        refine fin hk2 ?_
        exact congrArg (fun z => SV.u (.c (.d 30 (.rows z)))) (by rw [hi, List.take_length] : l = l.take i)
    · exact hk.elim
structure NumD where
  attrs : D
  start : Int
  time : Int
  kind : Int
  n : Int
  ex : D
  flags : Int
  unk : ByteArray
def NumD.cells (e : NumD) : List C := [.d 28 e.attrs, U64 e.start, U64 e.time, I64 e.kind, U64 e.n, .d 30 e.ex, U32 e.flags, St e.unk]
def asNum : List C → Option NumD
  | [.d 28 attrs, .v (.int .u64 start), .v (.int .u64 time), .v (.int .i64 kind), .v (.int .u64 n), .d 30 ex, .v (.int .u32 flags), .v (.string unk)] => some ⟨attrs, start, time, kind, n, ex, flags, unk⟩
  | _ => none
theorem asNum_eq {l : List C} {e : NumD} (h : asNum l = some e) : l = e.cells := by
  unfold asNum at h
  split at h
  · obtain rfl := Option.some.inj h; rfl
  · cases h
def NGood (k : Nat) (e : NumD) : Prop := Typ TB (.sl 28) e.attrs ∧ Dp k e.attrs ∧ Typ TB (.sl 30) e.ex ∧ Dp k e.ex
def twNS (k : Nat) : List U → Out SV
  | [.a l] => match asNum l with
    | some e => .need (NGood k e) (agg e.cells)
    | none => .fail
  | _ => .fail
theorem twNum_ok {k : Nat} : Ok G 29 (twNS k) := by
  have hS : AllSound (B [(53, .pure (normG (B []) [28] (keysS k))), (54, .pure (normG (B []) [30, 123] (eachXS k)))]) G := .cons _ (keys_all k) (.cons _ (eachX_ok k fun m _ => ex_ok) noneS)
  refine okP hS Tryd.func29 rfl (by decide) fun K us hk => ?_
  unfold twNS at hk
  split at hk
  · rename_i l
    split at hk
    · rename_i e he
      rw [asNum_eq he]
      refine ⟨by show 1 ≤ _; decide, ?_⟩
      obtain ⟨⟨h1, h2, h3, h4⟩, hk⟩ := hk
      conv => whnf
      refine ⟨mixed, [(7, [1]), (9, [1])], [(1, []), (2, []), (4, []), (5, [])], [], by kernel_rfl, ?_⟩
      conv => whnf
      refine ⟨⟨h1, h2⟩, ?_⟩
      conv => whnf
      refine ⟨⟨h3, h4⟩, ?_⟩
      conv => whnf
      exact hk
    · exact hk.elim
  · exact hk.elim
def noNum : NumD := ⟨.rows [], 0, 0, 0, 0, .rows [], 0, nos⟩
def sumBad (x y : Int) : Bool := decide (w64 (w64 x + w64 y) > w64 x) != decide (w64 y > 0)
end Sx
