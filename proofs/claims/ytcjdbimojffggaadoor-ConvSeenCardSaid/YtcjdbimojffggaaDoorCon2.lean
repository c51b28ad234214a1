/- Part of the proof: a machine of states for walks, and contracts of functions over it. Conditions: those that each theorem names. -/
import Derived.Test.YtcjdbimojffggaaDoorCon1
set_option linter.unusedVariables false
set_option linter.unusedSimpArgs false
/-! Points of kind number; a table's small parts. -/
namespace Sx
open Go Go.Proofs
set_option linter.unusedVariables false
set_option maxRecDepth 30000
variable {G : Glob}
/-- what lies in a point behind its number: nothing of the other kinds -/
def restW : List C := [.d 28 (.rows []), U64 0, U64 0, U64 0, Bo false, U64 0, Bo false, U64 0, Bo false, U64 0, .d 36 (.ints []), .d 36 (.ints []), .d 30 (.rows []), U32 0, St nos,
  .d 28 (.rows []), U64 0, U64 0, U64 0, Bo false, U64 0, Bo false, U64 0, Bo false, U64 0, I32 0, U64 0, Bo false, I32 0, .d 36 (.ints []), St nos, Bo false, I32 0, .d 36 (.ints []), St nos, .d 30 (.rows []), U32 0, U64 0, St nos]
def ptW (n : NumD) : List C := I64 2 :: .d 28 n.attrs :: U64 n.start :: U64 n.time :: I64 n.kind :: U64 n.n :: .d 30 n.ex :: U32 n.flags :: St n.unk :: restW
/-- no point -/
def ptZ : List C := I64 0 :: .d 28 (.rows []) :: U64 0 :: U64 0 :: I64 0 :: U64 0 :: .d 30 (.rows []) :: U32 0 :: St nos :: restW
def asPt : List C → Option (Int × NumD × List C)
  | .v (.int .i64 kd) :: .d 28 attrs :: .v (.int .u64 start) :: .v (.int .u64 time) :: .v (.int .i64 kind) :: .v (.int .u64 n) :: .d 30 ex :: .v (.int .u32 flags) :: .v (.string unk) :: rest => some (kd, ⟨attrs, start, time, kind, n, ex, flags, unk⟩, rest)
  | _ => none
theorem asPt_eq {l : List C} {kd : Int} {n : NumD} {r : List C} (h : asPt l = some (kd, n, r)) : l = I64 kd :: .d 28 n.attrs :: U64 n.start :: U64 n.time :: I64 n.kind :: U64 n.n :: .d 30 n.ex :: U32 n.flags :: St n.unk :: r := by
  unfold asPt at h
  split at h
  · obtain ⟨rfl, rfl, rfl⟩ := h; rfl
  · cases h
def PGood (k : Nat) (kd : Int) (n : NumD) (r : List C) : Prop := kd = 2 ∧ r = restW ∧ NGood k n
def startS : List U → Out SV
  | [.a l] => match asPt l with
    | some (kd, n, r) => .need (kd = 2 ∧ r = restW) (one (U64 n.start))
    | none => .fail
  | _ => .fail
theorem start_ok : Ok G 17 startS := by
  refine okP noneS Tryd.func17 rfl (by decide) fun K us hk => ?_
  unfold startS at hk
  split at hk
  · split at hk
    · rename_i l _ kd n r hl
      rw [asPt_eq hl]
      refine ⟨by show 1 ≤ _; decide, ?_⟩
      obtain ⟨⟨rfl, rfl⟩, hk⟩ := hk
      conv => whnf
      exact hk
    · exact hk.elim
  · exact hk.elim
def timeS : List U → Out SV
  | [.a l] => match asPt l with
    | some (kd, n, r) => .need (kd = 2 ∧ r = restW) (one (U64 n.time))
    | none => .fail
  | _ => .fail
theorem time_ok : Ok G 18 timeS := by
  refine okP noneS Tryd.func18 rfl (by decide) fun K us hk => ?_
  unfold timeS at hk
  split at hk
  · split at hk
    · rename_i l _ kd n r hl
      rw [asPt_eq hl]
      refine ⟨by show 1 ≤ _; decide, ?_⟩
      obtain ⟨⟨rfl, rfl⟩, hk⟩ := hk
      conv => whnf
      exact hk
    · exact hk.elim
  · exact hk.elim
def aloneS (k : Nat) : List U → Out SV
  | [.a l] => match asPt l with
    | some (kd, n, r) => .need (PGood k kd n r) (agg (ptW n))
    | none => .fail
  | _ => .fail
theorem alone_ok {k : Nat} : Ok G 20 (aloneS k) := by
  have hS : AllSound (B [(29, .pure (normG (B []) [33] (twNS k)))]) G := .cons _ twNum_ok noneS
  refine okP hS Tryd.func20 rfl (by decide) fun K us hk => ?_
  unfold aloneS at hk
  split at hk
  · split at hk
    · rename_i l _ kd n r hl
      rw [asPt_eq hl]
      refine ⟨by show 1 ≤ _; decide, ?_⟩
      obtain ⟨⟨rfl, rfl, hg⟩, hk⟩ := hk
      conv => whnf
      refine ⟨hg, ?_⟩
      conv => whnf
      exact hk
    · exact hk.elim
  · exact hk.elim
def fullS : List U → List Blk → Out RF
  | [.c (.p 50000 0), .c (.v (.string s))], [.cells 59 [.v (.int .i64 st), .v (.int .i64 bu), .v (.int .i64 ti), .v (.int .i64 nw), .m 50001 57], .map 57 l] =>
    wp1 ((findM s l).isNone && decide ((l.length : Int) ≥ st)) fun c => .ret (.u (.c (Bo c)), [some (.cells 59 [I64 st, I64 bu, I64 ti, I64 nw, .m 50001 57]), some (.map 57 l)], [])
  | _, _ => .fail
theorem full_ok : OkF G 15 fullS := by
  refine okF false noneS Tryd.func15 rfl (by decide) fun K us lent hk => ?_
  unfold fullS at hk
  split at hk
  · rename_i s st bu ti nw l
    refine ⟨by show 2 ≤ _; decide, ?_⟩
    have hk := hk _ rfl
    conv => whnf
    intro o ho
    rw [ho] at hk
    cases o with
    | none =>
      conv => whnf
      refine ⟨mixed, [], [], [], by kernel_rfl, ?_⟩
      conv => whnf
      exact hk
    | some row =>
      conv => whnf
      refine ⟨mixed, [], [], [], by kernel_rfl, ?_⟩
      conv => whnf
      exact hk
  · exact hk.elim
end Sx
/-! A table: laid, told, made. -/
namespace Sx
open Go Go.Proofs
set_option linter.unusedVariables false
set_option maxRecDepth 30000
variable {G : Glob}
/-- a table's two blocks -/
def tbB (st bu ti nw : Int) : Blk := .cells 59 [I64 st, I64 bu, I64 ti, I64 nw, .m 50001 57]
/-- a stream: its state, when it was seen -/
def rowS (n : NumD) (seen : Int) : List D := [.int 2, n.attrs, .int n.start, .int n.time, .int n.kind, .int n.n, n.ex, .int n.flags, .str n.unk,
  .rows [], .int 0, .int 0, .int 0, .bool false, .int 0, .bool false, .int 0, .bool false, .int 0, .ints [], .ints [], .rows [], .int 0, .str nos,
  .rows [], .int 0, .int 0, .int 0, .bool false, .int 0, .bool false, .int 0, .bool false, .int 0, .int 0, .int 0, .bool false, .int 0, .ints [], .str nos, .bool false, .int 0, .ints [], .str nos, .rows [], .int 0, .int 0, .str nos, .int seen]
def laysS (k : Nat) : List U → List Blk → Out RF
  | [.c (.p 50000 0), .c (.v (.string s)), .a q], [.cells 59 [.v (.int .i64 st), .v (.int .i64 bu), .v (.int .i64 ti), .v (.int .i64 nw), .m 50001 57], .map 57 l] => match asPt q with
    | some (kd, n, r) => .need (PGood k kd n r) (.ret (.t [], [some (tbB st bu ti nw), some (.map 57 (putM s (rowS n nw) l))], []))
    | none => .fail
  | _, _ => .fail
theorem lays_ok {k : Nat} : OkF G 16 (laysS k) := by
  have hS : AllSound (B [(20, .pure (normG (B []) [44] (aloneS k)))]) G := .cons _ alone_ok noneS
  refine okF false hS Tryd.func16 rfl (by decide) fun K us lent hk => ?_
  unfold laysS at hk
  split at hk
  · split at hk
    · rename_i s _ st bu ti nw l _ kd n r hl
      rw [asPt_eq hl]
      refine ⟨by show 3 ≤ _; decide, ?_⟩
      obtain ⟨⟨rfl, rfl, hg⟩, hk⟩ := hk
      conv => whnf
      refine ⟨mixed, [], [(3, []), (5, []), (6, []), (10, [])], [200012], by kernel_rfl, ?_⟩
      conv => whnf
      refine ⟨⟨rfl, rfl, hg⟩, ?_⟩
      conv => whnf
      exact hk
    · exact hk.elim
  · exact hk.elim
end Sx
/-! Numbers added, taken away: contracts by what the sum is. -/
namespace Sx
open Go Go.Proofs
set_option linter.unusedVariables false
set_option maxRecDepth 30000
variable {G : Glob}
/-- a sum of two points, if there is one -/
abbrev Adds := NumD → NumD → Option NumD
def numP (Pre : NumD → NumD → Prop) (ad : Adds) (k : Nat) : List U → Out SV
  | [.a la, .a lb] => match asNum la, asNum lb with
    | some a, some b => .need (Pre a b ∧ NGood k b) (.all (Option NumD) (fun o => ad a b = o) ⟨_, rfl⟩ fun o => match o with
      | some m => .ret (.t [.a m.cells, .c nilV])
      | none => .all Int (fun _ => True) ⟨9, trivial⟩ fun e => .ret (.t [.a noNum.cells, .c (errV e)]))
    | _, _ => .fail
  | _ => .fail
def addI (a b : NumD) : Option NumD := bif sumBad a.n b.n then none else some { b with start := a.start, n := x64 (w64 (w64 a.n + w64 b.n)) }
def Whole (a b : NumD) : Prop := a.kind = 2 ∧ b.kind = 2
theorem numI_ok {k : Nat} : Ok G 26 (numP Whole addI k) := by
  have hS : AllSound (B [(43, .pure (normG (B []) [33, 33] kindsS)), (29, .pure (normG (B []) [33] (twNS k)))]) G := .cons _ kinds_ok (.cons _ twNum_ok noneS)
  refine okP hS Tryd.func26 rfl (by decide) fun K us hk => ?_
  unfold numP at hk
  split at hk
  · split at hk
    · rename_i la lb _ _ a b ha hb
      rw [asNum_eq ha, asNum_eq hb]
      refine ⟨by show 2 ≤ _; decide, ?_⟩
      obtain ⟨⟨hP, hB⟩, hk⟩ := hk
      have hk := hk _ rfl
      obtain ⟨a1, a2, a3, a4, a5, a6, a7, a8⟩ := a
      obtain ⟨b1, b2, b3, b4, b5, b6, b7, b8⟩ := b
      obtain ⟨h1, h2⟩ := hP
      have h1 : a4 = 2 := h1
      have h2 : b4 = 2 := h2
      subst h1 h2
      conv => whnf
      refine ⟨hB, ?_⟩
      conv => whnf
      refine ⟨mixed, [], [], [], by kernel_rfl, ?_⟩
      conv => whnf
      refine Ask.i (fun c3 => ?_) (fun c3 => ?_)
      · have c3 : sumBad a5 b5 = true := c3
        unfold addI at hk
        simp only [c3] at hk
        conv => whnf
        exact hk 9 trivial
      · have c3 : sumBad a5 b5 = false := c3
        unfold addI at hk
        simp only [c3] at hk
        conv => whnf
        exact hk
    · exact hk.elim
  · exact hk.elim
def difBad (x y : Int) : Bool := decide (w64 (w64 x - w64 y) < w64 x) != decide (w64 y > 0)
def lesI (mono : Bool) (a b : NumD) : Option NumD := bif difBad a.n b.n || (mono && decide (w64 a.n < w64 b.n)) then none else some { a with start := b.time, n := x64 (w64 (w64 a.n - w64 b.n)) }
def lessP (Pre : NumD → NumD → Prop) (le : Bool → Adds) (k : Nat) : List U → Out SV
  | [.a la, .a lb, .c (.v (.bool mono))] => match asNum la, asNum lb with
    | some a, some b => .need (Pre a b ∧ NGood k a) (.all (Option NumD) (fun o => le mono a b = o) ⟨_, rfl⟩ fun o => match o with
      | some m => .ret (.t [.a m.cells, .c nilV])
      | none => .all Int (fun _ => True) ⟨9, trivial⟩ fun e => .ret (.t [.a noNum.cells, .c (errV e)]))
    | _, _ => .fail
  | _ => .fail
theorem lessI_ok {k : Nat} : Ok G 32 (lessP Whole lesI k) := by
  have hS : AllSound (B [(43, .pure (normG (B []) [33, 33] kindsS)), (29, .pure (normG (B []) [33] (twNS k)))]) G := .cons _ kinds_ok (.cons _ twNum_ok noneS)
  refine okP hS Tryd.func32 rfl (by decide) fun K us hk => ?_
  unfold lessP at hk
  split at hk
  · split at hk
    · rename_i la lb mono _ _ a b ha hb
      rw [asNum_eq ha, asNum_eq hb]
      refine ⟨by show 3 ≤ _; decide, ?_⟩
      obtain ⟨⟨hP, hB⟩, hk⟩ := hk
      have hk := hk _ rfl
      obtain ⟨a1, a2, a3, a4, a5, a6, a7, a8⟩ := a
      obtain ⟨b1, b2, b3, b4, b5, b6, b7, b8⟩ := b
      obtain ⟨h1, h2⟩ := hP
      have h1 : a4 = 2 := h1
      have h2 : b4 = 2 := h2
      subst h1 h2
      conv => whnf
      refine ⟨hB, ?_⟩
      conv => whnf
      refine ⟨mixed, [], [], [], by kernel_rfl, ?_⟩
      conv => whnf
      refine Ask.i (fun c3 => ?_) (fun c3 => ?_)
      · have c3 : difBad a5 b5 = true := c3
        unfold lesI at hk
        simp only [c3, Bool.true_or] at hk
        conv => whnf
        exact hk 9 trivial
      · have c3 : difBad a5 b5 = false := c3
        cases mono with
        | false =>
          unfold lesI at hk
          simp only [c3, Bool.false_or, Bool.false_and] at hk
          conv => whnf
          exact hk
        | true =>
          conv => whnf
          refine Ask.i (fun c4 => ?_) (fun c4 => ?_)
          · have c4 : decide (w64 a5 < w64 b5) = true := c4
            unfold lesI at hk
            simp only [c3, c4, Bool.false_or, Bool.true_and] at hk
            conv => whnf
            exact hk 9 trivial
          · have c4 : decide (w64 a5 < w64 b5) = false := c4
            unfold lesI at hk
            simp only [c3, c4, Bool.false_or, Bool.true_and] at hk
            conv => whnf
            exact hk
    · exact hk.elim
  · exact hk.elim
end Sx
/-! Points fitted, added, taken away. -/
namespace Sx
open Go Go.Proofs
set_option linter.unusedVariables false
set_option maxRecDepth 30000
variable {G : Glob} {Pre : NumD → NumD → Prop} {ad : Adds} {le : Bool → Adds}
def fitS (k : Nat) : List U → List Blk → Out RF
  | [.c (.p 50000 0), .a q], [.cells 59 [.v (.int .i64 st), .v (.int .i64 bu), .v (.int .i64 ti), .v (.int .i64 nw), .m 50001 57], .map 57 l] => match asPt q with
    | some (kd, n, r) => .need (PGood k kd n r) (.ret (.t [.a (ptW n), .c (Bo true)], [some (tbB st bu ti nw), some (.map 57 l)], []))
    | none => .fail
  | _, _ => .fail
theorem fit_ok {k : Nat} : OkF G 14 (fitS k) := by
  have hS : AllSound (B [(20, .pure (normG (B []) [44] (aloneS k)))]) G := .cons _ alone_ok noneS
  refine okF false hS Tryd.func14 rfl (by decide) fun K us lent hk => ?_
  unfold fitS at hk
  split at hk
  · split at hk
    · rename_i q st bu ti nw l _ kd n r hl
      rw [asPt_eq hl]
      refine ⟨by show 2 ≤ _; decide, ?_⟩
      obtain ⟨⟨rfl, rfl, hg⟩, hk⟩ := hk
      conv => whnf
      refine ⟨⟨rfl, rfl, hg⟩, ?_⟩
      conv => whnf
      refine ⟨mixed, [(4, [4])], [(0, []), (2, [4])], [], by kernel_rfl, ?_⟩
      conv => whnf
      exact hk
    · exact hk.elim
  · exact hk.elim
def plusS (Pre : NumD → NumD → Prop) (ad : Adds) (k : Nat) : List U → List Blk → Out RF
  | [.c (.p 50000 0), .a q1, .a q2], [.cells 59 [.v (.int .i64 st), .v (.int .i64 bu), .v (.int .i64 ti), .v (.int .i64 nw), .m 50001 57], .map 57 l] => match asPt q1, asPt q2 with
    | some (k1, a, r1), some (k2, b, r2) => .need (PGood k k1 a r1 ∧ PGood k k2 b r2 ∧ Pre a b) (.all (Option NumD) (fun o => ad a b = o) ⟨_, rfl⟩ fun o => match o with
      | some m => .ret (.t [.a (ptW m), .c (Bo true)], [some (tbB st bu ti nw), some (.map 57 l)], [])
      | none => .ret (.t [.a (ptW noNum), .c (Bo false)], [some (tbB st bu ti nw), some (.map 57 l)], []))
    | _, _ => .fail
  | _, _ => .fail
theorem plus_ok {k : Nat} (hN : Ok G 26 (numP Pre ad k)) : OkF G 19 (plusS Pre ad k) := by
  have hS : AllSound (B [(26, .pure (normG (B []) [33, 33] (numP Pre ad k)))]) G := .cons _ hN noneS
  refine okF false hS Tryd.func19 rfl (by decide) fun K us lent hk => ?_
  unfold plusS at hk
  split at hk
  · split at hk
    · rename_i q1 q2 st bu ti nw l _ _ k1 a r1 k2 b r2 h1 h2
      rw [asPt_eq h1, asPt_eq h2]
      refine ⟨by show 3 ≤ _; decide, ?_⟩
      obtain ⟨⟨⟨rfl, rfl, hg1⟩, ⟨rfl, rfl, hg2⟩, hP⟩, hk⟩ := hk
      conv => whnf
      refine ⟨⟨hP, hg2⟩, ?_⟩
      conv => whnf
      intro o ho
      have hk := hk o ho
      cases o with
      | some m =>
        conv => whnf
        refine ⟨mixed, [(3, [6])], [(0, [])], [], by kernel_rfl, ?_⟩
        conv => whnf
        exact hk
      | none =>
        conv => whnf
        intro e he
        conv => whnf
        refine ⟨mixed, [(3, [6])], [(0, [])], [], by kernel_rfl, ?_⟩
        conv => whnf
        exact hk
    · exact hk.elim
  · exact hk.elim
def lessS (Pre : NumD → NumD → Prop) (le : Bool → Adds) (k : Nat) : List U → Out SV
  | [.a q1, .a q2, .c (.v (.bool mono))] => match asPt q1, asPt q2 with
    | some (k1, a, r1), some (k2, b, r2) => .need (PGood k k1 a r1 ∧ PGood k k2 b r2 ∧ Pre a b) (wp1 (decide (a.start ≠ b.start)) fun c => bif c then .ret (.t [.a ptZ, .c (Bo false)]) else
      .all (Option NumD) (fun o => le mono a b = o) ⟨_, rfl⟩ fun o => match o with
        | some m => .ret (.t [.a (ptW m), .c (Bo true)])
        | none => .ret (.t [.a (ptW noNum), .c (Bo false)]))
    | _, _ => .fail
  | _ => .fail
theorem less_ok {k : Nat} (hN : Ok G 32 (lessP Pre le k)) : Ok G 23 (lessS Pre le k) := by
  have hS : AllSound (B [(32, .pure (normG (B []) [33, 33, 4] (lessP Pre le k))), (17, .pure (normG (B []) [44] startS))]) G := .cons _ hN (.cons _ start_ok noneS)
  refine okP hS Tryd.func23 rfl (by decide) fun K us hk => ?_
  unfold lessS at hk
  split at hk
  · split at hk
    · rename_i q1 q2 mono _ _ k1 a r1 k2 b r2 h1 h2
      rw [asPt_eq h1, asPt_eq h2]
      refine ⟨by show 3 ≤ _; decide, ?_⟩
      obtain ⟨⟨⟨rfl, rfl, hg1⟩, ⟨rfl, rfl, hg2⟩, hP⟩, hk⟩ := hk
      have hk := hk _ rfl
      conv => whnf
      refine ⟨mixed, [], [(1, []), (3, []), (6, []), (7, []), (8, []), (9, [])], [], by kernel_rfl, ?_⟩
      conv => whnf
      refine ⟨⟨rfl, rfl⟩, ?_⟩
      conv => whnf
      refine ⟨⟨rfl, rfl⟩, ?_⟩
      conv => whnf
      refine Ask.i (fun c1 => ?_) (fun c1 => ?_)
      · have c1 : (!(a.start == b.start)) = true := c1
        rw [show decide (a.start ≠ b.start) = true by simpa using c1] at hk
        conv => whnf
        exact hk
      · have c1 : (!(a.start == b.start)) = false := c1
        rw [show decide (a.start ≠ b.start) = false by simpa using c1] at hk
        conv => whnf
        refine ⟨⟨hP, hg1⟩, ?_⟩
        conv => whnf
        intro o ho
        have hk := hk o ho
        cases o with
        | some m =>
          conv => whnf
          refine ⟨mixed, [(3, [6])], [(0, [])], [], by kernel_rfl, ?_⟩
          conv => whnf
          exact hk
        | none =>
          conv => whnf
          intro e he
          conv => whnf
          refine ⟨mixed, [(3, [6])], [(0, [])], [], by kernel_rfl, ?_⟩
          conv => whnf
          exact hk
    · exact hk.elim
  · exact hk.elim
end Sx
/-! Tables made, counted; names of verdicts. -/
namespace Sx
open Go Go.Proofs
set_option linter.unusedVariables false
set_option maxRecDepth 30000
variable {G : Glob}
def badN (st bu ti : Int) : Bool := decide (st < 1) || (decide (st > 1000) || (decide (bu < 1) || (decide (bu > 320) || (decide (ti < 1) || decide (ti > 1000000)))))
def newS : List U → List Blk → Out RF
  | [.c (.v (.int .i64 st)), .c (.v (.int .i64 bu)), .c (.v (.int .i64 ti))], [] => wp1 (badN st bu ti) fun c => bif c then .ret (.t [.c (.v (.pointer none)), .c (errV 9)], [], [])
    else .ret (.t [.c (.p 60000 0), .c nilV], [], [.cells 59 [I64 st, I64 bu, I64 ti, I64 0, .m 60001 57], .map 57 []])
  | _, _ => .fail
theorem new_ok : OkF G 6 newS := by
  refine okF false noneS Tryd.func6 rfl (by decide) fun K us lent hk => ?_
  unfold newS at hk
  split at hk
  · rename_i st bu ti
    refine ⟨by show 3 ≤ _; decide, ?_⟩
    have hk := hk _ rfl
    conv => whnf
    refine Ask.i (fun c1 => ?_) (fun c1 => ?_)
    · have c1 : decide (st < 1) = true := c1
      rw [show badN st bu ti = true by simp [badN, c1]] at hk
      conv => whnf
      exact hk
    have c1 : decide (st < 1) = false := c1
    conv => whnf
    refine Ask.i (fun c2 => ?_) (fun c2 => ?_)
    · have c2 : decide (st > 1000) = true := c2
      rw [show badN st bu ti = true by simp [badN, c2]] at hk
      conv => whnf
      exact hk
    have c2 : decide (st > 1000) = false := c2
    conv => whnf
    refine Ask.i (fun c3 => ?_) (fun c3 => ?_)
    · have c3 : decide (bu < 1) = true := c3
      rw [show badN st bu ti = true by simp [badN, c3]] at hk
      conv => whnf
      exact hk
    have c3 : decide (bu < 1) = false := c3
    conv => whnf
    refine Ask.i (fun c4 => ?_) (fun c4 => ?_)
    · have c4 : decide (bu > 320) = true := c4
      rw [show badN st bu ti = true by simp [badN, c4]] at hk
      conv => whnf
      exact hk
    have c4 : decide (bu > 320) = false := c4
    conv => whnf
    refine Ask.i (fun c5 => ?_) (fun c5 => ?_)
    · have c5 : decide (ti < 1) = true := c5
      rw [show badN st bu ti = true by simp [badN, c5]] at hk
      conv => whnf
      exact hk
    have c5 : decide (ti < 1) = false := c5
    conv => whnf
    refine Ask.i (fun c6 => ?_) (fun c6 => ?_)
    · have c6 : decide (ti > 1000000) = true := c6
      rw [show badN st bu ti = true by simp [badN, c6]] at hk
      conv => whnf
      exact hk
    have c6 : decide (ti > 1000000) = false := c6
    rw [show badN st bu ti = false by rw [badN, c1, c2, c3, c4, c5, c6]; rfl] at hk
    conv => whnf
    exact hk
  · exact hk.elim
def lenTS : List U → List Blk → Out RF
  | [.c (.p 50000 0)], [.cells 59 [.v (.int .i64 st), .v (.int .i64 bu), .v (.int .i64 ti), .v (.int .i64 nw), .m 50001 57], .map 57 l] => .ret (.u (.c (I64 (l.length : Nat))), [some (tbB st bu ti nw), some (.map 57 l)], [])
  | _, _ => .fail
theorem lenT_ok : OkF G 11 lenTS := by
  refine okF false noneS Tryd.func11 rfl (by decide) fun K us lent hk => ?_
  unfold lenTS at hk
  split at hk
  · rename_i st bu ti nw l
    refine ⟨by show 1 ≤ _; decide, ?_⟩
    conv => whnf
    exact hk
  · exact hk.elim
def nameS : List U → Out SV
  | [.c (.v (.int .i64 1))] => one (St ⟨#[115, 116, 97, 114, 116, 101, 100]⟩)
  | _ => .fail
theorem name_ok : Ok G 13 nameS := by
  refine okP noneS Tryd.func13 rfl (by decide) fun K us hk => ?_
  unfold nameS at hk
  split at hk
  · refine ⟨by show 1 ≤ _; decide, ?_⟩
    conv => whnf
    refine ⟨by decide, ?_⟩
    conv => whnf
    exact hk
  · exact hk.elim
end Sx
