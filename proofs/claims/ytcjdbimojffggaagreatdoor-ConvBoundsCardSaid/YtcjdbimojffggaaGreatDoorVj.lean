/- Part of the proof: a machine of states for walks, and contracts of functions over it. Conditions: those that each theorem names. -/
import Derived.Test.YtcjdbimojffggaaGreatDoorVg
import Derived.Test.YtcjdbimojffggaaGreatDoorVh
import Derived.Test.YtcjdbimojffggaaGreatDoorVf
set_option linter.unusedVariables false
set_option linter.unusedSimpArgs false
/-! Points of any kind; their start, their time; points alone. -/
namespace Sx
open Go Go.Proofs
set_option linter.unusedVariables false
set_option maxRecDepth 30000
variable {G : Glob}
structure PtD where
  kd : Int
  n : NumD
  h : HistD
  e : ExpD
def PtD.cells (p : PtD) : List C := [I64 p.kd,
  .d 30 p.n.attrs, U64 p.n.start, U64 p.n.time, I64 p.n.kind, U64 p.n.n, .d 32 p.n.ex, U32 p.n.flags, St p.n.unk,
  .d 30 p.h.attrs, U64 p.h.start, U64 p.h.time, U64 p.h.count, Bo p.h.sumH, U64 p.h.sum, Bo p.h.minH, U64 p.h.min, Bo p.h.maxH, U64 p.h.max, .d 38 (.ints p.h.cs), .d 38 (.ints p.h.bs), .d 32 p.h.ex, U32 p.h.flags, St p.h.unk,
  .d 30 p.e.attrs, U64 p.e.start, U64 p.e.time, U64 p.e.count, Bo p.e.sumH, U64 p.e.sum, Bo p.e.minH, U64 p.e.min, Bo p.e.maxH, U64 p.e.max, I32 p.e.scale, U64 p.e.zero, Bo p.e.hasP, I32 p.e.offP, .d 38 (.ints p.e.cP), St p.e.unkP, Bo p.e.hasN, I32 p.e.offN, .d 38 (.ints p.e.cN), St p.e.unkN, .d 32 p.e.ex, U32 p.e.flags, U64 p.e.thr, St p.e.unk]
def PtD.row (p : PtD) (seen : Int) : List D := [.int p.kd,
  p.n.attrs, .int p.n.start, .int p.n.time, .int p.n.kind, .int p.n.n, p.n.ex, .int p.n.flags, .str p.n.unk,
  p.h.attrs, .int p.h.start, .int p.h.time, .int p.h.count, .bool p.h.sumH, .int p.h.sum, .bool p.h.minH, .int p.h.min, .bool p.h.maxH, .int p.h.max, .ints p.h.cs, .ints p.h.bs, p.h.ex, .int p.h.flags, .str p.h.unk,
  p.e.attrs, .int p.e.start, .int p.e.time, .int p.e.count, .bool p.e.sumH, .int p.e.sum, .bool p.e.minH, .int p.e.min, .bool p.e.maxH, .int p.e.max, .int p.e.scale, .int p.e.zero, .bool p.e.hasP, .int p.e.offP, .ints p.e.cP, .str p.e.unkP, .bool p.e.hasN, .int p.e.offN, .ints p.e.cN, .str p.e.unkN, p.e.ex, .int p.e.flags, .int p.e.thr, .str p.e.unk,
  .int seen]
def asRow (r : List D) : PtD × Int := (⟨(cellD r 0).toInt, ⟨cellD r 1, (cellD r 2).toInt, (cellD r 3).toInt, (cellD r 4).toInt, (cellD r 5).toInt, cellD r 6, (cellD r 7).toInt, (cellD r 8).toStr⟩,
  ⟨cellD r 9, (cellD r 10).toInt, (cellD r 11).toInt, (cellD r 12).toInt, (cellD r 13).toBool, (cellD r 14).toInt, (cellD r 15).toBool, (cellD r 16).toInt, (cellD r 17).toBool, (cellD r 18).toInt, (cellD r 19).toInts, (cellD r 20).toInts, cellD r 21, (cellD r 22).toInt, (cellD r 23).toStr⟩,
  ⟨cellD r 24, (cellD r 25).toInt, (cellD r 26).toInt, (cellD r 27).toInt, (cellD r 28).toBool, (cellD r 29).toInt, (cellD r 30).toBool, (cellD r 31).toInt, (cellD r 32).toBool, (cellD r 33).toInt, (cellD r 34).toInt, (cellD r 35).toInt, (cellD r 36).toBool, (cellD r 37).toInt, (cellD r 38).toInts, (cellD r 39).toStr, (cellD r 40).toBool, (cellD r 41).toInt, (cellD r 42).toInts, (cellD r 43).toStr, cellD r 44, (cellD r 45).toInt, (cellD r 46).toInt, (cellD r 47).toStr⟩⟩, (cellD r 48).toInt)
theorem asRow_row (p : PtD) (i : Int) : asRow (p.row i) = (p, i) := rfl
def asPt : List C → Option PtD
  | .v (.int .i64 kd) :: c1 :: c2 :: c3 :: c4 :: c5 :: c6 :: c7 :: c8 :: r => match asNum [c1, c2, c3, c4, c5, c6, c7, c8], r with
    | some n, d1 :: d2 :: d3 :: d4 :: d5 :: d6 :: d7 :: d8 :: d9 :: d10 :: d11 :: d12 :: d13 :: d14 :: d15 :: s => match asHist [d1, d2, d3, d4, d5, d6, d7, d8, d9, d10, d11, d12, d13, d14, d15], asExp s with
      | some h, some e => some ⟨kd, n, h, e⟩
      | _, _ => none
    | _, _ => none
  | _ => none
theorem asPt_eq {l : List C} {p : PtD} (h : asPt l = some p) : l = p.cells := by
  unfold asPt at h
  split at h
  · split at h
    · rename_i h1
      split at h
      · rename_i h2 h3
        obtain rfl := Option.some.inj h
        have e1 := asNum_eq h1
        have e2 := asHist_eq h2
        have e3 := asExp_eq h3
        simp only [NumD.cells, HistD.cells, List.cons.injEq, and_true] at e1 e2
        obtain ⟨rfl, rfl, rfl, rfl, rfl, rfl, rfl, rfl⟩ := e1
        obtain ⟨rfl, rfl, rfl, rfl, rfl, rfl, rfl, rfl, rfl, rfl, rfl, rfl, rfl, rfl, rfl⟩ := e2
        subst e3
        rfl
      · cases h
    · cases h
  · cases h
theorem asPt_cells (p : PtD) : asPt p.cells = some p := rfl
def startOf (p : PtD) : Int := bif p.kd == 2 then p.n.start else bif p.kd == 3 then p.h.start else bif p.kd == 4 then p.e.start else 0
def timeOf (p : PtD) : Int := bif p.kd == 2 then p.n.time else bif p.kd == 3 then p.h.time else bif p.kd == 4 then p.e.time else 0
def numOf (f : PtD → Int) : List U → Out SV
  | [.a l] => match asPt l with
    | some p => .all Int (fun x => f p = x) ⟨_, rfl⟩ fun x => one (U64 x)
    | none => .fail
  | _ => .fail
theorem start_ok : Ok G 28 (numOf startOf) := by
  refine okP noneS Tryz.func28 rfl (by decide) fun K us hk => ?_
  unfold numOf at hk
  split at hk
  · split at hk
    · rename_i l _ p hl
      rw [asPt_eq hl]
      refine ⟨by show 1 ≤ _; decide, ?_⟩
      have hk : ∀ x, startOf p = x → K (.u (.c (U64 x))) := hk
      conv => whnf
      refine Ask.i (fun c1 => ?_) (fun c1 => ?_)
      · have c1 : (p.kd == 2) = true := c1
        conv => whnf
        exact hk _ (by rw [startOf, c1]; rfl)
      have c1 : (p.kd == 2) = false := c1
      conv => whnf
      refine Ask.i (fun c2 => ?_) (fun c2 => ?_)
      · have c2 : (p.kd == 3) = true := c2
        conv => whnf
        exact hk _ (by rw [startOf, c1, c2]; rfl)
      have c2 : (p.kd == 3) = false := c2
      conv => whnf
      refine Ask.i (fun c3 => ?_) (fun c3 => ?_)
      · have c3 : (p.kd == 4) = true := c3
        conv => whnf
        exact hk _ (by rw [startOf, c1, c2, c3]; rfl)
      have c3 : (p.kd == 4) = false := c3
      conv => whnf
      exact hk _ (by rw [startOf, c1, c2, c3]; rfl)
    · exact hk.elim
  · exact hk.elim
theorem time_ok : Ok G 30 (numOf timeOf) := by
  refine okP noneS Tryz.func30 rfl (by decide) fun K us hk => ?_
  unfold numOf at hk
  split at hk
  · split at hk
    · rename_i l _ p hl
      rw [asPt_eq hl]
      refine ⟨by show 1 ≤ _; decide, ?_⟩
      have hk : ∀ x, timeOf p = x → K (.u (.c (U64 x))) := hk
      conv => whnf
      refine Ask.i (fun c1 => ?_) (fun c1 => ?_)
      · have c1 : (p.kd == 2) = true := c1
        conv => whnf
        exact hk _ (by rw [timeOf, c1]; rfl)
      have c1 : (p.kd == 2) = false := c1
      conv => whnf
      refine Ask.i (fun c2 => ?_) (fun c2 => ?_)
      · have c2 : (p.kd == 3) = true := c2
        conv => whnf
        exact hk _ (by rw [timeOf, c1, c2]; rfl)
      have c2 : (p.kd == 3) = false := c2
      conv => whnf
      refine Ask.i (fun c3 => ?_) (fun c3 => ?_)
      · have c3 : (p.kd == 4) = true := c3
        conv => whnf
        exact hk _ (by rw [timeOf, c1, c2, c3]; rfl)
      have c3 : (p.kd == 4) = false := c3
      conv => whnf
      exact hk _ (by rw [timeOf, c1, c2, c3]; rfl)
    · exact hk.elim
  · exact hk.elim
def EGood (k : Nat) (e : ExpD) : Prop := Typ TB (.sl 30) e.attrs ∧ Dp k e.attrs ∧ Typ TB (.sl 32) e.ex ∧ Dp k e.ex ∧ e.cP.length ≤ 3750 ∧ e.cN.length ≤ 3750
/-- a point that may be told -/
def PIn (k : Nat) (p : PtD) : Prop := (p.kd = 2 → NGood k p.n) ∧ (p.kd = 3 → HGood k p.h) ∧ (p.kd = 4 → EGood k p.e)
def bare (p : PtD) : PtD := bif p.kd == 2 then ⟨2, p.n, noH, noE 0⟩ else bif p.kd == 3 then ⟨3, noNum, p.h, noE 0⟩ else bif p.kd == 4 then ⟨4, noNum, noH, p.e⟩ else ⟨0, noNum, noH, noE 0⟩
def aloneS (k : Nat) : List U → Out SV
  | [.a l] => match asPt l with
    | some p => .need (PIn k p) (.all PtD (fun q => bare p = q) ⟨_, rfl⟩ fun q => agg q.cells)
    | none => .fail
  | _ => .fail
theorem alone_ok {k : Nat} : Ok G 36 (aloneS k) := by
  have hS : AllSound (B [(62, .pure (normG (B []) [35] (twNS k))), (63, .pure (normG (B []) [40] (twHS k))), (64, .pure (normG (B []) [44] (twS k)))]) G := .cons _ twNum_ok (.cons _ twHist_ok (.cons _ twExp_ok noneS))
  refine okP hS Tryz.func36 rfl (by decide) fun K us hk => ?_
  unfold aloneS at hk
  split at hk
  · split at hk
    · rename_i l _ p hl
      rw [asPt_eq hl]
      refine ⟨by show 1 ≤ _; decide, ?_⟩
      obtain ⟨⟨p2, p3, p4⟩, hk⟩ := hk
      have hk : ∀ q, bare p = q → K (.u (.a q.cells)) := hk
      conv => whnf
      refine Ask.i (fun c1 => ?_) (fun c1 => ?_)
      · have c1 : (p.kd == 2) = true := c1
        conv => whnf
        refine ⟨p2 (by simpa using c1), ?_⟩
        conv => whnf
        exact hk ⟨2, p.n, noH, noE 0⟩ (by rw [bare, c1]; rfl)
      have c1 : (p.kd == 2) = false := c1
      conv => whnf
      refine Ask.i (fun c2 => ?_) (fun c2 => ?_)
      · have c2 : (p.kd == 3) = true := c2
        conv => whnf
        refine ⟨p3 (by simpa using c2), ?_⟩
        conv => whnf
        exact hk ⟨3, noNum, p.h, noE 0⟩ (by rw [bare, c1, c2]; rfl)
      have c2 : (p.kd == 3) = false := c2
      conv => whnf
      refine Ask.i (fun c3 => ?_) (fun c3 => ?_)
      · have c3 : (p.kd == 4) = true := c3
        conv => whnf
        refine ⟨p4 (by simpa using c3), ?_⟩
        conv => whnf
        exact hk ⟨4, noNum, noH, p.e⟩ (by rw [bare, c1, c2, c3]; rfl)
      have c3 : (p.kd == 4) = false := c3
      conv => whnf
      exact hk ⟨0, noNum, noH, noE 0⟩ (by rw [bare, c1, c2, c3]; rfl)
    · exact hk.elim
  · exact hk.elim
end Sx
/-! Tables; points fitted, laid. -/
namespace Sx
open Go Go.Proofs
set_option linter.unusedVariables false
set_option maxRecDepth 30000
variable {G : Glob}
/-- a table's two blocks -/
def tbB (st bu ti nw : Int) : Blk := .cells 81 [I64 st, I64 bu, I64 ti, I64 nw, .m 50001 79]
def fullS : List U → List Blk → Out RF
  | [.c (.p 50000 0), .c (.v (.string s))], [.cells 81 [.v (.int .i64 st), .v (.int .i64 bu), .v (.int .i64 ti), .v (.int .i64 nw), .m 50001 79], .map 79 l] =>
    wp1 ((findM s l).isNone && decide ((l.length : Int) ≥ st)) fun c => .ret (.u (.c (Bo c)), [some (.cells 81 [I64 st, I64 bu, I64 ti, I64 nw, .m 50001 79]), some (.map 79 l)], [])
  | _, _ => .fail
theorem full_ok : OkF G 38 fullS := by
  refine okF false noneS Tryz.func38 rfl (by decide) fun K us lent hk => ?_
  unfold fullS at hk
  split at hk
  · rename_i s st bu ti nw l
    refine ⟨by show 2 ≤ _; decide, ?_⟩
    have hk := hk _ rfl
    conv => whnf
    intro o ho
    rw [ho] at hk
    cases o with
    | none =>
      conv => whnf
      refine ⟨mixed, [], [], [], by kernel_rfl, ?_⟩
      conv => whnf
      exact hk
    | some row =>
      conv => whnf
      refine ⟨mixed, [], [], [], by kernel_rfl, ?_⟩
      conv => whnf
      exact hk
  · exact hk.elim
def badN (st bu ti : Int) : Bool := decide (st < 1) || (decide (st > 1000) || (decide (bu < 1) || (decide (bu > 320) || (decide (ti < 1) || decide (ti > 1000000)))))
def newS : List U → List Blk → Out RF
  | [.c (.v (.int .i64 st)), .c (.v (.int .i64 bu)), .c (.v (.int .i64 ti))], [] => wp1 (badN st bu ti) fun c => bif c then .ret (.t [.c (.v (.pointer none)), .c (errV 9)], [], [])
    else .ret (.t [.c (.p 60000 0), .c nilV], [], [.cells 81 [I64 st, I64 bu, I64 ti, I64 0, .m 60001 79], .map 79 []])
  | _, _ => .fail
theorem new_ok : OkF G 7 newS := by
  refine okF false noneS Tryz.func7 rfl (by decide) fun K us lent hk => ?_
  unfold newS at hk
  split at hk
  · rename_i st bu ti
    refine ⟨by show 3 ≤ _; decide, ?_⟩
    have hk := hk _ rfl
    conv => whnf
    refine Ask.i (fun c1 => ?_) (fun c1 => ?_)
    · have c1 : decide (st < 1) = true := c1
      rw [show badN st bu ti = true by simp [badN, c1]] at hk
      conv => whnf
      exact hk
    have c1 : decide (st < 1) = false := c1
    conv => whnf
    refine Ask.i (fun c2 => ?_) (fun c2 => ?_)
    · have c2 : decide (st > 1000) = true := c2
      rw [show badN st bu ti = true by simp [badN, c2]] at hk
      conv => whnf
      exact hk
    have c2 : decide (st > 1000) = false := c2
    conv => whnf
    refine Ask.i (fun c3 => ?_) (fun c3 => ?_)
    · have c3 : decide (bu < 1) = true := c3
      rw [show badN st bu ti = true by simp [badN, c3]] at hk
      conv => whnf
      exact hk
    have c3 : decide (bu < 1) = false := c3
    conv => whnf
    refine Ask.i (fun c4 => ?_) (fun c4 => ?_)
    · have c4 : decide (bu > 320) = true := c4
      rw [show badN st bu ti = true by simp [badN, c4]] at hk
      conv => whnf
      exact hk
    have c4 : decide (bu > 320) = false := c4
    conv => whnf
    refine Ask.i (fun c5 => ?_) (fun c5 => ?_)
    · have c5 : decide (ti < 1) = true := c5
      rw [show badN st bu ti = true by simp [badN, c5]] at hk
      conv => whnf
      exact hk
    have c5 : decide (ti < 1) = false := c5
    conv => whnf
    refine Ask.i (fun c6 => ?_) (fun c6 => ?_)
    · have c6 : decide (ti > 1000000) = true := c6
      rw [show badN st bu ti = true by simp [badN, c6]] at hk
      conv => whnf
      exact hk
    have c6 : decide (ti > 1000000) = false := c6
    rw [show badN st bu ti = false by rw [badN, c1, c2, c3, c4, c5, c6]; rfl] at hk
    conv => whnf
    exact hk
  · exact hk.elim
def lenTS : List U → List Blk → Out RF
  | [.c (.p 50000 0)], [.cells 81 [.v (.int .i64 st), .v (.int .i64 bu), .v (.int .i64 ti), .v (.int .i64 nw), .m 50001 79], .map 79 l] => .ret (.u (.c (I64 (l.length : Nat))), [some (tbB st bu ti nw), some (.map 79 l)], [])
  | _, _ => .fail
theorem lenT_ok : OkF G 10 lenTS := by
  refine okF false noneS Tryz.func10 rfl (by decide) fun K us lent hk => ?_
  unfold lenTS at hk
  split at hk
  · rename_i st bu ti nw l
    refine ⟨by show 1 ≤ _; decide, ?_⟩
    conv => whnf
    exact hk
  · exact hk.elim
def nameS : List U → Out SV
  | [.c (.v (.int .i64 1))] => one (St ⟨#[115, 116, 97, 114, 116, 101, 100]⟩)
  | _ => .fail
theorem name_ok : Ok G 19 nameS := by
  refine okP noneS Tryz.func19 rfl (by decide) fun K us hk => ?_
  unfold nameS at hk
  split at hk
  · refine ⟨by show 1 ≤ _; decide, ?_⟩
    conv => whnf
    refine ⟨by decide, ?_⟩
    conv => whnf
    exact hk
  · exact hk.elim

def TBk (st bu ti nw : Int) (l : List (ByteArray × List D)) : List (Option Blk) := [some (tbB st bu ti nw), some (.map 79 l)]
def laysT (k : Nat) : List U → List Blk → Out RF
  | [.c (.p 50000 0), .c (.v (.string s)), .a q], [.cells 81 [.v (.int .i64 st), .v (.int .i64 bu), .v (.int .i64 ti), .v (.int .i64 nw), .m 50001 79], .map 79 l] => match asPt q with
    | some p => .need (PIn k p ∧ bare p = p) (.ret (.t [], TBk st bu ti nw (putM s (p.row nw) l), []))
    | none => .fail
  | _, _ => .fail
theorem layT_ok {k : Nat} : OkF G 39 (laysT k) := by
  have hS : AllSound (B [(36, .pure (normG (B []) [46] (aloneS k)))]) G := .cons _ alone_ok noneS
  refine okF false hS Tryz.func39 rfl (by decide) fun K us lent hk => ?_
  unfold laysT at hk
  split at hk
  · split at hk
    · rename_i s _ st bu ti nw l _ p hl
      rw [asPt_eq hl]
      refine ⟨by show 3 ≤ _; decide, ?_⟩
      obtain ⟨⟨hg, hb⟩, hk⟩ := hk
      conv => whnf
      refine ⟨mixed, [], [(3, []), (5, []), (6, []), (10, [])], [200012], by kernel_rfl, ?_⟩
      conv => whnf
      refine ⟨hg, ?_⟩
      conv => whnf
      intro q hq
      obtain rfl : p = q := hb.symm.trans hq
      conv => whnf
      exact hk
    · exact hk.elim
  · exact hk.elim
/-- what a told point must be, to be fitted -/
structure EIn (e : ExpD) : Prop where
  fits : Fits e
  rP : R64 e.cP
  rN : R64 e.cN
  ct : 0 ≤ e.count ∧ e.count < 18446744073709551616
  ze : 0 ≤ e.zero ∧ e.zero < 18446744073709551616
structure GoodE (k : Nat) (bu : Int) (e : ExpD) : Prop where
  fit : Fitted e bu
  good : EGood k e
  ct : 0 ≤ e.count ∧ e.count < 18446744073709551616
  ze : 0 ≤ e.zero ∧ e.zero < 18446744073709551616
def PTold (k : Nat) (p : PtD) : Prop := PIn k p ∧ (p.kd = 4 → EIn p.e)
/-- a state: of one kind, with nothing of the others -/
def GS (k : Nat) (bu : Int) (p : PtD) : Prop := (p.kd = 2 ∧ NGood k p.n ∧ p.h = noH ∧ p.e = noE 0) ∨ (p.kd = 3 ∧ HGood k p.h ∧ p.n = noNum ∧ p.e = noE 0) ∨ (p.kd = 4 ∧ GoodE k bu p.e ∧ p.n = noNum ∧ p.h = noH)
theorem GS.bare {k : Nat} {bu : Int} {p : PtD} (h : GS k bu p) : Sx.bare p = p := by
  obtain ⟨kd, n, h', e⟩ := p
  rcases h with ⟨h1, _, h2, h3⟩ | ⟨h1, _, h2, h3⟩ | ⟨h1, _, h2, h3⟩ <;> (simp only at h1 h2 h3; subst h1 h2 h3; rfl)
theorem GS.pin {k : Nat} {bu : Int} {p : PtD} (h : GS k bu p) : PIn k p := by
  rcases h with ⟨h1, h2, _⟩ | ⟨h1, h2, _⟩ | ⟨h1, h2, _⟩
  · exact ⟨fun _ => h2, fun h => by omega, fun h => by omega⟩
  · exact ⟨fun h => by omega, fun _ => h2, fun h => by omega⟩
  · exact ⟨fun h => by omega, fun h => by omega, fun _ => h2.good⟩
def outO (o : Option PtD) (st bu ti nw : Int) (l : List (ByteArray × List D)) : Out RF := match o with
  | some q => .ret (.t [.a q.cells, .c (Bo true)], TBk st bu ti nw l, [])
  | none => .all PtD (fun _ => True) ⟨⟨0, noNum, noH, noE 0⟩, trivial⟩ fun q => .ret (.t [.a q.cells, .c (Bo false)], TBk st bu ti nw l, [])
def fitT (k : Nat) : List U → List Blk → Out RF
  | [.c (.p 50000 0), .a q], [.cells 81 [.v (.int .i64 st), .v (.int .i64 bu), .v (.int .i64 ti), .v (.int .i64 nw), .m 50001 79], .map 79 l] => match asPt q with
    | some p => .need (PTold k p ∧ 1 ≤ bu ∧ bu ≤ 320) (.all (Option PtD) (fun o => ∀ q, o = some q → GS k bu q) ⟨none, fun _ h => by cases h⟩ fun o => outO o st bu ti nw l)
    | none => .fail
  | _, _ => .fail
theorem fitE_good {k : Nat} {e : ExpD} {most : Int} {r : Int × Int × Int} (h : EIn e) (hg : EGood k e) (hm : 1 ≤ most ∧ most ≤ 320) (hr : shV e (noE e.scale) most = some r) (hb : fitBad e r.1.toNat = false) : GoodE k most (fitE e r.1.toNat r.2.2) := by
  have hf := (fit_fitted h.fits hr hb).1
  refine ⟨hf, ⟨hg.1, hg.2.1, hg.2.2.1, hg.2.2.2.1, ?_, ?_⟩, h.ct, h.ze⟩
  · have := hf.lP; omega
  · have := hf.lN; omega
theorem fit_ok' {k : Nat} : OkF G 37 (fitT k) := by
  have hS : AllSound (B [(36, .pure (normG (B []) [46] (aloneS k))), (65, .pure (normG (B []) [44, 3] (fitS k)))]) G := .cons _ alone_ok (.cons _ fit_ok noneS)
  refine okF false hS Tryz.func37 rfl (by decide) fun K us lent hk => ?_
  unfold fitT at hk
  split at hk
  · split at hk
    · rename_i q0 st bu ti nw l _ p hl
      rw [asPt_eq hl]
      refine ⟨by show 2 ≤ _; decide, ?_⟩
      obtain ⟨⟨⟨hg, hE⟩, hm⟩, hk⟩ := hk
      have yes : ∀ q, GS k bu q → K (.t [.a q.cells, .c (Bo true)], TBk st bu ti nw l, []) := fun q hq => hk (some q) fun q' h => Option.some.inj h ▸ hq
      have no : ∀ q : PtD, K (.t [.a q.cells, .c (Bo false)], TBk st bu ti nw l, []) := fun q => hk none (fun _ h => by cases h) q trivial
      clear hk
      conv => whnf
      refine ⟨hg, ?_⟩
      conv => whnf
      intro q hq
      by_cases k2 : p.kd = 2
      · obtain rfl : (⟨2, p.n, noH, noE 0⟩ : PtD) = q := by rw [← hq, bare, k2]; rfl
        conv => whnf
        refine ⟨mixed, [(4, [4])], [(0, []), (2, [4])], [], by kernel_rfl, ?_⟩
        conv => whnf
        exact yes ⟨2, p.n, noH, noE 0⟩ (.inl ⟨rfl, hg.1 k2, rfl, rfl⟩)
      by_cases k3 : p.kd = 3
      · obtain rfl : (⟨3, noNum, p.h, noE 0⟩ : PtD) = q := by rw [← hq, bare, k3]; rfl
        conv => whnf
        refine ⟨mixed, [(4, [4])], [(0, []), (2, [4])], [], by kernel_rfl, ?_⟩
        conv => whnf
        exact yes ⟨3, noNum, p.h, noE 0⟩ (.inr (.inl ⟨rfl, hg.2.1 k3, rfl, rfl⟩))
      by_cases k4 : p.kd = 4
      · obtain rfl : (⟨4, noNum, noH, p.e⟩ : PtD) = q := by rw [← hq, bare, k4]; rfl
        have gE := hg.2.2 k4
        have iE := hE k4
        conv => whnf
        refine ⟨mixed, [(11, [6])], [(1, []), (5, []), (6, [])], [], by kernel_rfl, ?_⟩
        conv => whnf
        refine ⟨⟨iE.fits, gE.1, gE.2.1, gE.2.2.1, gE.2.2.2.1⟩, ?_⟩
        conv => whnf
        intro o ho
        cases o with
        | none =>
          conv => whnf
          refine ⟨mixed, [(3, [4])], [(0, [])], [], by kernel_rfl, ?_⟩
          conv => whnf
          exact no ⟨4, noNum, noH, noE 0⟩
        | some r =>
          conv => whnf
          refine ⟨shV_r ho, ?_⟩
          conv => whnf
          intro c hc
          cases c with
          | true =>
            conv => whnf
            refine ⟨mixed, [(3, [4])], [(0, [])], [], by kernel_rfl, ?_⟩
            conv => whnf
            exact no ⟨4, noNum, noH, noE 0⟩
          | false =>
            conv => whnf
            refine ⟨mixed, [(3, [4])], [(0, [])], [], by kernel_rfl, ?_⟩
            conv => whnf
            exact yes ⟨4, noNum, noH, fitE p.e r.1.toNat r.2.2⟩ (.inr (.inr ⟨rfl, fitE_good iE gE hm ho hc, rfl, rfl⟩))
      · obtain rfl : (⟨0, noNum, noH, noE 0⟩ : PtD) = q := by
          rw [← hq, bare, show (p.kd == 2) = false by simpa using k2, show (p.kd == 3) = false by simpa using k3, show (p.kd == 4) = false by simpa using k4]; rfl
        conv => whnf
        refine ⟨mixed, [(4, [4])], [(0, []), (2, [4])], [], by kernel_rfl, ?_⟩
        conv => whnf
        exact no ⟨0, noNum, noH, noE 0⟩
    · exact hk.elim
  · exact hk.elim
end Sx
/-! Points of a kind added. -/
namespace Sx
open Go Go.Proofs
set_option linter.unusedVariables false
set_option maxRecDepth 30000
variable {G : Glob}
/-- a point as it is told, alone -/
def GT (k : Nat) (p : PtD) : Prop := (p.kd = 2 ∧ NGood k p.n ∧ p.h = noH ∧ p.e = noE 0) ∨ (p.kd = 3 ∧ HGood k p.h ∧ p.n = noNum ∧ p.e = noE 0) ∨ (p.kd = 4 ∧ (EGood k p.e ∧ EIn p.e) ∧ p.n = noNum ∧ p.h = noH) ∨ (p.kd = 0 ∧ p.n = noNum ∧ p.h = noH ∧ p.e = noE 0)
theorem PTold.bare {k : Nat} {p : PtD} (h : PTold k p) : GT k (Sx.bare p) := by
  by_cases k2 : p.kd = 2
  · exact .inl (by rw [Sx.bare, k2]; exact ⟨rfl, h.1.1 k2, rfl, rfl⟩)
  by_cases k3 : p.kd = 3
  · exact .inr (.inl (by rw [Sx.bare, k3]; exact ⟨rfl, h.1.2.1 k3, rfl, rfl⟩))
  by_cases k4 : p.kd = 4
  · exact .inr (.inr (.inl (by rw [Sx.bare, k4]; exact ⟨rfl, ⟨h.1.2.2 k4, h.2 k4⟩, rfl, rfl⟩)))
  · exact .inr (.inr (.inr (by rw [Sx.bare, show (p.kd == 2) = false by simpa using k2, show (p.kd == 3) = false by simpa using k3, show (p.kd == 4) = false by simpa using k4]; exact ⟨rfl, rfl, rfl, rfl⟩)))
theorem GT.gs {k : Nat} {bu : Int} {p : PtD} (h : GT k p) (h4 : p.kd = 4 → GoodE k bu p.e) (h0 : p.kd ≠ 0) : GS k bu p := by
  rcases h with h | h | ⟨h1, _, h2, h3⟩ | ⟨h, _⟩
  · exact .inl h
  · exact .inr (.inl h)
  · exact .inr (.inr ⟨h1, h4 h1, h2, h3⟩)
  · exact absurd h h0
theorem GoodE.ein {k : Nat} {bu : Int} {e : ExpD} (h : GoodE k bu e) : EIn e := ⟨h.fit.fits, h.fit.rP, h.fit.rN, h.ct, h.ze⟩
def plusT (k : Nat) : List U → List Blk → Out RF
  | [.c (.p 50000 0), .a qa, .a qb], [.cells 81 [.v (.int .i64 st), .v (.int .i64 bu), .v (.int .i64 ti), .v (.int .i64 nw), .m 50001 79], .map 79 l] => match asPt qa, asPt qb with
    | some a, some b => .need (GS k bu a ∧ GT k b ∧ 1 ≤ bu ∧ bu ≤ 320) (.all (Option PtD) (fun o => ∀ q, o = some q → GS k bu q) ⟨none, fun _ h => by cases h⟩ fun o => outO o st bu ti nw l)
    | _, _ => .fail
  | _, _ => .fail
theorem shAB_r {a b : ExpD} {most : Int} {r : Int × Int × Int} (h : shV a b most = some r) : 0 ≤ r.1 ∧ r.1 ≤ 31 ∧ 0 ≤ r.2.1 ∧ r.2.1 ≤ 31 := by
  have le := lesser_le a.scale b.scale
  unfold shV at h
  obtain ⟨j, _, rfl, _, _, b5, b6, _⟩ := shGo_spec h
  simp only
  omega
theorem addE_good {k : Nat} {a b : ExpD} {most z : Int} {r : Int × Int × Int} (hA : EIn a) (hB : EIn b) (hg : EGood k b) (hm : 1 ≤ most ∧ most ≤ 320) (hr : shV a b most = some r) (hb : addBad a b r.1.toNat r.2.1.toNat = false) : GoodE k most (addE a b r.1.toNat r.2.1.toNat r.2.2 z) := by
  have hf := add_ok' (z := z) hA.fits hB.fits hA.ct hB.ct hA.ze hB.ze hA.rP hA.rN hB.rP hB.rN hr hb
  refine ⟨hf.fit, ⟨hg.1, hg.2.1, hg.2.2.1, hg.2.2.2.1, ?_, ?_⟩, x64_r _, x64_r _⟩
  · have := hf.fit.lP; omega
  · have := hf.fit.lN; omega
theorem plus_ok' {k : Nat} : OkF G 40 (plusT k) := by
  have hS : AllSound (B [(66, .pure (normG (B []) [35, 35] (numS k))), (67, .pure (normG (B []) [40, 40] (mhistS k fun _ => True))), (68, .pure (normG (B []) [44, 44, 3] (mexpS k)))]) G := .cons _ num_ok (.cons _ mhist_ok (.cons _ mexp_ok noneS))
  refine okF false hS Tryz.func40 rfl (by decide) fun K us lent hk => ?_
  unfold plusT at hk
  split at hk
  · split at hk
    · rename_i qa qb st bu ti nw l _ _ a b ha hb
      rw [asPt_eq ha, asPt_eq hb]
      refine ⟨by show 3 ≤ _; decide, ?_⟩
      obtain ⟨⟨gA, gB, hm⟩, hk⟩ := hk
      have yes : ∀ q, GS k bu q → K (.t [.a q.cells, .c (Bo true)], TBk st bu ti nw l, []) := fun q hq => hk (some q) fun q' h => Option.some.inj h ▸ hq
      have no : ∀ q : PtD, K (.t [.a q.cells, .c (Bo false)], TBk st bu ti nw l, []) := fun q => hk none (fun _ h => by cases h) q trivial
      clear hk ha hb
      obtain ⟨ka, na, ha, ea⟩ := a
      obtain ⟨kb, nb, hb, eb⟩ := b
      rcases gA with ⟨a1, a2, a3, a4⟩ | ⟨a1, a2, a3, a4⟩ | ⟨a1, a2, a3, a4⟩ <;> rcases gB with ⟨b1, b2, b3, b4⟩ | ⟨b1, b2, b3, b4⟩ | ⟨b1, b2, b3, b4⟩ | ⟨b1, b2, b3, b4⟩ <;> (simp only at a1 a2 a3 a4 b1 b2 b3 b4; subst a1 a3 a4 b1 b3 b4)
      · conv => whnf
        refine ⟨b2, ?_⟩
        conv => whnf
        intro c hc
        cases c with
        | true =>
          conv => whnf
          intro c hc2
          cases c with
          | true =>
            conv => whnf
            intro z _
            conv => whnf
            refine ⟨mixed, [(3, [6])], [(0, [])], [], by kernel_rfl, ?_⟩
            conv => whnf
            exact yes ⟨2, { nb with start := na.start, n := z }, noH, noE 0⟩ (.inl ⟨rfl, b2, rfl, rfl⟩)
          | false =>
            conv => whnf
            intro c hc3
            cases c with
            | true =>
              conv => whnf
              refine ⟨mixed, [(3, [6])], [(0, [])], [], by kernel_rfl, ?_⟩
              conv => whnf
              exact no ⟨2, noNum, noH, noE 0⟩
            | false =>
              conv => whnf
              refine ⟨mixed, [(3, [6])], [(0, [])], [], by kernel_rfl, ?_⟩
              conv => whnf
              exact yes ⟨2, { nb with start := na.start, n := x64 (w64 (w64 na.n + w64 nb.n)) }, noH, noE 0⟩ (.inl ⟨rfl, b2, rfl, rfl⟩)
        | false =>
          conv => whnf
          refine ⟨mixed, [(3, [6])], [(0, [])], [], by kernel_rfl, ?_⟩
          conv => whnf
          exact no ⟨2, noNum, noH, noE 0⟩
      · conv => whnf
        exact no ⟨0, noNum, noH, noE 0⟩
      · conv => whnf
        exact no ⟨0, noNum, noH, noE 0⟩
      · conv => whnf
        exact no ⟨0, noNum, noH, noE 0⟩
      · conv => whnf
        exact no ⟨0, noNum, noH, noE 0⟩
      · conv => whnf
        refine ⟨⟨b2, a2.2.2.2.2.1, a2.2.2.2.2.2, trivial⟩, ?_⟩
        conv => whnf
        intro c hc
        cases c with
        | true =>
          conv => whnf
          refine ⟨mixed, [(3, [6])], [(0, [])], [], by kernel_rfl, ?_⟩
          conv => whnf
          exact no ⟨3, noNum, noH, noE 0⟩
        | false =>
          conv => whnf
          intro z _
          conv => whnf
          intro c hc2
          cases c with
          | true =>
            conv => whnf
            refine ⟨mixed, [(3, [6])], [(0, [])], [], by kernel_rfl, ?_⟩
            conv => whnf
            exact no ⟨3, noNum, noH, noE 0⟩
          | false =>
            conv => whnf
            refine ⟨mixed, [(3, [6])], [(0, [])], [], by kernel_rfl, ?_⟩
            conv => whnf
            refine yes ⟨3, noNum, histE ha hb z, noE 0⟩ (.inr (.inl ⟨rfl, ⟨b2.1, b2.2.1, b2.2.2.1, b2.2.2.2.1, ?_, b2.2.2.2.2.2⟩, rfl, rfl⟩))
            show (hZip ha.cs hb.cs).length ≤ 3750
            rw [hZip_len _ _ (unlike_len hc).1]
            exact b2.2.2.2.2.1
      · conv => whnf
        exact no ⟨0, noNum, noH, noE 0⟩
      · conv => whnf
        exact no ⟨0, noNum, noH, noE 0⟩
      · conv => whnf
        exact no ⟨0, noNum, noH, noE 0⟩
      · conv => whnf
        exact no ⟨0, noNum, noH, noE 0⟩
      · have iA := a2.ein
        obtain ⟨gE, iB⟩ := b2
        conv => whnf
        refine ⟨mixed, [(13, [8])], [(1, []), (3, []), (7, []), (8, [])], [], by kernel_rfl, ?_⟩
        conv => whnf
        refine ⟨⟨iA.fits, iB.fits, gE.1, gE.2.1, gE.2.2.1, gE.2.2.2.1⟩, ?_⟩
        conv => whnf
        intro c hc
        cases c with
        | true =>
          conv => whnf
          refine ⟨mixed, [(3, [6])], [(0, [])], [], by kernel_rfl, ?_⟩
          conv => whnf
          exact no ⟨4, noNum, noH, noE 0⟩
        | false =>
          conv => whnf
          intro o ho
          cases o with
          | none =>
            conv => whnf
            refine ⟨mixed, [(3, [6])], [(0, [])], [], by kernel_rfl, ?_⟩
            conv => whnf
            exact no ⟨4, noNum, noH, noE 0⟩
          | some r =>
            conv => whnf
            refine ⟨shAB_r ho, ?_⟩
            conv => whnf
            intro z _
            conv => whnf
            intro c hc2
            cases c with
            | true =>
              conv => whnf
              refine ⟨mixed, [(3, [6])], [(0, [])], [], by kernel_rfl, ?_⟩
              conv => whnf
              exact no ⟨4, noNum, noH, noE 0⟩
            | false =>
              conv => whnf
              refine ⟨mixed, [(3, [6])], [(0, [])], [], by kernel_rfl, ?_⟩
              conv => whnf
              exact yes ⟨4, noNum, noH, addE ea eb r.1.toNat r.2.1.toNat r.2.2 z⟩ (.inr (.inr ⟨rfl, addE_good iA iB gE hm ho hc2, rfl, rfl⟩))
      · conv => whnf
        exact no ⟨0, noNum, noH, noE 0⟩
    · exact hk.elim
  · exact hk.elim
end Sx
