/- Part of the proof: a machine of states for walks, and contracts of functions over it. Conditions: those that each theorem names. -/
import Derived.Test.YtcjdbimojffggaaGreatDoorVj
import Derived.Test.YtcjdbimojffggaaGreatDoorVd
set_option linter.unusedVariables false
set_option linter.unusedSimpArgs false
/-! Up, State, of any points: what stays true. -/
namespace Sx
open Go Go.Proofs
set_option linter.unusedVariables false
set_option maxRecDepth 30000
variable {G : Glob}
def zeroP : PtD := ⟨0, noNum, noH, noE 0⟩
theorem pin0 {k : Nat} {p : PtD} (h : p.kd = 0) : PIn k p := ⟨fun h => by omega, fun h => by omega, fun h => by omega⟩
/-- what lies under a key is a stream -/
def RowOk (Good : PtD → Prop) (s : ByteArray) (l : List (ByteArray × List D)) : Prop := ∀ r, findM s l = some r → ∃ p i, r = p.row i ∧ Good p
def lookP (s : ByteArray) (l : List (ByteArray × List D)) : Option (PtD × Int) := (findM s l).map asRow
def UpR (k : Nat) (bu st : Int) (s : ByteArray) (l : List (ByteArray × List D)) (x : PtD × Int) : Prop := GS k bu x.1 ∧ 0 ≤ x.2 ∧ x.2 ≤ 2 ∧ (x.2 = 1 ↔ findM s l = none) ∧ (findM s l = none → (l.length : Int) < st)
def upT (k : Nat) : List U → List Blk → Out RF
  | [.c (.p 50000 0), .c (.v (.string s)), .a q], [.cells 81 [.v (.int .i64 st), .v (.int .i64 bu), .v (.int .i64 ti), .v (.int .i64 nw), .m 50001 79], .map 79 l] => match asPt q with
    | some p => .need (PTold k p ∧ 1 ≤ bu ∧ bu ≤ 320 ∧ RowOk (GS k bu) s l) (.all (Option (PtD × Int)) (fun o => ∀ x, o = some x → UpR k bu st s l x) ⟨none, fun _ h => by cases h⟩ fun o => match o with
      | some x => .ret (.t [.a x.1.cells, .c (I64 x.2)], TBk st bu ti nw (putM s (x.1.row nw) l), [])
      | none => .all Int (fun v => 3 ≤ v ∧ v ≤ 5) ⟨3, by decide⟩ fun v => .ret (.t [.a zeroP.cells, .c (I64 v)], TBk st bu ti nw l, []))
    | none => .fail
  | _, _ => .fail
set_option maxHeartbeats 1000000 in
theorem up_ok' {k : Nat} : OkF G 11 (upT k) := by
  have hS : AllSound (B [(37, .full (normF (B []) [24, 46] (fitT k))), (38, .full (normF (B []) [24, 9] fullS)), (39, .full (normF (B []) [24, 9, 46] (laysT k))), (28, .pure (normG (B []) [46] (numOf startOf))), (30, .pure (normG (B []) [46] (numOf timeOf))), (36, .pure (normG (B []) [46] (aloneS k))), (40, .full (normF (B []) [24, 46, 46] (plusT k)))]) G :=
    .consF _ fit_ok' (.consF _ full_ok (.consF _ layT_ok (.cons _ start_ok (.cons _ time_ok (.cons _ alone_ok (.consF _ plus_ok' noneS))))))
  refine okF false hS Tryz.func11 rfl (by decide) fun K us lent hk => ?_
  unfold upT at hk
  split at hk
  · split at hk
    · rename_i s q0 st bu ti nw l _ p hl
      rw [asPt_eq hl]
      refine ⟨by show 3 ≤ _; decide, ?_⟩
      obtain ⟨⟨hT, hm1, hm2, hrow⟩, hk⟩ := hk
      have yes : ∀ x : PtD × Int, UpR k bu st s l x → K (.t [.a x.1.cells, .c (I64 x.2)], TBk st bu ti nw (putM s (x.1.row nw) l), []) := fun x hx => hk (some x) fun x' h => Option.some.inj h ▸ hx
      have no : ∀ v : Int, 3 ≤ v ∧ v ≤ 5 → K (.t [.a zeroP.cells, .c (I64 v)], TBk st bu ti nw l, []) := fun v hv => hk none (fun _ h => by cases h) v hv
      clear hk
      conv => whnf
      refine ⟨⟨hT, hm1, hm2⟩, ?_⟩
      conv => whnf
      intro o ho
      cases o with
      | none =>
        conv => whnf
        intro q _
        conv => whnf
        intro o2 ho2
        cases o2 with
        | none =>
          conv => whnf
          exact no 5 (by decide)
        | some row =>
          conv => whnf
          exact no 5 (by decide)
      | some q =>
        have gq := ho q rfl
        conv => whnf
        intro o2 ho2
        cases o2 with
        | none =>
          conv => whnf
          intro c hc
          rw [ho2] at hc
          cases c with
          | true =>
            conv => whnf
            exact no 4 (by decide)
          | false =>
            have hc : decide ((l.length : Int) ≥ st) = false := hc
            conv => whnf
            refine ⟨⟨gq.pin, gq.bare⟩, ?_⟩
            conv => whnf
            exact yes (q, 1) ⟨gq, by show (0 : Int) ≤ 1; decide, by show (1 : Int) ≤ 2; decide, ⟨fun _ => ho2, fun _ => rfl⟩, fun _ => by have := of_decide_eq_false hc; omega⟩
        | some row =>
          obtain ⟨m, i, rfl, hm⟩ := hrow _ ho2
          have nn : ¬ findM s l = none := by rw [ho2]; simp
          conv => whnf
          intro c hc
          rw [ho2] at hc
          obtain rfl : false = c := hc
          conv => whnf
          refine ⟨mixed, [], [(0, []), (1, []), (3, []), (4, []), (7, []), (8, []), (10, []), (11, [])], [], by kernel_rfl, ?_⟩
          conv => whnf
          intro x1 _
          conv => whnf
          intro x2 _
          conv => whnf
          refine Ask.i (fun c1 => ?_) (fun c1 => ?_)
          · conv => whnf
            exact no 3 (by decide)
          conv => whnf
          intro x3 _
          conv => whnf
          intro x4 _
          conv => whnf
          refine Ask.i (fun c2 => ?_) (fun c2 => ?_)
          · conv => whnf
            exact no 3 (by decide)
          conv => whnf
          refine ⟨mixed, [(5, [50000, 50001]), (10, [12])], [(2, []), (3, []), (4, []), (5, [50000, 50001])], [], by kernel_rfl, ?_⟩
          conv => whnf
          refine ⟨hT.1, ?_⟩
          conv => whnf
          intro q2 hq2
          conv => whnf
          refine ⟨⟨hm, by rw [show q2 = _ from hq2.symm]; exact hT.bare, hm1, hm2⟩, ?_⟩
          conv => whnf
          intro o3 ho3
          cases o3 with
          | some r =>
            have gr := ho3 r rfl
            conv => whnf
            refine ⟨⟨gr.pin, gr.bare⟩, ?_⟩
            conv => whnf
            exact yes (r, 0) ⟨gr, by show (0 : Int) ≤ 0; decide, by show (0 : Int) ≤ 2; decide, ⟨fun h => absurd (show (0 : Int) = 1 from h) (by decide), fun h => absurd h nn⟩, fun h => absurd h nn⟩
          | none =>
            conv => whnf
            intro w _
            conv => whnf
            refine ⟨⟨gq.pin, gq.bare⟩, ?_⟩
            conv => whnf
            exact yes (q, 2) ⟨gq, by show (0 : Int) ≤ 2; decide, by show (2 : Int) ≤ 2; decide, ⟨fun h => absurd (show (2 : Int) = 1 from h) (by decide), fun h => absurd h nn⟩, fun h => absurd h nn⟩
    · exact hk.elim
  · exact hk.elim
def stateT (k : Nat) : List U → List Blk → Out RF
  | [.c (.p 50000 0), .c (.v (.string s))], [.cells 81 [.v (.int .i64 st), .v (.int .i64 bu), .v (.int .i64 ti), .v (.int .i64 nw), .m 50001 79], .map 79 l] =>
    .need (RowOk (GS k bu) s l) (.all (Option (PtD × Int)) (fun o => lookP s l = o) ⟨_, rfl⟩ fun o => match o with
      | none => .ret (.t [.a zeroP.cells, .c (Bo false)], TBk st bu ti nw l, [])
      | some x => .ret (.t [.a x.1.cells, .c (Bo true)], TBk st bu ti nw l, []))
  | _, _ => .fail
theorem state_ok' {k : Nat} : OkF G 9 (stateT k) := by
  have hS : AllSound (B [(36, .pure (normG (B []) [46] (aloneS k)))]) G := .cons _ alone_ok noneS
  refine okF false hS Tryz.func9 rfl (by decide) fun K us lent hk => ?_
  unfold stateT at hk
  split at hk
  · rename_i s st bu ti nw l
    refine ⟨by show 2 ≤ _; decide, ?_⟩
    obtain ⟨hrow, hk⟩ := hk
    conv => whnf
    intro o ho
    cases o with
    | none =>
      have hk := hk none (by show lookP s l = none; rw [lookP, ho]; rfl)
      conv => whnf
      refine ⟨pin0 rfl, ?_⟩
      conv => whnf
      intro q hq
      obtain rfl : zeroP = q := hq
      conv => whnf
      exact hk
    | some row =>
      obtain ⟨m, i, rfl, hm⟩ := hrow _ ho
      have hk := hk (some (m, i)) (by show lookP s l = some (m, i); rw [lookP, ho]; rfl)
      conv => whnf
      refine ⟨hm.pin, ?_⟩
      conv => whnf
      intro q hq
      obtain rfl : m = q := hm.bare.symm.trans hq
      conv => whnf
      exact hk
  · exact hk.elim
end Sx
/-! Points compared with themselves. -/
namespace Sx
open Go Go.Proofs
set_option linter.unusedVariables false
set_option maxRecDepth 30000
variable {G : Glob}
def numEqT (k : Nat) : List U → Out SV
  | [.a l, .a m] => match asNum l with
    | some e => .need (l = m ∧ NGood k e) (one (Bo true))
    | none => .fail
  | _ => .fail
theorem numEq_ok {k : Nat} : Ok G 41 (numEqT k) := by
  have hS : AllSound (B [(69, .pure (normG (B []) [30, 30] (keysEqS k))), (70, .pure (normG (B []) [32, 32] (exsEqS k)))]) G := .cons _ (keysEq_all k) (.cons _ (exsEq_ok k) noneS)
  refine okP hS Tryz.func41 rfl (by decide) fun K us hk => ?_
  unfold numEqT at hk
  split at hk
  · rename_i l m
    split at hk
    · rename_i e he
      obtain ⟨⟨rfl, h1, h2, h3, h4⟩, hk⟩ := hk
      rw [asNum_eq he]
      refine ⟨by show 2 ≤ _; decide, ?_⟩
      conv => whnf
      refine ⟨⟨h1, h2, rfl⟩, ?_⟩
      conv => whnf
      refine Ask.i (fun _ => ?_) (fun c => nf (e.start) c)
      conv => whnf
      refine Ask.i (fun _ => ?_) (fun c => nf (e.time) c)
      conv => whnf
      refine Ask.i (fun _ => ?_) (fun c => nf (e.kind) c)
      conv => whnf
      refine Ask.i (fun _ => ?_) (fun c => nf (e.n) c)
      conv => whnf
      refine ⟨⟨h3, h4, rfl⟩, ?_⟩
      conv => whnf
      refine Ask.i (fun _ => ?_) (fun c => nf (e.flags) c)
      conv => whnf
      exact fin hk (Bo_self e.unk.toList)
    · exact hk.elim
  · exact hk.elim
def histEqT (k : Nat) : List U → Out SV
  | [.a l, .a m] => match asHist l with
    | some e => .need (l = m ∧ HGood k e) (one (Bo true))
    | none => .fail
  | _ => .fail
theorem histEq_ok {k : Nat} : Ok G 42 (histEqT k) := by
  have hS : AllSound (B [(69, .pure (normG (B []) [30, 30] (keysEqS k))), (71, .pure (normG (B []) [37, 37] optEqS)), (72, .pure (normG (B []) [38, 38] numsS)), (70, .pure (normG (B []) [32, 32] (exsEqS k)))]) G := .cons _ (keysEq_all k) (.cons _ optEq_ok (.cons _ nums_ok (.cons _ (exsEq_ok k) noneS)))
  refine okP hS Tryz.func42 rfl (by decide) fun K us hk => ?_
  unfold histEqT at hk
  split at hk
  · rename_i l m
    split at hk
    · rename_i e he
      obtain ⟨⟨rfl, h1, h2, h3, h4, h5, h6⟩, hk⟩ := hk
      rw [asHist_eq he]
      refine ⟨by show 2 ≤ _; decide, ?_⟩
      conv => whnf
      refine ⟨⟨h1, h2, rfl⟩, ?_⟩
      conv => whnf
      refine Ask.i (fun _ => ?_) (fun c => nf (e.start) c)
      conv => whnf
      refine Ask.i (fun _ => ?_) (fun c => nf (e.time) c)
      conv => whnf
      refine Ask.i (fun _ => ?_) (fun c => nf (e.count) c)
      conv => whnf
      refine ⟨⟨rfl, rfl⟩, ?_⟩
      conv => whnf
      refine ⟨⟨rfl, rfl⟩, ?_⟩
      conv => whnf
      refine ⟨⟨rfl, rfl⟩, ?_⟩
      conv => whnf
      refine ⟨⟨by show e.cs.length ≤ 68719476736; omega, by show e.cs.length ≤ 68719476736; omega⟩, ?_⟩
      conv => whnf
      refine Ask.i (fun _ => ?_) (fun c => absurd rfl (of_decide_eq_false c))
      conv => whnf
      refine ⟨⟨by show e.bs.length ≤ 68719476736; omega, by show e.bs.length ≤ 68719476736; omega⟩, ?_⟩
      conv => whnf
      refine Ask.i (fun _ => ?_) (fun c => absurd rfl (of_decide_eq_false c))
      conv => whnf
      refine ⟨⟨h3, h4, rfl⟩, ?_⟩
      conv => whnf
      refine Ask.i (fun _ => ?_) (fun c => nf (e.flags) c)
      conv => whnf
      exact fin hk (Bo_self e.unk.toList)
    · exact hk.elim
  · exact hk.elim
/-- a point, for the document -/
def plainT : List U → Out SV
  | [.a l] => match asPt l with
    | some p => agg p.cells
    | none => .fail
  | _ => .fail
theorem plain_ok : Ok G 13 plainT := by
  refine okP noneS Tryz.func13 rfl (by decide) fun K us hk => ?_
  unfold plainT at hk
  split at hk
  · split at hk
    · rename_i l _ p hl
      rw [asPt_eq hl]
      refine ⟨by show 1 ≤ _; decide, ?_⟩
      conv => whnf
      exact hk
    · exact hk.elim
  · exact hk.elim
def SameOk (k : Nat) (p : PtD) : Prop := NGood k p.n ∧ HGood k p.h ∧ EGood k p.e
def sameT (k : Nat) : List U → Out SV
  | [.a l, .a m] => match asPt l with
    | some p => .need (l = m ∧ SameOk k p) (one (Bo true))
    | none => .fail
  | _ => .fail
theorem same_ok {k : Nat} : Ok G 12 (sameT k) := by
  have hS : AllSound (B [(41, .pure (normG (B []) [35, 35] (numEqT k))), (42, .pure (normG (B []) [40, 40] (histEqT k))), (43, .pure (normG (B []) [44, 44] (expEqS k)))]) G := .cons _ numEq_ok (.cons _ histEq_ok (.cons _ expEq_ok noneS))
  refine okP hS Tryz.func12 rfl (by decide) fun K us hk => ?_
  unfold sameT at hk
  split at hk
  · rename_i l m
    split at hk
    · rename_i p hl
      obtain ⟨⟨rfl, gN, gH, gE⟩, hk⟩ := hk
      rw [asPt_eq hl]
      refine ⟨by show 2 ≤ _; decide, ?_⟩
      conv => whnf
      refine Ask.i (fun _ => ?_) (fun c => nf (p.kd) c)
      conv => whnf
      refine ⟨⟨rfl, gN⟩, ?_⟩
      conv => whnf
      refine ⟨⟨rfl, gH⟩, ?_⟩
      conv => whnf
      refine ⟨⟨rfl, gE.1, gE.2.1, gE.2.2.1, gE.2.2.2.1, Nat.le_trans gE.2.2.2.2.1 (by decide), Nat.le_trans gE.2.2.2.2.2 (by decide)⟩, ?_⟩
      conv => whnf
      exact hk
    · exact hk.elim
  · exact hk.elim
theorem good0 {k : Nat} : SameOk (k + 1) zeroP :=
  ⟨⟨.rows rfl (by decide) (by simp) (by simp), .rows (by decide) (by simp), .rows rfl (by decide) (by simp) (by simp), .rows (by decide) (by simp)⟩,
    ⟨.rows rfl (by decide) (by simp) (by simp), .rows (by decide) (by simp), .rows rfl (by decide) (by simp) (by simp), .rows (by decide) (by simp), by decide, by decide⟩,
    ⟨.rows rfl (by decide) (by simp) (by simp), .rows (by decide) (by simp), .rows rfl (by decide) (by simp) (by simp), .rows (by decide) (by simp), by decide, by decide⟩⟩
theorem GS.same {k : Nat} {bu : Int} {p : PtD} (h : GS (k + 1) bu p) : SameOk (k + 1) p := by
  have z := good0 (k := k)
  rcases h with ⟨_, h2, h3, h4⟩ | ⟨_, h2, h3, h4⟩ | ⟨_, h2, h3, h4⟩
  · exact ⟨h2, by rw [h3]; exact z.2.1, by rw [h4]; exact z.2.2⟩
  · exact ⟨by rw [h3]; exact z.1, h2, by rw [h4]; exact z.2.2⟩
  · exact ⟨by rw [h3]; exact z.1, by rw [h4]; exact z.2.1, h2.good⟩
end Sx
/-! Are operations few and small? -/
namespace Sx
open Go Go.Proofs
set_option linter.unusedVariables false
set_option maxRecDepth 30000
variable {G : Glob}
theorem Ok.mono {f : FuncId} {g g' : List U → Out SV} (h : Ok G f g) (hm : ∀ us K, (g' us).wp K → (g us).wp K) : Ok G f g' := ⟨h.1, fun K us X w vals hk => h.2 K us X w vals (hm us K hk)⟩
/-- words of a histogram out of a row: its lists not looked into -/
def asHistR : List C → Option (HistD × D × D)
  | .d 30 attrs :: .v (.int .u64 start) :: .v (.int .u64 time) :: .v (.int .u64 count) :: .v (.bool sumH) :: .v (.int .u64 sum) :: .v (.bool minH) :: .v (.int .u64 min) :: r1 => match r1 with
    | [.v (.bool maxH), .v (.int .u64 max), .d 38 x, .d 38 y, .d 32 ex, .v (.int .u32 flags), .v (.string unk)] => some (⟨attrs, start, time, count, sumH, sum, minH, min, maxH, max, x.toInts, y.toInts, ex, flags, unk⟩, x, y)
    | _ => none
  | _ => none
def asExpR : List C → Option (ExpD × D × D)
  | .d 30 attrs :: .v (.int .u64 start) :: .v (.int .u64 time) :: .v (.int .u64 count) :: r1 => match r1 with
    | .v (.bool sumH) :: .v (.int .u64 sum) :: .v (.bool minH) :: .v (.int .u64 min) :: .v (.bool maxH) :: .v (.int .u64 max) :: r2 => match r2 with
      | .v (.int .i32 scale) :: .v (.int .u64 zero) :: .v (.bool hasP) :: .v (.int .i32 offP) :: .d 38 x :: .v (.string unkP) :: r3 => match r3 with
        | .v (.bool hasN) :: .v (.int .i32 offN) :: .d 38 y :: .v (.string unkN) :: r4 => match r4 with
          | [.d 32 ex, .v (.int .u32 flags), .v (.int .u64 thr), .v (.string unk)] => some (⟨attrs, start, time, count, sumH, sum, minH, min, maxH, max, scale, zero, hasP, offP, x.toInts, unkP, hasN, offN, y.toInts, unkN, ex, flags, thr, unk⟩, x, y)
          | _ => none
        | _ => none
      | _ => none
    | _ => none
  | _ => none
theorem asHistR_eq {l : List C} {z : HistD × D × D} (h : asHistR l = some z) (h1 : z.2.1 = .ints z.1.cs) (h2 : z.2.2 = .ints z.1.bs) : l = z.1.cells := by
  unfold asHistR at h
  split at h
  · split at h
    · obtain rfl := Option.some.inj h
      simp only at h1 h2
      rw [h1, h2]; rfl
    · cases h
  · cases h
theorem asExpR_eq {l : List C} {z : ExpD × D × D} (h : asExpR l = some z) (h1 : z.2.1 = .ints z.1.cP) (h2 : z.2.2 = .ints z.1.cN) : l = z.1.cells := by
  unfold asExpR at h
  split at h
  · split at h
    · split at h
      · split at h
        · split at h
          · obtain rfl := Option.some.inj h
            simp only at h1 h2
            rw [h1, h2]; rfl
          · cases h
        · cases h
      · cases h
    · cases h
  · cases h
theorem asHist_cells (e : HistD) : asHist e.cells = some e := rfl
theorem asExp_cells (e : ExpD) : asExp e.cells = some e := rfl
def rhR : List U → Out SV
  | [.a l, .c (.v (.int .i64 r))] => match asHistR l with
    | some z => .need (z.2.1 = .ints z.1.cs ∧ z.2.2 = .ints z.1.bs ∧ z.1.Typ ∧ -1 ≤ r ∧ r ≤ 30000) (left (r - 20) z.1.Small)
    | none => .fail
  | _ => .fail
def rxR : List U → Out SV
  | [.a l, .c (.v (.int .i64 r))] => match asExpR l with
    | some z => .need (z.2.1 = .ints z.1.cP ∧ z.2.2 = .ints z.1.cN ∧ z.1.Typ ∧ -1 ≤ r ∧ r ≤ 30000) (left (r - 20) z.1.Small)
    | none => .fail
  | _ => .fail
theorem roomHistR_ok : Ok G 35 rhR := roomHist_ok.mono fun us K hk => by
  unfold rhR at hk
  split at hk
  · split at hk
    · rename_i l r z hz
      obtain ⟨⟨h1, h2, h3⟩, hk⟩ := hk
      rw [asHistR_eq hz h1 h2]
      exact ⟨h3, hk⟩
    · exact hk.elim
  · exact hk.elim
theorem roomExpR_ok : Ok G 34 rxR := roomExp_ok.mono fun us K hk => by
  unfold rxR at hk
  split at hk
  · split at hk
    · rename_i l r z hz
      obtain ⟨⟨h1, h2, h3⟩, hk⟩ := hk
      rw [asExpR_eq hz h1 h2]
      exact ⟨h3, hk⟩
    · exact hk.elim
  · exact hk.elim
/-- an operation's point, out of its row -/
def oN (r : List D) : NumD := ⟨cellD r 4, (cellD r 5).toInt, (cellD r 6).toInt, (cellD r 7).toInt, (cellD r 8).toInt, cellD r 9, (cellD r 10).toInt, (cellD r 11).toStr⟩
def oH (r : List D) : HistD := ⟨cellD r 12, (cellD r 13).toInt, (cellD r 14).toInt, (cellD r 15).toInt, (cellD r 16).toBool, (cellD r 17).toInt, (cellD r 18).toBool, (cellD r 19).toInt, (cellD r 20).toBool, (cellD r 21).toInt, (cellD r 22).toInts, (cellD r 23).toInts, cellD r 24, (cellD r 25).toInt, (cellD r 26).toStr⟩
def oE (r : List D) : ExpD := ⟨cellD r 27, (cellD r 28).toInt, (cellD r 29).toInt, (cellD r 30).toInt, (cellD r 31).toBool, (cellD r 32).toInt, (cellD r 33).toBool, (cellD r 34).toInt, (cellD r 35).toBool, (cellD r 36).toInt, (cellD r 37).toInt, (cellD r 38).toInt, (cellD r 39).toBool, (cellD r 40).toInt, (cellD r 41).toInts, (cellD r 42).toStr, (cellD r 43).toBool, (cellD r 44).toInt, (cellD r 45).toInts, (cellD r 46).toStr, cellD r 47, (cellD r 48).toInt, (cellD r 49).toInt, (cellD r 50).toStr⟩
def oP (r : List D) : PtD := ⟨(cellD r 3).toInt, oN r, oH r, oE r⟩
/-- what is known of a row of the argument -/
structure OpTyp (r : List D) : Prop where
  n : (oN r).Typ
  h : (oH r).Typ
  e : (oE r).Typ
  i22 : cellD r 22 = .ints (cellD r 22).toInts
  i23 : cellD r 23 = .ints (cellD r 23).toInts
  i41 : cellD r 41 = .ints (cellD r 41).toInts
  i45 : cellD r 45 = .ints (cellD r 45).toInts
  ct : 0 ≤ (oE r).count ∧ (oE r).count < 18446744073709551616
  ze : 0 ≤ (oE r).zero ∧ (oE r).zero < 18446744073709551616
structure OpSmall (r : List D) : Prop where
  n : (oN r).Small
  h : (oH r).Small
  e : (oE r).Small
structure FewOk (R : List (List D)) : Prop where
  len : R.length ≤ 60
  key : ∀ r ∈ R, (cellD r 1).toStr.size ≤ 1000
  small : ∀ r ∈ R, OpSmall r
def fewT : List U → Out SV
  | [.c (.d 22 (.rows R))] => .need (R.length ≤ 9223372036854775807 ∧ ∀ r ∈ R, OpTyp r) (.all Bool (fun b => b = true → FewOk R) ⟨false, by simp⟩ fun b => one (Bo b))
  | _ => .fail
theorem few_ok : Ok G 8 fewT := by
  have hS : AllSound (B [(32, .pure (normG (B []) [35, 3] rnS)), (35, .pure (normG (B []) [40, 3] rhR)), (34, .pure (normG (B []) [44, 3] rxR))]) G := .cons _ roomNum_ok (.cons _ roomHistR_ok (.cons _ roomExpR_ok noneS))
  refine okP hS Tryz.func8 rfl (by decide) fun K us hk => ?_
  unfold fewT at hk
  split at hk
  · rename_i R
    refine ⟨by show 1 ≤ _; decide, ?_⟩
    obtain ⟨⟨hlen, hT⟩, hk⟩ := hk
    have hk : ∀ b : Bool, (b = true → FewOk R) → K (.u (.c (Bo b))) := hk
    conv => whnf
    refine ⟨[], _, _, rfl, Nat × Int, (fun y => ([(0, .u (.c (.d 22 (.rows R)))), (3, .u (.c (I64 y.2))), (4, .u (.c (I64 (y.1 : Nat))))], [])),
      (fun y => y.1 ≤ R.length ∧ y.1 ≤ 60 ∧ -1 ≤ y.2 ∧ y.2 ≤ 30000 ∧ (∀ r ∈ R.take y.1, (cellD r 1).toStr.size ≤ 1000) ∧ (0 ≤ y.2 → ∀ r ∈ R.take y.1, OpSmall r)), (fun y => R.length - y.1), fun x _ => rfl, ⟨(0, 30000), ⟨Nat.zero_le _, Nat.zero_le _, by decide, by decide, by simp, by simp⟩, ⟨rfl, rfl, rfl, trivial⟩, trivial⟩, ?_⟩
    rintro ⟨i, r1⟩ ⟨p1, p2, p3, p4, p5, p6⟩
    simp only at p1 p2 p3 p4 p5 p6
    conv => whnf
    have fini : ¬ (i < R.length ∧ i < 60) → R.length ≤ 60 → i = R.length := fun h1 h2 => by omega
    refine Ask.i (fun c1 => ?_) (fun c1 => ?_)
    · have c1 : (i : Int) < ((R.length : Nat) : Int) := of_decide_eq_true c1
      have hi : i < R.length := by omega
      conv => whnf
      refine Ask.i (fun c2 => ?_) (fun c2 => ?_)
      · have c2 : (i : Int) < 60 := of_decide_eq_true c2
        have hb : (0 : Int) ≤ (i : Int) ∧ (i : Int) < ((R.length : Nat) : Int) := ⟨by omega, c1⟩
        have hmem : R.getD i [] ∈ R := by rw [List.getD_eq_getElem?_getD, List.getElem?_eq_getElem hi]; exact List.getElem_mem hi
        have tT := hT _ hmem
        conv => whnf
        refine ⟨mixed, [], [(2, []), (5, []), (8, []), (11, []), (14, []), (17, []), (19, []), (20, []), (21, [])], [], by kernel_rfl, ?_⟩
        conv => whnf
        refine ⟨hb, ?_⟩
        conv => whnf
        refine ⟨hb, ?_⟩
        conv => whnf
        refine ⟨hb, ?_⟩
        conv => whnf
        refine ⟨⟨tT.n, p3, p4⟩, ?_⟩
        conv => whnf
        rintro x ⟨x1, x2⟩
        have x2 : 0 ≤ x → x ≤ r1 - 20 ∧ (oN (R.getD i [])).Small := x2
        have x4 : x ≤ 30000 := by
          by_cases h0 : 0 ≤ x
          · have := x2 h0; omega
          · omega
        conv => whnf
        refine ⟨⟨tT.i22, tT.i23, tT.h, x1, x4⟩, ?_⟩
        conv => whnf
        rintro y ⟨y1, y2⟩
        have y2 : 0 ≤ y → y ≤ x - 20 ∧ (oH (R.getD i [])).Small := y2
        have y4 : y ≤ 30000 := by
          by_cases h0 : 0 ≤ y
          · have := y2 h0; omega
          · omega
        conv => whnf
        refine ⟨⟨tT.i41, tT.i45, tT.e, y1, y4⟩, ?_⟩
        conv => whnf
        rintro z ⟨z1, z2⟩
        have z2 : 0 ≤ z → z ≤ y - 20 ∧ (oE (R.getD i [])).Small := z2
        have z4 : z ≤ 30000 := by
          by_cases h0 : 0 ≤ z
          · have := z2 h0; omega
          · omega
        conv => whnf
        refine ⟨hb, ?_⟩
        conv => whnf
        refine Ask.i (fun c3 => ?_) (fun c3 => ?_)
        · conv => whnf
          exact hk false (by simp)
        have c3 : ¬ (((cellD (R.getD i []) 1).toStr.size : Nat) : Int) > 1000 := of_decide_eq_false c3
        conv => whnf
        refine ⟨(i + 1, z), ⟨hi, by simp only; omega, z1, z4, take_succ_all (a := []) hi p5 (by omega), fun h0 => take_succ_all (a := []) hi (p6 ?_) ⟨(x2 ?_).2, (y2 ?_).2, (z2 h0).2⟩⟩, by simp only; omega, ⟨rfl, rfl, congrArg (fun z : Int => some (SV.u (.c (I64 z)))) (w64_eq (n := (i : Int) + 1) (by omega)), trivial⟩, trivial⟩
        · have h0 : 0 ≤ z := h0
          have a := z2 h0; have b := y2 (by omega); have c := x2 (by omega); omega
        · have h0 : 0 ≤ z := h0
          have a := z2 h0; have b := y2 (by omega); omega
        · have h0 : 0 ≤ z := h0
          have a := z2 h0; omega
      · have c2 : ¬ (i : Int) < 60 := of_decide_eq_false c2
        conv => whnf
        refine Ask.i (fun c3 => ?_) (fun c3 => ?_)
        · have c3 : ((R.length : Nat) : Int) ≤ 60 := of_decide_eq_true c3
          exfalso; omega
        · conv => whnf
          exact hk false (by simp)
    · have c1 : ¬ (i : Int) < ((R.length : Nat) : Int) := of_decide_eq_false c1
      have hi : i = R.length := by omega
      conv => whnf
      refine Ask.i (fun c3 => ?_) (fun c3 => ?_)
      · have c3 : ((R.length : Nat) : Int) ≤ 60 := of_decide_eq_true c3
        conv => whnf
        refine hk (decide (r1 ≥ 0)) fun h => ?_
        have h0 : 0 ≤ r1 := of_decide_eq_true h
        have q5 := p5
        have q6 := p6 h0
        rw [hi, List.take_length] at q5 q6
        exact ⟨by omega, q5, q6⟩
      · conv => whnf
        exact hk false (by simp)
  · exact hk.elim
end Sx
