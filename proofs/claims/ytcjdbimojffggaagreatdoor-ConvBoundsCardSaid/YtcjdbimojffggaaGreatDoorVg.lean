/- Part of the proof: a machine of states for walks, and contracts of functions over it. Conditions: those that each theorem names. -/
import Derived.Test.YtcjdbimojffggaaGreatDoorVf
set_option linter.unusedVariables false
set_option linter.unusedSimpArgs false
/-! Points of histograms; how much they hold. -/
namespace Sx
open Go Go.Proofs Go.RowKit
set_option linter.unusedVariables false
set_option maxRecDepth 30000
variable {G : Glob}
structure HistD where
  attrs : D
  start : Int
  time : Int
  count : Int
  sumH : Bool
  sum : Int
  minH : Bool
  min : Int
  maxH : Bool
  max : Int
  cs : List Int
  bs : List Int
  ex : D
  flags : Int
  unk : ByteArray
def HistD.cells (e : HistD) : List C := [.d 30 e.attrs, U64 e.start, U64 e.time, U64 e.count, Bo e.sumH, U64 e.sum, Bo e.minH, U64 e.min, Bo e.maxH, U64 e.max, .d 38 (.ints e.cs), .d 38 (.ints e.bs), .d 32 e.ex, U32 e.flags, St e.unk]
def HistD.row (e : HistD) : List D := [e.attrs, .int e.start, .int e.time, .int e.count, .bool e.sumH, .int e.sum, .bool e.minH, .int e.min, .bool e.maxH, .int e.max, .ints e.cs, .ints e.bs, e.ex, .int e.flags, .str e.unk]
def asHist : List C → Option HistD
  | .d 30 attrs :: .v (.int .u64 start) :: .v (.int .u64 time) :: .v (.int .u64 count) :: .v (.bool sumH) :: .v (.int .u64 sum) :: .v (.bool minH) :: .v (.int .u64 min) :: r1 => match r1 with
    | [.v (.bool maxH), .v (.int .u64 max), .d 38 (.ints cs), .d 38 (.ints bs), .d 32 ex, .v (.int .u32 flags), .v (.string unk)] => some ⟨attrs, start, time, count, sumH, sum, minH, min, maxH, max, cs, bs, ex, flags, unk⟩
    | _ => none
  | _ => none
theorem asHist_eq {l : List C} {e : HistD} (h : asHist l = some e) : l = e.cells := by
  unfold asHist at h
  split at h
  · split at h
    · obtain rfl := Option.some.inj h; rfl
    · cases h
  · cases h
def rowHist : List D → Option HistD
  | attrs :: .int start :: .int time :: .int count :: .bool sumH :: .int sum :: .bool minH :: .int min :: r1 => match r1 with
    | [.bool maxH, .int max, .ints cs, .ints bs, ex, .int flags, .str unk] => some ⟨attrs, start, time, count, sumH, sum, minH, min, maxH, max, cs, bs, ex, flags, unk⟩
    | _ => none
  | _ => none
theorem rowHist_eq {l : List D} {e : HistD} (h : rowHist l = some e) : l = e.row := by
  unfold rowHist at h
  split at h
  · split at h
    · obtain rfl := Option.some.inj h; rfl
    · cases h
  · cases h
structure HistD.Typ (e : HistD) : Prop where
  attrs : Sx.Typ TB (.sl 30) e.attrs
  ex : Sx.Typ TB (.sl 32) e.ex
  lC : e.cs.length ≤ 9223372036854775807
  lB : e.bs.length ≤ 9223372036854775807
  rC : R64 e.cs
  ct : 0 ≤ e.count ∧ e.count < 18446744073709551616
structure HistD.Small (e : HistD) : Prop where
  attrs : Sx.Small e.attrs
  ex : Sx.Small e.ex
  lC : e.cs.length ≤ 3750
  lB : e.bs.length ≤ 3750
def roomN (l : Nat) : Int := if (100000 : Int) < (l : Nat) then 100000 else ((l : Nat) : Int)
theorem roomN_spec (l : Nat) : 0 ≤ roomN l ∧ roomN l ≤ 100000 ∧ (roomN l ≤ 3750 → l ≤ 3750) ∧ w64 (8 * roomN l) = 8 * roomN l := by
  have h : 0 ≤ roomN l ∧ roomN l ≤ 100000 ∧ (roomN l ≤ 3750 → l ≤ 3750) := by unfold roomN; split <;> omega
  exact ⟨h.1, h.2.1, h.2.2, w64_eq (by omega)⟩
def rhS : List U → Out SV
  | [.a l, .c (.v (.int .i64 r))] => match asHist l with
    | some e => .need (e.Typ ∧ -1 ≤ r ∧ r ≤ 30000) (left (r - 20) e.Small)
    | none => .fail
  | _ => .fail
theorem roomHist_ok : Ok G 35 rhS := by
  have hS : AllSound (B [(58, .pure (normG (B []) [3, 3] takeS)), (57, .pure (normG (B []) [30, 3, 3] (rkS 100))), (56, .pure (normG (B []) [32, 3] reS))]) G := .cons _ take_ok (.cons _ roomKeys_ok' (.cons _ roomExemplars_ok noneS))
  refine okP hS Tryz.func35 rfl (by decide) fun K us hk => ?_
  unfold rhS at hk
  split at hk
  · rename_i l r
    split at hk
    · rename_i e he
      rw [asHist_eq he]
      refine ⟨by show 2 ≤ _; decide, ?_⟩
      obtain ⟨⟨hT, hr1, hr2⟩, hk⟩ := hk
      have hk : ∀ z : Int, (-1 ≤ z ∧ (0 ≤ z → z ≤ r - 20 ∧ e.Small)) → K (.u (.c (I64 z))) := hk
      have mC := roomN_spec e.cs.length
      have mB := roomN_spec e.bs.length
      have t1 := tk_spec (r := r) (n := (e.unk.size : Nat)) hr1 (Int.natCast_nonneg _)
      have t2 := tk_spec (r := tk r (e.unk.size : Nat)) (n := w64 (8 * roomN e.cs.length)) t1.1 (by omega)
      have t3 := tk_spec (r := tk (tk r (e.unk.size : Nat)) (w64 (8 * roomN e.cs.length))) (n := w64 (8 * roomN e.bs.length)) t2.1 (by omega)
      conv => whnf
      refine ⟨mixed, [], [], [], by kernel_rfl, ?_⟩
      conv => whnf
      refine ⟨⟨hr1, by omega, Int.natCast_nonneg _⟩, ?_⟩
      conv => whnf
      refine ⟨⟨t1.1, by show tk r (e.unk.size : Nat) ≤ _; omega, by show 0 ≤ w64 (8 * roomN e.cs.length); omega⟩, ?_⟩
      conv => whnf
      refine ⟨⟨t2.1, by show tk (tk r (e.unk.size : Nat)) (w64 (8 * roomN e.cs.length)) ≤ 1000000; omega, by show 0 ≤ w64 (8 * roomN e.bs.length); omega⟩, ?_⟩
      generalize hx : tk (tk (tk r (e.unk.size : Nat)) (w64 (8 * roomN e.cs.length))) (w64 (8 * roomN e.bs.length)) = x at *
      conv => whnf
      refine ⟨mixed, [], [], [], by kernel_rfl, ?_⟩
      conv => whnf
      have x1 : -1 ≤ x ∧ x ≤ 30000 := by omega
      refine ⟨⟨hT.attrs, by decide, by decide, by decide, ?_, ?_⟩, ?_⟩
      · rw [← hx] at x1; exact x1.1
      · rw [← hx] at x1; exact x1.2
      conv => whnf
      rintro z ⟨z1, z2⟩
      have z2 : 0 ≤ z → z ≤ tk (tk (tk r (e.unk.size : Nat)) (w64 (8 * roomN e.cs.length))) (w64 (8 * roomN e.bs.length)) ∧ Small e.attrs := z2
      rw [hx] at z2
      conv => whnf
      refine ⟨⟨hT.ex, z1, ?_⟩, ?_⟩
      · by_cases h0 : 0 ≤ z
        · have := z2 h0; omega
        · omega
      conv => whnf
      rintro v ⟨v1, v2⟩
      have v2 : 0 ≤ v → v ≤ z ∧ Small e.ex := v2
      conv => whnf
      refine hk v ⟨v1, fun h0 => ?_⟩
      obtain ⟨a1, a2⟩ := v2 h0
      obtain ⟨b1, b2⟩ := z2 (by omega)
      have q3 := t3.2.2 (by omega)
      have q2 := t2.2.2 (by omega)
      have q1 := t1.2.2 (by omega)
      exact ⟨by omega, b2, a2, mC.2.2.1 (by omega), mB.2.2.1 (by omega)⟩
    · exact hk.elim
  · exact hk.elim
def DpH (k : Nat) (e : HistD) : Prop := Dp k e.attrs ∧ Dp k e.ex
theorem HistD.Small.dpH {e : HistD} (h : e.Small) : ∃ k, DpH k e := by
  obtain ⟨k, hk⟩ := h.attrs.dp
  obtain ⟨m, hm⟩ := h.ex.dp
  exact ⟨k + m, hk.mono (by omega), hm.mono (by omega)⟩
end Sx
/-! Contracts: histograms: alike in their bounds, twins. -/
namespace Sx
open Go Go.Proofs
set_option linter.unusedVariables false
set_option maxRecDepth 30000
variable {G : Glob}
theorem equal_ok : Ok G 146 numsS := by
  refine okP noneS Tryz.func146 rfl (by decide) fun K us hk => ?_
  unfold numsS at hk
  split at hk
  · rename_i a b
    refine ⟨by show 2 ≤ _; decide, ?_⟩
    obtain ⟨⟨ha, hb⟩, hk⟩ := hk
    conv => whnf
    refine Ask.i (fun c1 => ?_) (fun c1 => ?_)
    · have c1 : ((a.length : Int) != (b.length : Int)) = true := c1
      conv => whnf
      refine fin hk ?_
      have : decide (a = b) = false := by
        refine decide_eq_false fun e => ?_
        subst e
        simp at c1
      rw [this]
      try rfl
    · have c1 : ((a.length : Int) != (b.length : Int)) = false := c1
      have hab : a.length = b.length := by simp at c1; omega
      conv => whnf
      refine ⟨[], _, _, rfl, Nat, (fun i => ([(0, .u (.c (.d 38 (.ints a)))), (1, .u (.c (.d 38 (.ints b)))), (12, .u (.c (I64 (a.length : Nat)))), (13, .u (.c (I64 (i : Nat))))], [])),
        (fun i => i ≤ a.length ∧ a.take i = b.take i), (fun i => a.length - i), fun x _ => rfl, ⟨0, ⟨Nat.zero_le _, rfl⟩, ⟨rfl, rfl, rfl, rfl, trivial⟩, trivial⟩, ?_⟩
      rintro i ⟨p1, p2⟩
      conv => whnf
      refine Ask.i (fun c2 => ?_) (fun c2 => ?_)
      · have c2 : (i : Int) < (a.length : Int) := of_decide_eq_true c2
        have hi : i < a.length := by omega
        have hj : i < b.length := by omega
        conv => whnf
        refine ⟨mixed, [], [], [], by kernel_rfl, ?_⟩
        conv => whnf
        refine ⟨⟨by omega, c2⟩, ?_⟩
        conv => whnf
        refine ⟨⟨by omega, by show (i : Int) < (b.length : Int); omega⟩, ?_⟩
        conv => whnf
        have e1 : a.getD i 0 = a[i] := by rw [List.getD_eq_getElem?_getD, List.getElem?_eq_getElem hi]; rfl
        have e2 : b.getD i 0 = b[i] := by rw [List.getD_eq_getElem?_getD, List.getElem?_eq_getElem hj]; rfl
        refine Ask.i (fun c3 => ?_) (fun c3 => ?_)
        · have c3 : (a.getD i 0 != b.getD i 0) = true := c3
          conv => whnf
          refine fin hk ?_
          have : decide (a = b) = false := by
            refine decide_eq_false fun e => ?_
            subst e
            simp at c3
          rw [this]
          try rfl
        · have c3 : (a.getD i 0 != b.getD i 0) = false := c3
          conv => whnf
          refine ⟨i + 1, ⟨hi, ?_⟩, ?_, ⟨rfl, rfl, rfl, ?_, trivial⟩, trivial⟩
          · rw [e1, e2] at c3
            simp only [bne_eq_false_iff_eq] at c3
            rw [List.take_succ_eq_append_getElem hi, List.take_succ_eq_append_getElem hj, p2, c3]
          · show a.length - (i + 1) < a.length - i; omega
          · exact congrArg (fun z : Int => some (SV.u (.c (I64 z)))) (w64_eq (n := (i : Int) + 1) (by omega))
      · have c2 : ¬ (i : Int) < (a.length : Int) := of_decide_eq_false c2
        have hi : i = a.length := by omega
        have : a = b := by
          subst hi
          rw [List.take_length, hab, List.take_length] at p2
          exact p2
        subst this
        simp only [decide_true] at hk
        conv => whnf
        exact hk
  · exact hk.elim
def unlikeB (a b : HistD) : Bool := ((a.cs.length : Nat) : Int) != ((b.cs.length : Nat) : Int) || !(decide (a.bs = b.bs))
def unlikeS : List U → Out SV
  | [.a la, .a lb] => match asHist la, asHist lb with
    | some a, some b => .need (a.bs.length ≤ 68719476736 ∧ b.bs.length ≤ 68719476736) (one (Bo (unlikeB a b)))
    | _, _ => .fail
  | _ => .fail
theorem unlike_ok : Ok G 107 unlikeS := by
  have hS : AllSound (B [(146, .pure (normG (B []) [38, 38] numsS))]) G := .cons _ equal_ok noneS
  refine okP hS Tryz.func107 rfl (by decide) fun K us hk => ?_
  unfold unlikeS at hk
  split at hk
  · split at hk
    · rename_i la lb _ _ a b ha hb
      rw [asHist_eq ha, asHist_eq hb]
      refine ⟨by show 2 ≤ _; decide, ?_⟩
      obtain ⟨⟨h1, h2⟩, hk⟩ := hk
      conv => whnf
      refine Ask.i (fun c1 => ?_) (fun c1 => ?_)
      · have c1 : (((a.cs.length : Nat) : Int) != ((b.cs.length : Nat) : Int)) = true := c1
        conv => whnf
        exact fin hk (congrArg (fun z : Bool => SV.u (.c (Bo z))) (by unfold unlikeB; rw [c1]; rfl))
      · have c1 : (((a.cs.length : Nat) : Int) != ((b.cs.length : Nat) : Int)) = false := c1
        conv => whnf
        refine ⟨⟨h1, h2⟩, ?_⟩
        conv => whnf
        exact fin hk (congrArg (fun z : Bool => SV.u (.c (Bo z))) (by unfold unlikeB; rw [c1]; rfl))
    · exact hk.elim
  · exact hk.elim
def HGood (k : Nat) (e : HistD) : Prop := Typ TB (.sl 30) e.attrs ∧ Dp k e.attrs ∧ Typ TB (.sl 32) e.ex ∧ Dp k e.ex ∧ e.cs.length ≤ 3750 ∧ e.bs.length ≤ 3750
def twHS (k : Nat) : List U → Out SV
  | [.a l] => match asHist l with
    | some e => .need (HGood k e) (agg e.cells)
    | none => .fail
  | _ => .fail
theorem twHist_ok {k : Nat} : Ok G 63 (twHS k) := by
  have hS : AllSound (B [(97, .pure (normG (B []) [30] (keysS k))), (98, .pure (normG (B []) [32, 176] (eachXS k))), (100, .pure (normG (B []) [38] cloneS))]) G := .cons _ (keys_all k) (.cons _ (eachX_ok k fun m _ => ex_ok) (.cons _ clone_ok noneS))
  refine okP hS Tryz.func63 rfl (by decide) fun K us hk => ?_
  unfold twHS at hk
  split at hk
  · rename_i l
    split at hk
    · rename_i e he
      rw [asHist_eq he]
      refine ⟨by show 1 ≤ _; decide, ?_⟩
      obtain ⟨⟨h1, h2, h3, h4, h5, h6⟩, hk⟩ := hk
      conv => whnf
      refine ⟨mixed, [(7, [1]), (9, [1])], [(1, []), (2, []), (4, []), (5, [])], [], by kernel_rfl, ?_⟩
      conv => whnf
      refine ⟨⟨h1, h2⟩, ?_⟩
      conv => whnf
      refine ⟨⟨h3, h4⟩, ?_⟩
      conv => whnf
      refine ⟨mixed, [(7, [1]), (9, [1])], [(1, []), (2, []), (4, []), (5, [])], [], by kernel_rfl, ?_⟩
      conv => whnf
      refine ⟨by show e.cs.length ≤ 68719476736; omega, ?_⟩
      conv => whnf
      refine ⟨by show e.bs.length ≤ 68719476736; omega, ?_⟩
      conv => whnf
      exact hk
    · exact hk.elim
  · exact hk.elim
/-- rows that are alike `c` come as rows of one's own, others as data -/
def cloneC (c : List Int) : List U → List Blk → Out RF
  | [.c (.d 38 (.ints l))], [] => .need (l.length ≤ 68719476736) (wp1 (decide (l = c)) fun b => bif b then .ret (.u (.c (.r 60000 38)), [], [.row 38 (.ints l)]) else .ret (.u (.c (.d 38 (.ints l))), [], []))
  | _, _ => .fail
theorem OkF.byCases {f : FuncId} {g g1 g2 : List U → List Blk → Out (SV × List (Option Blk) × List Blk)} (h1 : OkF G f g1) (h2 : OkF G f g2) (hm : ∀ us ls, (∀ K, (g us ls).wp K → (g1 us ls).wp K) ∨ (∀ K, (g us ls).wp K → (g2 us ls).wp K)) : OkF G f g := by
  refine ⟨h1.1, fun K us lent β X w vals hl hk => ?_⟩
  rcases hm us lent with h | h
  · exact h1.2 K us lent β X w vals hl (h K hk)
  · exact h2.2 K us lent β X w vals hl (h K hk)
def cloneO : List U → List Blk → Out RF
  | [.c (.d 38 (.ints (a :: r)))], [] => .need ((a :: r).length ≤ 68719476736) (.ret (.u (.c (.r 60000 38)), [], [.row 38 (.ints (a :: r))]))
  | _, _ => .fail
def cloneD : List U → List Blk → Out RF
  | [.c (.d 38 (.ints l))], [] => .need (l.length ≤ 68719476736) (.ret (.u (.c (.d 38 (.ints l))), [], []))
  | _, _ => .fail
theorem cloneO_ok : OkF G 100 cloneO := by
  refine okF true noneS Tryz.func100 rfl (by decide) fun K us lent hk => ?_
  unfold cloneO at hk
  split at hk
  · rename_i a r
    refine ⟨by show 1 ≤ _; decide, ?_⟩
    obtain ⟨hl, hk⟩ := hk
    conv => whnf
    intro b hb
    cases b
    · conv => whnf
      refine ⟨by show (a :: r).length ≤ 274877906944; omega, ?_⟩
      conv => whnf
      exact hk
    · cases hb rfl
  · exact hk.elim
theorem cloneD_ok : OkF G 100 cloneD := by
  refine okF false noneS Tryz.func100 rfl (by decide) fun K us lent hk => ?_
  unfold cloneD at hk
  split at hk
  · rename_i l
    refine ⟨by show 1 ≤ _; decide, ?_⟩
    obtain ⟨hl, hk⟩ := hk
    conv => whnf
    intro b hb
    cases b
    · conv => whnf
      refine ⟨by show l.length ≤ 274877906944; omega, ?_⟩
      conv => whnf
      exact hk
    · have : l = [] := List.length_eq_zero_iff.1 (hb rfl)
      subst this
      conv => whnf
      exact hk
  · exact hk.elim
theorem cloneC_ok (a : Int) (r : List Int) : OkF G 100 (cloneC (a :: r)) := OkF.byCases cloneO_ok cloneD_ok fun us ls => by
  unfold cloneC
  split
  · rename_i l
    by_cases h : l = a :: r
    · refine .inl fun K hk => ?_
      subst h
      exact ⟨hk.1, hk.2 true (decide_eq_true rfl)⟩
    · refine .inr fun K hk => ?_
      exact ⟨hk.1, hk.2 false (decide_eq_false h)⟩
  · exact .inl fun K hk => hk.elim
end Sx
/-! Contracts: a histogram's twin with counts of one's own. -/
namespace Sx
open Go Go.Proofs
set_option linter.unusedVariables false
set_option maxRecDepth 30000
variable {G : Glob}
def HistD.cellsW (e : HistD) (c b : C) : List C := [.d 30 e.attrs, U64 e.start, U64 e.time, U64 e.count, Bo e.sumH, U64 e.sum, Bo e.minH, U64 e.min, Bo e.maxH, U64 e.max, c, b, .d 32 e.ex, U32 e.flags, St e.unk]
def twHC (k : Nat) (a : Int) (r : List Int) : List U → List Blk → Out RF
  | [.a l], [] => match asHist l with
    | some e => .need (HGood k e ∧ e.cs = a :: r) (wp1 (decide (e.bs = a :: r)) fun b => bif b then .ret (.u (.a (e.cellsW (.r 60000 38) (.r 60001 38))), [], [.row 38 (.ints e.cs), .row 38 (.ints e.bs)])
      else .ret (.u (.a (e.cellsW (.r 60000 38) (.d 38 (.ints e.bs)))), [], [.row 38 (.ints e.cs)]))
    | none => .fail
  | _, _ => .fail
theorem twHC_ok {k : Nat} {a : Int} {r : List Int} : OkF G 63 (twHC k a r) := by
  have hS : AllSound (B [(97, .pure (normG (B []) [30] (keysS k))), (98, .pure (normG (B []) [32, 176] (eachXS k))), (100, .full (normF (B []) [38] (cloneC (a :: r))))]) G := .cons _ (keys_all k) (.cons _ (eachX_ok k fun m _ => ex_ok) (.consF _ (cloneC_ok a r) noneS))
  refine okF true hS Tryz.func63 rfl (by decide) fun K us lent hk => ?_
  unfold twHC at hk
  split at hk
  · rename_i l
    split at hk
    · rename_i e he
      rw [asHist_eq he]
      refine ⟨by show 1 ≤ _; decide, ?_⟩
      obtain ⟨⟨⟨h1, h2, h3, h4, h5, h6⟩, hc⟩, hk⟩ := hk
      conv => whnf
      refine ⟨mixed, [(7, [1]), (9, [1])], [(1, []), (2, []), (4, []), (5, [])], [], by kernel_rfl, ?_⟩
      conv => whnf
      refine ⟨⟨h1, h2⟩, ?_⟩
      conv => whnf
      refine ⟨⟨h3, h4⟩, ?_⟩
      conv => whnf
      refine ⟨mixed, [(7, [1]), (9, [1])], [(1, []), (2, []), (4, []), (5, [])], [], by kernel_rfl, ?_⟩
      conv => whnf
      refine ⟨by show e.cs.length ≤ 68719476736; omega, ?_⟩
      conv => whnf
      intro b hb
      have hb : decide (e.cs = a :: r) = b := hb
      rw [decide_eq_true hc] at hb
      subst hb
      conv => whnf
      refine ⟨by show e.bs.length ≤ 68719476736; omega, ?_⟩
      conv => whnf
      intro b hb
      have hb : decide (e.bs = a :: r) = b := hb
      have hk := hk b hb
      cases b with
      | true =>
        have hb : e.bs = a :: r := of_decide_eq_true hb
        conv => whnf
        exact hk
      | false =>
        conv => whnf
        exact hk
    · exact hk.elim
  · exact hk.elim
end Sx
/-! Contracts: two histograms added. -/
namespace Sx
open Go Go.Proofs
set_option linter.unusedVariables false
set_option maxRecDepth 30000
variable {G : Glob}
def noH : HistD := ⟨.rows [], 0, 0, 0, false, 0, false, 0, false, 0, [], [], .rows [], 0, nos⟩
def hZip (a b : List Int) : List Int := List.zipWith (fun x y => x64 (x + y)) a b
def hBadL : List Int → List Int → Bool → Bool
  | x :: l, y :: m, bad => hBadL l m (bad || decide (x64 (x + y) < x))
  | _, _, bad => bad
def hBad (a b : HistD) : Bool := hBadL a.cs b.cs (false || decide (x64 (a.count + b.count) < a.count))
def histE (a b : HistD) (z : Int) : HistD := { b with start := a.start, count := x64 (a.count + b.count), cs := hZip a.cs b.cs, sumH := a.sumH && b.sumH, sum := z, minH := a.minH && b.minH, min := bif a.minH && b.minH then minV a.min b.min else 0, maxH := a.maxH && b.maxH, max := bif a.maxH && b.maxH then maxV a.max b.max else 0 }
def mhCore (a b : HistD) : Out SV := wp1 (unlikeB a b) fun c => bif c then .ret (.t [.a noH.cells, .c (errV 13)]) else .all Int (fun _ => True) ⟨0, trivial⟩ fun z => wp1 (hBad a b) fun c => bif c then .ret (.t [.a noH.cells, .c (errV 9)]) else .ret (.t [.a (histE a b z).cells, .c nilV])
def mhistS (k : Nat) (P : HistD → Prop) : List U → Out SV
  | [.a la, .a lb] => match asHist la, asHist lb with
    | some a, some b => .need (HGood k b ∧ a.cs.length ≤ 3750 ∧ a.bs.length ≤ 3750 ∧ P b) (mhCore a b)
    | _, _ => .fail
  | _ => .fail
theorem unlike_len {a b : HistD} (h : unlikeB a b = false) : a.cs.length = b.cs.length ∧ a.bs = b.bs := by
  unfold unlikeB at h
  simp only [Bool.or_eq_false_iff, bne_eq_false_iff_eq, Bool.not_eq_false', decide_eq_true_eq] at h
  exact ⟨by omega, h.2⟩
theorem hBadL_nil (l : List Int) (bad : Bool) : hBadL l [] bad = bad := by cases l <;> rfl
theorem hZip_len (a b : List Int) (h : a.length = b.length) : (hZip a b).length = b.length := by unfold hZip; rw [List.length_zipWith]; omega
theorem hZip_set : ∀ (a b c : List Int) (i : Nat), i < a.length → i < b.length → c = hZip (a.take i) (b.take i) ++ b.drop i → c.set i (x64 (a.getD i 0 + b.getD i 0)) = hZip (a.take (i + 1)) (b.take (i + 1)) ++ b.drop (i + 1)
  | [], _, _, _, h, _, _ => by simp at h
  | _ :: _, [], _, _, _, h, _ => by simp at h
  | x :: a, y :: b, c, 0, _, _, h => by
    rw [h]; simp [hZip]
  | x :: a, y :: b, c, i + 1, h1, h2, h => by
    rw [h]
    have := hZip_set a b _ i (by simpa using h1) (by simpa using h2) rfl
    simp only [hZip, List.take_succ_cons, List.zipWith_cons_cons, List.drop_succ_cons, List.cons_append, List.set_cons_succ, List.getD_cons_succ, List.cons.injEq, true_and] at *
    exact this
theorem mhistA_ok {k : Nat} : Ok G 67 (mhistS k fun b => b.cs = []) := by
  have hS : AllSound (B [(107, .pure (normG (B []) [40, 40] unlikeS)), (63, .pure (normG (B []) [40] (twHS k))), (108, .full (normF (B []) [228, 31, 31] plusS)), (109, .pure (normG (B []) [37, 37, 118] bothS)), (112, .full (normF (B []) [228] errS))]) G :=
    .cons _ unlike_ok (.cons _ twHist_ok (.consF _ plus_ok (.cons _ both_ok (.consF _ err_ok noneS))))
  refine okP hS Tryz.func67 rfl (by decide) fun K us hk => ?_
  unfold mhistS at hk
  split at hk
  · split at hk
    · rename_i la lb _ _ a b ha hb
      rw [asHist_eq ha, asHist_eq hb]
      refine ⟨by show 2 ≤ _; decide, ?_⟩
      obtain ⟨⟨hB, h1, h2, hn⟩, hk⟩ := hk
      have hk := hk _ rfl
      have hB6 := hB.2.2.2.2.2
      have hB5 := hB.2.2.2.2.1
      conv => whnf
      refine ⟨⟨by show a.bs.length ≤ 68719476736; omega, by show b.bs.length ≤ 68719476736; omega⟩, ?_⟩
      conv => whnf
      refine Ask.i (fun c1 => ?_) (fun c1 => ?_)
      · have c1 : unlikeB a b = true := c1
        rw [c1] at hk
        conv => whnf
        exact hk
      have c1 : unlikeB a b = false := c1
      obtain ⟨e1, e2⟩ := unlike_len c1
      rw [c1] at hk
      conv => whnf
      refine ⟨hB, ?_⟩
      conv => whnf
      have hna : a.cs = [] := List.length_eq_zero_iff.1 (by rw [e1, hn]; rfl)
      have hbad : hBad a b = (false || decide (x64 (a.count + b.count) < a.count)) := by unfold hBad; rw [hna, hBadL]; exact fun _ _ _ _ h => by cases h
      refine ⟨[], _, _, rfl, Unit, (fun _ => ([(2, .u (.c (.p 2 0))), (3, .u (.c (.p 3 0))), (4, .u (.c (.p 4 0))), (5, .u (.c nilV)), (6, .u (.c (.p 6 0))), (7, .u (.c (.p 7 0))), (29, .u (.c (I64 (a.cs.length : Nat)))), (30, .u (.c (I64 0)))],
          [(2, .cells 40 a.cells), (3, .cells 40 b.cells), (4, .cells 40 [.v (.slice none 0 0), U64 0, U64 0, U64 0, Bo false, U64 0, Bo false, U64 0, Bo false, U64 0, .v (.slice none 0 0), .v (.slice none 0 0), .v (.slice none 0 0), U32 0, St nos]), (6, .cells 181 [Bo (false || decide (x64 (a.count + b.count) < a.count))]), (7, .cells 40 ({ b with start := a.start, count := x64 (a.count + b.count) } : HistD).cells)])),
        (fun _ => True), (fun _ => 0), fun x _ => rfl, ⟨(), trivial, ⟨rfl, rfl, rfl, rfl, rfl, rfl, rfl, rfl, trivial⟩, ⟨rfl, rfl, rfl, rfl, rfl, trivial⟩⟩, ?_⟩
      rintro _ _
      conv => whnf
      refine Ask.i (fun c2 => ?_) (fun c2 => ?_)
      · have c2 : (0 : Int) < ((a.cs.length : Nat) : Int) := of_decide_eq_true c2
        rw [hna] at c2; cases c2
      · skip
        conv => whnf
        refine ⟨mixed, [(16, [7]), (18, [7]), (20, [7])], [], [], by kernel_rfl, ?_⟩
        conv => whnf
        intro z hz
        have hk := hk z trivial _ rfl
        conv => whnf
        intro c hc
        have hc : (false || decide (x64 (a.count + b.count) < a.count)) = c := hc
        rw [hbad, hc] at hk
        cases c with
        | true =>
          conv => whnf
          exact hk
        | false =>
          conv => whnf
          refine fin hk (congrArg (fun l => SV.t [.a ({ histE a b z with cs := l }).cells, .c nilV]) (?_ : hZip a.cs b.cs = b.cs))
          rw [hna, hn]; rfl
    · exact hk.elim
  · exact hk.elim
set_option maxHeartbeats 2000000 in
theorem mhistB_ok {k : Nat} {x : Int} {r : List Int} : Ok G 67 (mhistS k fun b => b.cs = x :: r) := by
  have hS : AllSound (B [(107, .pure (normG (B []) [40, 40] unlikeS)), (63, .full (normF (B []) [40] (twHC k x r))), (108, .full (normF (B []) [228, 31, 31] plusS)), (109, .pure (normG (B []) [37, 37, 118] bothS)), (112, .full (normF (B []) [228] errS))]) G :=
    .cons _ unlike_ok (.consF _ twHC_ok (.consF _ plus_ok (.cons _ both_ok (.consF _ err_ok noneS))))
  refine okP hS Tryz.func67 rfl (by decide) fun K us hk => ?_
  unfold mhistS at hk
  split at hk
  · split at hk
    · rename_i la lb _ _ a b ha hb
      rw [asHist_eq ha, asHist_eq hb]
      refine ⟨by show 2 ≤ _; decide, ?_⟩
      obtain ⟨⟨hB, h1, h2, hn⟩, hk⟩ := hk
      have hk := hk _ rfl
      have hB6 := hB.2.2.2.2.2
      have hB5 := hB.2.2.2.2.1
      conv => whnf
      refine ⟨⟨by show a.bs.length ≤ 68719476736; omega, by show b.bs.length ≤ 68719476736; omega⟩, ?_⟩
      conv => whnf
      refine Ask.i (fun c1 => ?_) (fun c1 => ?_)
      · have c1 : unlikeB a b = true := c1
        rw [c1] at hk
        conv => whnf
        exact hk
      have c1 : unlikeB a b = false := c1
      obtain ⟨e1, e2⟩ := unlike_len c1
      rw [c1] at hk
      conv => whnf
      refine ⟨⟨hB, hn⟩, ?_⟩
      conv => whnf
      intro w hw
      have hw : decide (b.bs = x :: r) = w := hw
      cases w with
      | true =>
        conv => whnf
        refine ⟨[], _, _, rfl, Nat × List Int × Bool, (fun y => ([(2, .u (.c (.p 2 0))), (3, .u (.c (.p 3 0))), (4, .u (.c (.p 4 0))), (5, .u (.c nilV)), (6, .u (.c (.p 6 0))), (7, .u (.c (.p 7 0))), (28, .u (.c (.d 38 (.ints a.cs)))), (29, .u (.c (I64 (a.cs.length : Nat)))), (30, .u (.c (I64 (y.1 : Nat))))],
            [(2, .cells 40 a.cells), (3, .cells 40 b.cells), (4, .cells 40 [.v (.slice none 0 0), U64 0, U64 0, U64 0, Bo false, U64 0, Bo false, U64 0, Bo false, U64 0, .v (.slice none 0 0), .v (.slice none 0 0), .v (.slice none 0 0), U32 0, St nos]), (6, .cells 181 [Bo y.2.2]), (7, .cells 40 (({ b with start := a.start, count := x64 (a.count + b.count) } : HistD).cellsW (.r 100017 38) (.r 200017 38))), (100017, .row 38 (.ints y.2.1)), (200017, .row 38 (.ints b.bs))])),
          (fun y => y.1 ≤ a.cs.length ∧ y.2.1.length = a.cs.length ∧ y.2.1 = hZip (a.cs.take y.1) (b.cs.take y.1) ++ b.cs.drop y.1 ∧ hBadL (a.cs.drop y.1) (b.cs.drop y.1) y.2.2 = hBad a b), (fun y => a.cs.length - y.1), fun x _ => rfl,
          ⟨(0, b.cs, _), ⟨Nat.zero_le _, e1.symm, by simp [hZip], rfl⟩, ⟨rfl, rfl, rfl, rfl, rfl, rfl, rfl, rfl, rfl, trivial⟩, ⟨rfl, rfl, rfl, rfl, rfl, rfl, rfl, trivial⟩⟩, ?_⟩
        rintro ⟨i, c, bd⟩ ⟨p1, p2, p3, p4⟩
        simp only at p1 p2 p3 p4
        conv => whnf
        refine Ask.i (fun c2 => ?_) (fun c2 => ?_)
        · have c2 : (i : Int) < ((a.cs.length : Nat) : Int) := of_decide_eq_true c2
          have hi : i < a.cs.length := by omega
          have hj : i < b.cs.length := by omega
          have ga : a.cs.getD i 0 = a.cs[i] := by rw [List.getD_eq_getElem?_getD, List.getElem?_eq_getElem hi]; rfl
          have gb : b.cs.getD i 0 = b.cs[i] := by rw [List.getD_eq_getElem?_getD, List.getElem?_eq_getElem hj]; rfl
          conv => whnf
          refine ⟨⟨by omega, c2⟩, ?_⟩
          conv => whnf
          refine ⟨mixed, [(9, [6]), (11, [100017])], [(1, [6]), (5, []), (7, []), (8, []), (10, [6])], [], by kernel_rfl, ?_⟩
          conv => whnf
          refine ⟨⟨by omega, by show (i : Int) < ((b.cs.length : Nat) : Int); omega⟩, ?_⟩
          conv => whnf
          refine ⟨⟨by omega, by show (i : Int) < ((c.length : Nat) : Int); omega⟩, ?_⟩
          conv => whnf
          rw [List.drop_eq_getElem_cons hi, List.drop_eq_getElem_cons hj, hBadL, ← ga, ← gb] at p4
          refine ⟨(i + 1, c.set i (x64 (a.cs.getD i 0 + b.cs.getD i 0)), bd || decide (x64 (a.cs.getD i 0 + b.cs.getD i 0) < a.cs.getD i 0)), ⟨hi, by simp only [List.length_set]; exact p2, ?_, p4⟩, by show a.cs.length - (i + 1) < a.cs.length - i; omega, ⟨rfl, rfl, rfl, rfl, rfl, rfl, rfl, rfl, ?_, trivial⟩, ⟨rfl, rfl, rfl, rfl, rfl, rfl, rfl, trivial⟩⟩
          · exact hZip_set a.cs b.cs c i hi hj p3
          · exact congrArg (fun z : Int => some (SV.u (.c (I64 z)))) (w64_eq (n := (i : Int) + 1) (by omega))
        · have c2 : ¬ (i : Int) < ((a.cs.length : Nat) : Int) := of_decide_eq_false c2
          have hi : i = a.cs.length := by omega
          rw [hi, List.drop_length, show b.cs.drop a.cs.length = [] by rw [e1, List.drop_length]] at p4
          rw [hi, List.take_length, show b.cs.take a.cs.length = b.cs by rw [e1, List.take_length], show b.cs.drop a.cs.length = [] by rw [e1, List.drop_length], List.append_nil] at p3
          have p4 : bd = hBad a b := p4
          conv => whnf
          refine ⟨mixed, [(16, [7]), (18, [7]), (20, [7])], [], [], by kernel_rfl, ?_⟩
          conv => whnf
          intro z hz
          have hk := hk z trivial _ rfl
          conv => whnf
          intro cc hc
          have hc : bd = cc := hc
          rw [← p4, hc] at hk
          cases cc with
          | true =>
            conv => whnf
            exact hk
          | false =>
            conv => whnf
            exact fin hk (congrArg (fun l => SV.t [.a ({ histE a b z with cs := l }).cells, .c nilV]) p3.symm)
      | false =>
        conv => whnf
        refine ⟨[], _, _, rfl, Nat × List Int × Bool, (fun y => ([(2, .u (.c (.p 2 0))), (3, .u (.c (.p 3 0))), (4, .u (.c (.p 4 0))), (5, .u (.c nilV)), (6, .u (.c (.p 6 0))), (7, .u (.c (.p 7 0))), (28, .u (.c (.d 38 (.ints a.cs)))), (29, .u (.c (I64 (a.cs.length : Nat)))), (30, .u (.c (I64 (y.1 : Nat))))],
            [(2, .cells 40 a.cells), (3, .cells 40 b.cells), (4, .cells 40 [.v (.slice none 0 0), U64 0, U64 0, U64 0, Bo false, U64 0, Bo false, U64 0, Bo false, U64 0, .v (.slice none 0 0), .v (.slice none 0 0), .v (.slice none 0 0), U32 0, St nos]), (6, .cells 181 [Bo y.2.2]), (7, .cells 40 (({ b with start := a.start, count := x64 (a.count + b.count) } : HistD).cellsW (.r 100017 38) (.d 38 (.ints b.bs)))), (100017, .row 38 (.ints y.2.1))])),
          (fun y => y.1 ≤ a.cs.length ∧ y.2.1.length = a.cs.length ∧ y.2.1 = hZip (a.cs.take y.1) (b.cs.take y.1) ++ b.cs.drop y.1 ∧ hBadL (a.cs.drop y.1) (b.cs.drop y.1) y.2.2 = hBad a b), (fun y => a.cs.length - y.1), fun x _ => rfl,
          ⟨(0, b.cs, _), ⟨Nat.zero_le _, e1.symm, by simp [hZip], rfl⟩, ⟨rfl, rfl, rfl, rfl, rfl, rfl, rfl, rfl, rfl, trivial⟩, ⟨rfl, rfl, rfl, rfl, rfl, rfl, trivial⟩⟩, ?_⟩
        rintro ⟨i, c, bd⟩ ⟨p1, p2, p3, p4⟩
        simp only at p1 p2 p3 p4
        conv => whnf
        refine Ask.i (fun c2 => ?_) (fun c2 => ?_)
        · have c2 : (i : Int) < ((a.cs.length : Nat) : Int) := of_decide_eq_true c2
          have hi : i < a.cs.length := by omega
          have hj : i < b.cs.length := by omega
          have ga : a.cs.getD i 0 = a.cs[i] := by rw [List.getD_eq_getElem?_getD, List.getElem?_eq_getElem hi]; rfl
          have gb : b.cs.getD i 0 = b.cs[i] := by rw [List.getD_eq_getElem?_getD, List.getElem?_eq_getElem hj]; rfl
          conv => whnf
          refine ⟨⟨by omega, c2⟩, ?_⟩
          conv => whnf
          refine ⟨mixed, [(9, [6]), (11, [100017])], [(1, [6]), (5, []), (7, []), (8, []), (10, [6])], [], by kernel_rfl, ?_⟩
          conv => whnf
          refine ⟨⟨by omega, by show (i : Int) < ((b.cs.length : Nat) : Int); omega⟩, ?_⟩
          conv => whnf
          refine ⟨⟨by omega, by show (i : Int) < ((c.length : Nat) : Int); omega⟩, ?_⟩
          conv => whnf
          rw [List.drop_eq_getElem_cons hi, List.drop_eq_getElem_cons hj, hBadL, ← ga, ← gb] at p4
          refine ⟨(i + 1, c.set i (x64 (a.cs.getD i 0 + b.cs.getD i 0)), bd || decide (x64 (a.cs.getD i 0 + b.cs.getD i 0) < a.cs.getD i 0)), ⟨hi, by simp only [List.length_set]; exact p2, ?_, p4⟩, by show a.cs.length - (i + 1) < a.cs.length - i; omega, ⟨rfl, rfl, rfl, rfl, rfl, rfl, rfl, rfl, ?_, trivial⟩, ⟨rfl, rfl, rfl, rfl, rfl, rfl, trivial⟩⟩
          · exact hZip_set a.cs b.cs c i hi hj p3
          · exact congrArg (fun z : Int => some (SV.u (.c (I64 z)))) (w64_eq (n := (i : Int) + 1) (by omega))
        · have c2 : ¬ (i : Int) < ((a.cs.length : Nat) : Int) := of_decide_eq_false c2
          have hi : i = a.cs.length := by omega
          rw [hi, List.drop_length, show b.cs.drop a.cs.length = [] by rw [e1, List.drop_length]] at p4
          rw [hi, List.take_length, show b.cs.take a.cs.length = b.cs by rw [e1, List.take_length], show b.cs.drop a.cs.length = [] by rw [e1, List.drop_length], List.append_nil] at p3
          have p4 : bd = hBad a b := p4
          conv => whnf
          refine ⟨mixed, [(16, [7]), (18, [7]), (20, [7])], [], [], by kernel_rfl, ?_⟩
          conv => whnf
          intro z hz
          have hk := hk z trivial _ rfl
          conv => whnf
          intro cc hc
          have hc : bd = cc := hc
          rw [← p4, hc] at hk
          cases cc with
          | true =>
            conv => whnf
            exact hk
          | false =>
            conv => whnf
            exact fin hk (congrArg (fun l => SV.t [.a ({ histE a b z with cs := l }).cells, .c nilV]) p3.symm)
    · exact hk.elim
  · exact hk.elim
theorem Ok.byCases {f : FuncId} {g : List U → Out SV} {ι : Type} {gi : ι → List U → Out SV} (i0 : ι) (h : ∀ i, Ok G f (gi i)) (hm : ∀ us, ∃ i, ∀ K, (g us).wp K → (gi i us).wp K) : Ok G f g := by
  refine ⟨(h i0).1, fun K us X w vals hk => ?_⟩
  obtain ⟨i, hi⟩ := hm us
  exact (h i).2 K us X w vals (hi K hk)
theorem mhist_ok {k : Nat} : Ok G 67 (mhistS k fun _ => True) := by
  refine Ok.byCases (ι := Option (Int × List Int)) (gi := fun o => match o with | none => mhistS k fun b => b.cs = [] | some p => mhistS k fun b => b.cs = p.1 :: p.2) none (fun o => by
    cases o with
    | none => exact mhistA_ok
    | some p => exact mhistB_ok) fun us => ?_
  unfold mhistS
  split
  · split
    · rename_i la lb _ _ a b ha hb
      cases hc : b.cs with
      | nil =>
        refine ⟨none, fun K hk => ?_⟩
        simp only [ha, hb]
        exact ⟨⟨hk.1.1, hk.1.2.1, hk.1.2.2.1, hc⟩, hk.2⟩
      | cons x r =>
        refine ⟨some (x, r), fun K hk => ?_⟩
        simp only [ha, hb]
        exact ⟨⟨hk.1.1, hk.1.2.1, hk.1.2.2.1, hc⟩, hk.2⟩
    · exact ⟨none, fun K hk => hk.elim⟩
  · exact ⟨none, fun K hk => hk.elim⟩
end Sx
