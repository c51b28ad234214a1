/- The law MergeHists answers true at any input. Conditions: the input reads as data of the row's types, and errors.errorType is laid as the program's text lays it. -/
import Derived.Test.YtcmghblegllmlaaGreatDoorDbl2
import Derived.Test.YtcmghblegllmlaaGreatDoorHists
import Derived.Test.YtcmghblegllmlaaGreatDoorCon4
set_option linter.unusedVariables false
set_option linter.unusedSimpArgs false
/-! Contracts: the reference's sum and difference of two histograms. -/
namespace Sx
open Go Go.Proofs
open Go.Proofs.SxPu (addV subV)
set_option linter.unusedVariables false
set_option linter.unusedSimpArgs false
set_option maxRecDepth 30000
variable {G : Glob}
structure UH (e : HistD) : Prop where
  lC : e.cs.length ≤ 1500
  lB : e.bs.length ≤ 1500
  sm : UU e.sum
  mn : UU e.min
  mx : UU e.max
def rhistT : List U → Out SV
  | [.a la, .a lb] => match asHist la, asHist lb with
    | some a, some b => .need (UH a ∧ UH b) (wp1 (unlikeB a b) fun c => bif c then .ret (.t [.a noH.cells, .c (I64 13)]) else wp1 (hBad a b) fun c => bif c then .ret (.t [.a noH.cells, .c (I64 9)]) else .ret (.t [.a (histE a b (zS a b)).cells, .c (I64 0)]))
    | _, _ => .fail
  | _ => .fail
def rlhistT : List U → Out SV
  | [.a la, .a lb] => match asHist la, asHist lb with
    | some a, some b => .need (UH a ∧ UH b) (wp1 (unlikeB a b) fun c => bif c then .ret (.t [.a noH.cells, .c (I64 13)]) else wp1 (lBad a b) fun c => bif c then .ret (.t [.a noH.cells, .c (I64 9)]) else .ret (.t [.a (lhE a b (zD a b)).cells, .c (I64 0)]))
    | _, _ => .fail
  | _ => .fail
theorem hBadL_true : ∀ (l m : List Int), hBadL l m true = true
  | [], _ => by rw [hBadL]; exact fun _ _ _ _ h => by cases h
  | _ :: _, [] => by rw [hBadL]; exact fun _ _ _ _ _ h => by cases h
  | x :: l, y :: m => by rw [hBadL]; simp only [Bool.true_or]; exact hBadL_true l m
theorem hBadL_nils (bad : Bool) : hBadL [] [] bad = bad := by rw [hBadL]; exact fun _ _ _ _ h => by cases h
theorem lBadL_nils (bad : Bool) : lBadL [] [] bad = bad := by rw [lBadL]; exact fun _ _ _ _ h => by cases h
theorem not_ge (a b : Int) : (!(decide (a ≥ b))) = (false || decide (a < b)) := by
  by_cases h : a ≥ b
  · rw [decide_eq_true h, decide_eq_false (by omega)]; rfl
  · rw [decide_eq_false h, decide_eq_true (by omega)]; rfl
theorem not_le (a b : Int) : (!(decide (a ≤ b))) = (false || decide (b < a)) := not_ge b a
theorem take_getD {l : List Int} {i : Nat} (h : i < l.length) : l.take (i + 1) = l.take i ++ [l.getD i 0] := by
  rw [List.take_add_one, List.getElem?_eq_getElem h, List.getD_eq_getElem?_getD, List.getElem?_eq_getElem h]; rfl
theorem drop_getD {l : List Int} {i : Nat} (h : i < l.length) : l.drop i = l.getD i 0 :: l.drop (i + 1) := by
  rw [List.drop_eq_getElem_cons h, List.getD_eq_getElem?_getD, List.getElem?_eq_getElem h]; rfl
theorem hZip_succ {a b : List Int} {i : Nat} (h1 : i < a.length) (h2 : i < b.length) : hZip (a.take (i + 1)) (b.take (i + 1)) = hZip (a.take i) (b.take i) ++ [x64 (a.getD i 0 + b.getD i 0)] := by
  rw [take_getD h1, take_getD h2]; unfold hZip
  rw [List.zipWith_append (by simp; omega)]; rfl
theorem lZip_succ {a b : List Int} {i : Nat} (h1 : i < a.length) (h2 : i < b.length) : lZip (a.take (i + 1)) (b.take (i + 1)) = lZip (a.take i) (b.take i) ++ [x64 (a.getD i 0 - b.getD i 0)] := by
  rw [take_getD h1, take_getD h2]; unfold lZip
  rw [List.zipWith_append (by simp; omega)]; rfl
theorem hZip_take_len {a b : List Int} (i : Nat) (h : a.length ≤ 1500) : (hZip (a.take i) (b.take i)).length ≤ 1500 := by
  unfold hZip; rw [List.length_zipWith]; simp; omega
theorem lZip_take_len {a b : List Int} (i : Nat) (h : a.length ≤ 1500) : (lZip (a.take i) (b.take i)).length ≤ 1500 := by
  unfold lZip; rw [List.length_zipWith]; simp; omega
theorem unlike_1 {a b : HistD} (h : (!(decide (a.bs = b.bs))) = true) : unlikeB a b = true := by unfold unlikeB; rw [h, Bool.or_true]
theorem unlike_2 {a b : HistD} {v : Bool} (h : (!(decide (a.bs = b.bs))) = false) (h2 : (((a.cs.length : Nat) : Int) != ((b.cs.length : Nat) : Int)) = v) : unlikeB a b = v := by unfold unlikeB; rw [h, h2, Bool.or_false]

theorem rhist_ex : Ok G 9 rhistT := by
  have hS : AllSound (B [(14, .pure (normG (B []) [26, 26] numsS)), (34, .pure (normG (B []) [23, 23] rsumT)), (35, .pure (normG (B []) [76, 76] optsT))]) G := .cons _ nums_ok (.cons _ rsum_ex (.cons _ opts_ex noneS))
  refine okP hS Tryz.func9 rfl (by decide) fun K us hk => ?_
  unfold rhistT at hk
  split at hk
  · split at hk
    · rename_i la lb _ _ a b ha hb
      rw [asHist_eq ha, asHist_eq hb]
      refine ⟨by show 2 ≤ _; decide, ?_⟩
      obtain ⟨⟨⟨a1, a2, a3, a4, a5⟩, ⟨b1, b2, b3, b4, b5⟩⟩, hk⟩ := hk
      conv => whnf
      refine ⟨⟨by show a.bs.length ≤ 68719476736; omega, by show b.bs.length ≤ 68719476736; omega⟩, ?_⟩
      conv => whnf
      refine Ask.i (fun c1 => ?_) (fun c1 => ?_)
      · have hk := hk true (unlike_1 c1)
        conv => whnf
        exact hk
      conv => whnf
      refine Ask.i (fun c2 => ?_) (fun c2 => ?_)
      · have hk := hk true (unlike_2 c1 c2)
        conv => whnf
        exact hk
      have hk := hk false (unlike_2 c1 c2)
      obtain ⟨e1, e2⟩ := unlike_len (unlike_2 c1 c2)
      conv => whnf
      refine ⟨[], _, _, rfl, Nat × Bool, (fun y => ([(2, .u (.c (.p 2 0))), (3, .u (.c (.p 3 0))), (4, .u (.c (.p 4 0))), (5, .u (.c (I64 0))), (6, .u (.c (.p 6 0))), (8, .u (.c (Bo y.2))), (9, .u (.c (I64 (y.1 : Nat))))],
        match y.1 with | 0 => [(2, .cells 30 a.cells), (3, .cells 30 b.cells), (4, .cells 30 [.v (.slice none 0 0), U64 0, U64 0, U64 0, Bo false, U64 0, Bo false, U64 0, Bo false, U64 0, .v (.slice none 0 0), .v (.slice none 0 0), .v (.slice none 0 0), U32 0, St nos]), (6, .cells 30 (({ b with start := a.start, count := x64 (a.count + b.count) } : HistD).cellsW (.v (.slice none 0 0)) (.d 26 (.ints b.bs))))] | i + 1 => [(2, .cells 30 a.cells), (3, .cells 30 b.cells), (4, .cells 30 [.v (.slice none 0 0), U64 0, U64 0, U64 0, Bo false, U64 0, Bo false, U64 0, Bo false, U64 0, .v (.slice none 0 0), .v (.slice none 0 0), .v (.slice none 0 0), U32 0, St nos]), (6, .cells 30 (({ b with start := a.start, count := x64 (a.count + b.count) } : HistD).cellsW (.r 72 26) (.d 26 (.ints b.bs)))), (72, .row 26 (.ints (hZip (a.cs.take (i + 1)) (b.cs.take (i + 1)))))])),
        (fun y => y.1 ≤ a.cs.length ∧ hBadL (a.cs.drop y.1) (b.cs.drop y.1) (!y.2) = hBad a b), (fun y => a.cs.length - y.1), fun x _ => (by obtain ⟨i, g⟩ := x; cases i <;> rfl),
        ⟨(0, decide (x64 (a.count + b.count) ≥ a.count)), ⟨Nat.zero_le _, by show hBadL a.cs b.cs (!(decide (x64 (a.count + b.count) ≥ a.count))) = _; rw [not_ge]; rfl⟩, ⟨rfl, rfl, rfl, rfl, rfl, rfl, rfl, trivial⟩, ⟨rfl, rfl, rfl, rfl, trivial⟩⟩, ?_⟩
      rintro ⟨i, g⟩ ⟨p1, p2⟩
      simp only at p1 p2
      have hfa : x64 (a.count + b.count) = x64 (a.count + b.count) := rfl
      cases i with
      | zero =>
        conv => whnf
        refine Ask.i (fun c3 => ?_) (fun c3 => ?_)
        · have k3 : (((0 : Nat)) : Int) < ((a.cs.length : Nat) : Int) := of_decide_eq_true c3
          have hi : 0 < a.cs.length := by omega
          have hj : 0 < b.cs.length := by omega
          rw [drop_getD hi, drop_getD hj, hBadL] at p2
          conv => whnf
          refine Ask.i (fun c4 => ?_) (fun c4 => ?_)
          · have c4 : g = true := c4
            subst c4
            conv => whnf
            refine ⟨mixed, [], [], [], by kernel_rfl, ?_⟩
            conv => whnf
            refine ⟨⟨by omega, k3⟩, ?_⟩
            conv => whnf
            refine ⟨⟨by omega, by show (((0 : Nat)) : Int) < ((b.cs.length : Nat) : Int); omega⟩, ?_⟩
            conv => whnf
            refine ⟨by show 1 ≤ 274877906944; omega, ?_⟩
            conv => whnf
            refine ⟨(0 + 1, decide (x64 (a.cs.getD (0) 0 + b.cs.getD (0) 0) ≥ a.cs.getD (0) 0)), ⟨hi, by rw [← p2, not_ge]; simp⟩, by show a.cs.length - (0 + 1) < a.cs.length - (0); omega, ⟨rfl, rfl, rfl, rfl, rfl, rfl, ?_, trivial⟩, ⟨rfl, rfl, rfl, rfl, ?_, trivial⟩⟩
            · exact congrArg (fun z : Int => some (SV.u (.c (I64 z)))) (w64_eq (n := (((0 : Nat)) : Int) + 1) (by omega))
            · exact congrArg (fun l => some (Blk.row 26 (.ints l))) (hZip_succ hi hj).symm
          · have c4 : g = false := c4
            subst c4
            have hk := hk true (by rw [← p2]; exact hBadL_true _ _)
            conv => whnf
            exact hk
        · have k3 : ¬ (((0 : Nat)) : Int) < ((a.cs.length : Nat) : Int) := of_decide_eq_false c3
          have hi : 0 = a.cs.length := by omega
          rw [hi, List.drop_length, e1, List.drop_length, hBadL_nils] at p2
          conv => whnf
          refine Ask.i (fun c5 => ?_) (fun c5 => ?_)
          · have c5 : (!g) = true := c5
            have hk := hk true (by rw [← p2, c5])
            conv => whnf
            exact hk
          · have c5 : (!g) = false := c5
            have hk := hk false (by rw [← p2, c5])
            conv => whnf
            refine ⟨⟨⟨a3, b3⟩, ⟨a4, b4⟩, a5, b5⟩, ?_⟩
            conv => whnf
            refine ⟨mixed, [(7, [6]), (9, [6]), (11, [6])], [(0, []), (1, []), (2, [6]), (3, [6]), (4, [6]), (5, [6])], [], by kernel_rfl, ?_⟩
            conv => whnf
            first | (refine ⟨by decide, ?_⟩; conv => whnf) | skip
            first | (refine ⟨by decide, ?_⟩; conv => whnf) | skip
            first | (refine ⟨by decide, ?_⟩; conv => whnf) | skip
            have h0 : hZip a.cs b.cs = [] := by rw [List.length_eq_zero_iff.1 hi.symm]; rfl
            exact fin hk (congrArg (fun l => SV.t [.a ({ histE a b (zS a b) with cs := l }).cells, .c (I64 0)]) h0)
      | succ i =>
        conv => whnf
        refine Ask.i (fun c3 => ?_) (fun c3 => ?_)
        · have k3 : (((i + 1 : Nat)) : Int) < ((a.cs.length : Nat) : Int) := of_decide_eq_true c3
          have hi : i + 1 < a.cs.length := by omega
          have hj : i + 1 < b.cs.length := by omega
          rw [drop_getD hi, drop_getD hj, hBadL] at p2
          conv => whnf
          refine Ask.i (fun c4 => ?_) (fun c4 => ?_)
          · have c4 : g = true := c4
            subst c4
            conv => whnf
            refine ⟨mixed, [], [], [], by kernel_rfl, ?_⟩
            conv => whnf
            refine ⟨⟨by omega, k3⟩, ?_⟩
            conv => whnf
            refine ⟨⟨by omega, by show (((i + 1 : Nat)) : Int) < ((b.cs.length : Nat) : Int); omega⟩, ?_⟩
            conv => whnf
            have hln := hZip_take_len (a := a.cs) (b := b.cs) (i + 1) a1
            refine ⟨by show (hZip (a.cs.take (i + 1)) (b.cs.take (i + 1))).length + 1 ≤ 274877906944; omega, ?_⟩
            conv => whnf
            refine ⟨(i + 1 + 1, decide (x64 (a.cs.getD (i + 1) 0 + b.cs.getD (i + 1) 0) ≥ a.cs.getD (i + 1) 0)), ⟨hi, by rw [← p2, not_ge]; simp⟩, by show a.cs.length - (i + 1 + 1) < a.cs.length - (i + 1); omega, ⟨rfl, rfl, rfl, rfl, rfl, rfl, ?_, trivial⟩, ⟨rfl, rfl, rfl, rfl, ?_, trivial⟩⟩
            · exact congrArg (fun z : Int => some (SV.u (.c (I64 z)))) (w64_eq (n := (((i + 1 : Nat)) : Int) + 1) (by omega))
            · exact congrArg (fun l => some (Blk.row 26 (.ints l))) (hZip_succ hi hj).symm
          · have c4 : g = false := c4
            subst c4
            have hk := hk true (by rw [← p2]; exact hBadL_true _ _)
            conv => whnf
            exact hk
        · have k3 : ¬ (((i + 1 : Nat)) : Int) < ((a.cs.length : Nat) : Int) := of_decide_eq_false c3
          have hi : i + 1 = a.cs.length := by omega
          rw [hi, List.drop_length, e1, List.drop_length, hBadL_nils] at p2
          conv => whnf
          refine Ask.i (fun c5 => ?_) (fun c5 => ?_)
          · have c5 : (!g) = true := c5
            have hk := hk true (by rw [← p2, c5])
            conv => whnf
            exact hk
          · have c5 : (!g) = false := c5
            have hk := hk false (by rw [← p2, c5])
            conv => whnf
            refine ⟨⟨⟨a3, b3⟩, ⟨a4, b4⟩, a5, b5⟩, ?_⟩
            conv => whnf
            refine ⟨mixed, [(7, [6]), (9, [6]), (11, [6])], [(0, []), (1, []), (2, [6]), (3, [6]), (4, [6]), (5, [6])], [], by kernel_rfl, ?_⟩
            conv => whnf
            first | (refine ⟨by decide, ?_⟩; conv => whnf) | skip
            first | (refine ⟨by decide, ?_⟩; conv => whnf) | skip
            first | (refine ⟨by decide, ?_⟩; conv => whnf) | skip
            have h0 : hZip a.cs b.cs = hZip (a.cs.take (i + 1)) (b.cs.take (i + 1)) := by rw [hi, List.take_length, e1, List.take_length]
            exact fin hk (congrArg (fun l => SV.t [.a ({ histE a b (zS a b) with cs := l }).cells, .c (I64 0)]) h0)
    · exact hk.elim
  · exact hk.elim
theorem rlhist_ex : Ok G 11 rlhistT := by
  have hS : AllSound (B [(14, .pure (normG (B []) [26, 26] numsS)), (38, .pure (normG (B []) [25, 25] lessSumT))]) G := .cons _ nums_ok (.cons _ lessSum_ex noneS)
  refine okP hS Tryz.func11 rfl (by decide) fun K us hk => ?_
  unfold rlhistT at hk
  split at hk
  · split at hk
    · rename_i la lb _ _ a b ha hb
      rw [asHist_eq ha, asHist_eq hb]
      refine ⟨by show 2 ≤ _; decide, ?_⟩
      obtain ⟨⟨⟨a1, a2, a3, a4, a5⟩, ⟨b1, b2, b3, b4, b5⟩⟩, hk⟩ := hk
      conv => whnf
      refine ⟨⟨by show a.bs.length ≤ 68719476736; omega, by show b.bs.length ≤ 68719476736; omega⟩, ?_⟩
      conv => whnf
      refine Ask.i (fun c1 => ?_) (fun c1 => ?_)
      · have hk := hk true (unlike_1 c1)
        conv => whnf
        exact hk
      conv => whnf
      refine Ask.i (fun c2 => ?_) (fun c2 => ?_)
      · have hk := hk true (unlike_2 c1 c2)
        conv => whnf
        exact hk
      have hk := hk false (unlike_2 c1 c2)
      obtain ⟨e1, e2⟩ := unlike_len (unlike_2 c1 c2)
      conv => whnf
      refine ⟨mixed, [(8, [6]), (10, [6]), (12, [6])], [(1, []), (3, [6]), (5, [6])], [], by kernel_rfl, ?_⟩
      conv => whnf
      refine ⟨[], _, _, rfl, Nat × Bool, (fun y => ([(2, .u (.c (.p 2 0))), (3, .u (.c (.p 3 0))), (4, .u (.c (.p 4 0))), (5, .u (.c (I64 0))), (6, .u (.c (.p 6 0))), (7, .u (.c (Bo y.2))), (8, .u (.c (I64 (y.1 : Nat))))],
        match y.1 with | 0 => [(2, .cells 30 a.cells), (3, .cells 30 b.cells), (4, .cells 30 [.v (.slice none 0 0), U64 0, U64 0, U64 0, Bo false, U64 0, Bo false, U64 0, Bo false, U64 0, .v (.slice none 0 0), .v (.slice none 0 0), .v (.slice none 0 0), U32 0, St nos]), (6, .cells 30 (({ a with start := b.time, count := x64 (a.count - b.count) } : HistD).cellsW (.v (.slice none 0 0)) (.d 26 (.ints a.bs))))] | i + 1 => [(2, .cells 30 a.cells), (3, .cells 30 b.cells), (4, .cells 30 [.v (.slice none 0 0), U64 0, U64 0, U64 0, Bo false, U64 0, Bo false, U64 0, Bo false, U64 0, .v (.slice none 0 0), .v (.slice none 0 0), .v (.slice none 0 0), U32 0, St nos]), (6, .cells 30 (({ a with start := b.time, count := x64 (a.count - b.count) } : HistD).cellsW (.r 76 26) (.d 26 (.ints a.bs)))), (76, .row 26 (.ints (lZip (a.cs.take (i + 1)) (b.cs.take (i + 1)))))])),
        (fun y => y.1 ≤ a.cs.length ∧ lBadL (a.cs.drop y.1) (b.cs.drop y.1) (!y.2) = lBad a b), (fun y => a.cs.length - y.1), fun x _ => (by obtain ⟨i, g⟩ := x; cases i <;> rfl),
        ⟨(0, decide (b.count ≤ a.count)), ⟨Nat.zero_le _, by show lBadL a.cs b.cs (!(decide (b.count ≤ a.count))) = _; rw [not_le]; rfl⟩, ⟨rfl, rfl, rfl, rfl, rfl, rfl, rfl, trivial⟩, ⟨rfl, rfl, rfl, rfl, trivial⟩⟩, ?_⟩
      rintro ⟨i, g⟩ ⟨p1, p2⟩
      simp only at p1 p2
      have hfa : x64 (a.count - b.count) = x64 (a.count - b.count) := rfl
      cases i with
      | zero =>
        conv => whnf
        refine Ask.i (fun c3 => ?_) (fun c3 => ?_)
        · have k3 : (((0 : Nat)) : Int) < ((a.cs.length : Nat) : Int) := of_decide_eq_true c3
          have hi : 0 < a.cs.length := by omega
          have hj : 0 < b.cs.length := by omega
          rw [drop_getD hi, drop_getD hj, lBadL] at p2
          conv => whnf
          refine ⟨mixed, [], [], [], by kernel_rfl, ?_⟩
          conv => whnf
          refine Ask.i (fun c4 => ?_) (fun c4 => ?_)
          · have c4 : g = true := c4
            subst c4
            conv => whnf
            refine ⟨⟨by omega, by show (((0 : Nat)) : Int) < ((b.cs.length : Nat) : Int); omega⟩, ?_⟩
            conv => whnf
            refine ⟨⟨by omega, k3⟩, ?_⟩
            conv => whnf
            refine ⟨mixed, [(16, [6])], [(1, []), (3, []), (5, []), (6, []), (8, []), (10, []), (11, []), (14, [])], [200014], by kernel_rfl, ?_⟩
            conv => whnf
            refine ⟨⟨by omega, k3⟩, ?_⟩
            conv => whnf
            refine ⟨⟨by omega, by show (((0 : Nat)) : Int) < ((b.cs.length : Nat) : Int); omega⟩, ?_⟩
            conv => whnf
            refine ⟨by show 1 ≤ 274877906944; omega, ?_⟩
            conv => whnf
            refine ⟨(0 + 1, decide (b.cs.getD (0) 0 ≤ a.cs.getD (0) 0)), ⟨hi, by rw [← p2, not_le]; rfl⟩, by show a.cs.length - (0 + 1) < a.cs.length - (0); omega, ⟨rfl, rfl, rfl, rfl, rfl, rfl, ?_, trivial⟩, ⟨rfl, rfl, rfl, rfl, ?_, trivial⟩⟩
            · exact congrArg (fun z : Int => some (SV.u (.c (I64 z)))) (w64_eq (n := (((0 : Nat)) : Int) + 1) (by omega))
            · exact congrArg (fun l => some (Blk.row 26 (.ints l))) (lZip_succ hi hj).symm
          · have c4 : g = false := c4
            subst c4
            conv => whnf
            refine ⟨mixed, [(16, [6])], [(1, []), (3, []), (5, []), (6, []), (8, []), (10, []), (11, []), (14, [])], [200014], by kernel_rfl, ?_⟩
            conv => whnf
            refine ⟨⟨by omega, k3⟩, ?_⟩
            conv => whnf
            refine ⟨⟨by omega, by show (((0 : Nat)) : Int) < ((b.cs.length : Nat) : Int); omega⟩, ?_⟩
            conv => whnf
            refine ⟨by show 1 ≤ 274877906944; omega, ?_⟩
            conv => whnf
            refine ⟨(0 + 1, false), ⟨hi, by rw [← p2]; rfl⟩, by show a.cs.length - (0 + 1) < a.cs.length - (0); omega, ⟨rfl, rfl, rfl, rfl, rfl, rfl, ?_, trivial⟩, ⟨rfl, rfl, rfl, rfl, ?_, trivial⟩⟩
            · exact congrArg (fun z : Int => some (SV.u (.c (I64 z)))) (w64_eq (n := (((0 : Nat)) : Int) + 1) (by omega))
            · exact congrArg (fun l => some (Blk.row 26 (.ints l))) (lZip_succ hi hj).symm
        · have k3 : ¬ (((0 : Nat)) : Int) < ((a.cs.length : Nat) : Int) := of_decide_eq_false c3
          have hi : 0 = a.cs.length := by omega
          rw [hi, List.drop_length, e1, List.drop_length, lBadL_nils] at p2
          conv => whnf
          refine Ask.i (fun c5 => ?_) (fun c5 => ?_)
          · have c5 : (!g) = true := c5
            have hk := hk true (by rw [← p2, c5])
            conv => whnf
            exact hk
          · have c5 : (!g) = false := c5
            have hk := hk false (by rw [← p2, c5])
            conv => whnf
            refine ⟨⟨a3, b3⟩, ?_⟩
            conv => whnf
            have h0 : lZip a.cs b.cs = [] := by rw [List.length_eq_zero_iff.1 hi.symm]; rfl
            exact fin hk (congrArg (fun l => SV.t [.a ({ lhE a b (zD a b) with cs := l }).cells, .c (I64 0)]) h0)
      | succ i =>
        conv => whnf
        refine Ask.i (fun c3 => ?_) (fun c3 => ?_)
        · have k3 : (((i + 1 : Nat)) : Int) < ((a.cs.length : Nat) : Int) := of_decide_eq_true c3
          have hi : i + 1 < a.cs.length := by omega
          have hj : i + 1 < b.cs.length := by omega
          rw [drop_getD hi, drop_getD hj, lBadL] at p2
          conv => whnf
          refine ⟨mixed, [], [], [], by kernel_rfl, ?_⟩
          conv => whnf
          refine Ask.i (fun c4 => ?_) (fun c4 => ?_)
          · have c4 : g = true := c4
            subst c4
            conv => whnf
            refine ⟨⟨by omega, by show (((i + 1 : Nat)) : Int) < ((b.cs.length : Nat) : Int); omega⟩, ?_⟩
            conv => whnf
            refine ⟨⟨by omega, k3⟩, ?_⟩
            conv => whnf
            refine ⟨mixed, [(16, [6])], [(1, []), (3, []), (5, []), (6, []), (8, []), (10, []), (11, []), (14, [])], [200014], by kernel_rfl, ?_⟩
            conv => whnf
            refine ⟨⟨by omega, k3⟩, ?_⟩
            conv => whnf
            refine ⟨⟨by omega, by show (((i + 1 : Nat)) : Int) < ((b.cs.length : Nat) : Int); omega⟩, ?_⟩
            conv => whnf
            have hln := lZip_take_len (a := a.cs) (b := b.cs) (i + 1) a1
            refine ⟨by show (lZip (a.cs.take (i + 1)) (b.cs.take (i + 1))).length + 1 ≤ 274877906944; omega, ?_⟩
            conv => whnf
            refine ⟨(i + 1 + 1, decide (b.cs.getD (i + 1) 0 ≤ a.cs.getD (i + 1) 0)), ⟨hi, by rw [← p2, not_le]; rfl⟩, by show a.cs.length - (i + 1 + 1) < a.cs.length - (i + 1); omega, ⟨rfl, rfl, rfl, rfl, rfl, rfl, ?_, trivial⟩, ⟨rfl, rfl, rfl, rfl, ?_, trivial⟩⟩
            · exact congrArg (fun z : Int => some (SV.u (.c (I64 z)))) (w64_eq (n := (((i + 1 : Nat)) : Int) + 1) (by omega))
            · exact congrArg (fun l => some (Blk.row 26 (.ints l))) (lZip_succ hi hj).symm
          · have c4 : g = false := c4
            subst c4
            conv => whnf
            refine ⟨mixed, [(16, [6])], [(1, []), (3, []), (5, []), (6, []), (8, []), (10, []), (11, []), (14, [])], [200014], by kernel_rfl, ?_⟩
            conv => whnf
            refine ⟨⟨by omega, k3⟩, ?_⟩
            conv => whnf
            refine ⟨⟨by omega, by show (((i + 1 : Nat)) : Int) < ((b.cs.length : Nat) : Int); omega⟩, ?_⟩
            conv => whnf
            have hln := lZip_take_len (a := a.cs) (b := b.cs) (i + 1) a1
            refine ⟨by show (lZip (a.cs.take (i + 1)) (b.cs.take (i + 1))).length + 1 ≤ 274877906944; omega, ?_⟩
            conv => whnf
            refine ⟨(i + 1 + 1, false), ⟨hi, by rw [← p2]; rfl⟩, by show a.cs.length - (i + 1 + 1) < a.cs.length - (i + 1); omega, ⟨rfl, rfl, rfl, rfl, rfl, rfl, ?_, trivial⟩, ⟨rfl, rfl, rfl, rfl, ?_, trivial⟩⟩
            · exact congrArg (fun z : Int => some (SV.u (.c (I64 z)))) (w64_eq (n := (((i + 1 : Nat)) : Int) + 1) (by omega))
            · exact congrArg (fun l => some (Blk.row 26 (.ints l))) (lZip_succ hi hj).symm
        · have k3 : ¬ (((i + 1 : Nat)) : Int) < ((a.cs.length : Nat) : Int) := of_decide_eq_false c3
          have hi : i + 1 = a.cs.length := by omega
          rw [hi, List.drop_length, e1, List.drop_length, lBadL_nils] at p2
          conv => whnf
          refine Ask.i (fun c5 => ?_) (fun c5 => ?_)
          · have c5 : (!g) = true := c5
            have hk := hk true (by rw [← p2, c5])
            conv => whnf
            exact hk
          · have c5 : (!g) = false := c5
            have hk := hk false (by rw [← p2, c5])
            conv => whnf
            refine ⟨⟨a3, b3⟩, ?_⟩
            conv => whnf
            have h0 : lZip a.cs b.cs = lZip (a.cs.take (i + 1)) (b.cs.take (i + 1)) := by rw [hi, List.take_length, e1, List.take_length]
            exact fin hk (congrArg (fun l => SV.t [.a ({ lhE a b (zD a b) with cs := l }).cells, .c (I64 0)]) h0)
    · exact hk.elim
  · exact hk.elim
end Sx
/-! Contracts: copies of numbers; histograms that are equal. -/
namespace Sx
open Go Go.Proofs
set_option linter.unusedVariables false
set_option maxRecDepth 30000
variable {G : Glob}
def copyT : List U → Out SV
  | [.c (.d 26 (.ints l))] => .need (l.length ≤ 1500) (one (.d 26 (.ints l)))
  | _ => .fail
theorem copy_ex : Ok G 7 copyT := by
  refine okP noneS Tryz.func7 rfl (by decide) fun K us hk => ?_
  unfold copyT at hk
  split at hk
  · rename_i l
    refine ⟨by show 1 ≤ _; decide, ?_⟩
    obtain ⟨hl, hk⟩ := hk
    conv => whnf
    refine ⟨by show l.length ≤ 274877906944; omega, ?_⟩
    conv => whnf
    exact hk
  · exact hk.elim
def histEqT (k : Nat) : List U → Out SV
  | [.a l, .a m] => match asHist l with
    | some e => .need (l = m ∧ HGood k e) (one (Bo true))
    | none => .fail
  | _ => .fail
theorem histEq_ex {k : Nat} : Ok G 12 (histEqT k) := by
  have hS : AllSound (B [(39, .pure (normG (B []) [22, 22] (keysEqS k))), (40, .pure (normG (B []) [25, 25] optEqS)), (14, .pure (normG (B []) [26, 26] numsS)), (41, .pure (normG (B []) [27, 27] (exsEqS k)))]) G := .cons _ (keysEq_all k) (.cons _ optEq_ok (.cons _ nums_ok (.cons _ (exsEq_ok k) noneS)))
  refine okP hS Tryz.func12 rfl (by decide) fun K us hk => ?_
  unfold histEqT at hk
  split at hk
  · rename_i l m
    split at hk
    · rename_i e he
      obtain ⟨⟨rfl, h1, h2, h3, h4, h5, h6⟩, hk⟩ := hk
      rw [asHist_eq he]
      refine ⟨by show 2 ≤ _; decide, ?_⟩
      conv => whnf
      refine ⟨⟨h1, h2, rfl⟩, ?_⟩
      conv => whnf
      refine Ask.i (fun _ => ?_) (fun c => nf (e.start) c)
      conv => whnf
      refine Ask.i (fun _ => ?_) (fun c => nf (e.time) c)
      conv => whnf
      refine Ask.i (fun _ => ?_) (fun c => nf (e.count) c)
      conv => whnf
      refine ⟨⟨rfl, rfl⟩, ?_⟩
      conv => whnf
      refine ⟨⟨rfl, rfl⟩, ?_⟩
      conv => whnf
      refine ⟨⟨rfl, rfl⟩, ?_⟩
      conv => whnf
      refine ⟨⟨by show e.cs.length ≤ 68719476736; omega, by show e.cs.length ≤ 68719476736; omega⟩, ?_⟩
      conv => whnf
      refine Ask.i (fun _ => ?_) (fun c => absurd rfl (of_decide_eq_false c))
      conv => whnf
      refine ⟨⟨by show e.bs.length ≤ 68719476736; omega, by show e.bs.length ≤ 68719476736; omega⟩, ?_⟩
      conv => whnf
      refine Ask.i (fun _ => ?_) (fun c => absurd rfl (of_decide_eq_false c))
      conv => whnf
      refine ⟨⟨h3, h4, rfl⟩, ?_⟩
      conv => whnf
      refine Ask.i (fun _ => ?_) (fun c => nf (e.flags) c)
      conv => whnf
      exact fin hk (Bo_self e.unk.toList)
    · exact hk.elim
  · exact hk.elim
end Sx
/-! The law MergeHists: true. -/
namespace Sx
open Go Go.Proofs
open Go.Proofs.SxPu (addV subV)
set_option linter.unusedVariables false
set_option maxRecDepth 30000
variable {G : Glob}
theorem HGood.sum {k : Nat} {a b : HistD} {z : Int} (hB : HGood k b) : HGood k (histE a b z) := by
  refine ⟨hB.1, hB.2.1, hB.2.2.1, hB.2.2.2.1, ?_, hB.2.2.2.2.2⟩
  have := hB.2.2.2.2.1
  show (List.zipWith _ a.cs b.cs).length ≤ 1500
  rw [List.length_zipWith]; omega
theorem HGood.dif {k : Nat} {a b : HistD} {z : Int} (hA : HGood k a) : HGood k (lhE a b z) := by
  refine ⟨hA.1, hA.2.1, hA.2.2.1, hA.2.2.2.1, ?_, hA.2.2.2.2.2⟩
  have := hA.2.2.2.2.1
  show (List.zipWith _ a.cs b.cs).length ≤ 1500
  rw [List.length_zipWith]; omega
theorem typ_nilx {t : TypeId} {c : List Ct} (h : TB t = some (.rows c)) : Typ TB (.sl t) (.rows []) := .rows h (by simp) (fun r hr => by cases hr) (fun r hr => by cases hr)
theorem HGood.none {k : Nat} : HGood (k + 1) noH := ⟨typ_nilx (t := 22) (c := [.str, .bool, .int .i64, .str, .bool, .int .u64, .sl 122, .sl 22, .str, .str, .str]) rfl, .rows (by simp) (by simp), typ_nilx (t := 27) (c := [.sl 22, .int .u64, .int .i64, .int .u64, .str, .str, .str]) rfl, .rows (by simp) (by simp), by decide, by decide⟩
def lawHistsS (k : Nat) : List U → Out SV
  | [.a la, .a lb] => match asHist la, asHist lb with
    | some a, some b => .need (a.Typ ∧ b.Typ ∧ (a.Small → b.Small → DpH (k + 1) a ∧ DpH (k + 1) b)) (one (Bo true))
    | _, _ => .fail
  | _ => .fail
set_option maxHeartbeats 4000000 in
theorem lawHists_ok {k : Nat} : Ok G1 3 (lawHistsS k) := by
  have hS : AllSound (B [(5, .pure (normG (B []) [] firstS)), (6, .pure (normG (B []) [33] fewHS)), (7, .pure (normG (B []) [26] copyT)), (8, .pure (normG (B []) [30, 30] (mhistS (k + 1) fun _ => True))), (9, .pure (normG (B []) [30, 30] rhistT)), (10, .pure (normG (B []) [30, 30] (lhistS (k + 1) fun _ => True))), (11, .pure (normG (B []) [30, 30] rlhistT)), (12, .pure (normG (B []) [30, 30] (histEqT (k + 1)))), (13, .pure (normG (B []) [36] codeS)), (14, .pure (normG (B []) [26, 26] numsS))]) G1 :=
    .cons _ first_ok (.cons _ fewH_ok (.cons _ copy_ex (.cons _ mhist_ok (.cons _ rhist_ex (.cons _ lhist_ok (.cons _ rlhist_ex (.cons _ histEq_ex (.cons _ code_ok (.cons _ nums_ok noneS)))))))))
  refine okP hS Tryz.func3 rfl (by decide) fun K us hk => ?_
  unfold lawHistsS at hk
  split at hk
  · split at hk
    · rename_i la lb _ _ a b ha hb
      rw [asHist_eq ha, asHist_eq hb]
      refine ⟨by show 2 ≤ _; decide, ?_⟩
      obtain ⟨⟨tA, tB, dH⟩, hk⟩ := hk
      conv => whnf
      refine ⟨⟨tA, tB⟩, ?_⟩
      conv => whnf
      intro f hf
      have hf : f = true → a.Small ∧ b.Small := hf
      cases f with
      | false =>
        conv => whnf
        exact hk
      | true =>
      obtain ⟨sA, sB⟩ := hf rfl
      obtain ⟨d1, d2⟩ := dH sA sB
      have gA : HGood (k + 1) a := ⟨tA.attrs, d1.1, tA.ex, d1.2, sA.lC, sA.lB⟩
      have gB : HGood (k + 1) b := ⟨tB.attrs, d2.1, tB.ex, d2.2, sB.lC, sB.lB⟩
      have uA : UH a := ⟨sA.lC, sA.lB, tA.sm, tA.mn, tA.mx⟩
      have uB : UH b := ⟨sB.lC, sB.lB, tB.sm, tB.mn, tB.mx⟩
      have sAC := sA.lC
      conv => whnf
      refine ⟨sA.lC, ?_⟩
      conv => whnf
      refine ⟨⟨gB, sA.lC, sA.lB, tA.sm, tB.sm, trivial⟩, ?_⟩
      conv => whnf
      intro c1 h1
      have h1 : unlikeB a b = c1 := h1
      cases c1 with
      | true =>
        conv => whnf
        refine ⟨⟨uA, uB⟩, ?_⟩
        conv => whnf
        intro c2 h2
        have h2 : unlikeB a b = c2 := h2
        rw [h1] at h2
        subst h2
        conv => whnf
        refine ⟨⟨gA, sB.lC, sB.lB, tA.sm, tB.sm, trivial⟩, ?_⟩
        conv => whnf
        intro c3 h3
        have h3 : unlikeB a b = c3 := h3
        rw [h1] at h3
        subst h3
        conv => whnf
        refine ⟨⟨uA, uB⟩, ?_⟩
        conv => whnf
        intro c4 h4
        have h4 : unlikeB a b = c4 := h4
        rw [h1] at h4
        subst h4
        conv => whnf
        refine ⟨⟨rfl, HGood.none⟩, ?_⟩
        conv => whnf
        refine ⟨⟨rfl, HGood.none⟩, ?_⟩
        conv => whnf
        refine ⟨⟨by show a.cs.length ≤ 68719476736; omega, by show a.cs.length ≤ 68719476736; omega⟩, ?_⟩
        conv => whnf
        exact fin hk (congrArg (fun z : Bool => SV.u (.c (Bo z))) (decide_eq_true rfl).symm)
      | false =>
        conv => whnf
        intro q1 k1
        have k1 : hBad a b = q1 := k1
        cases q1 with
        | true =>
          conv => whnf
          refine ⟨⟨uA, uB⟩, ?_⟩
          conv => whnf
          intro c2 h2
          have h2 : unlikeB a b = c2 := h2
          rw [h1] at h2
          subst h2
          conv => whnf
          intro q2 k2
          have k2 : hBad a b = q2 := k2
          rw [k1] at k2
          subst k2
          conv => whnf
          refine ⟨⟨gA, sB.lC, sB.lB, tA.sm, tB.sm, trivial⟩, ?_⟩
          conv => whnf
          intro c3 h3
          have h3 : unlikeB a b = c3 := h3
          rw [h1] at h3
          subst h3
          conv => whnf
          intro q3 k3
          have k3 : lBad a b = q3 := k3
          cases q3 with
          | true =>
            conv => whnf
            refine ⟨⟨uA, uB⟩, ?_⟩
            conv => whnf
            intro c4 h4
            have h4 : unlikeB a b = c4 := h4
            rw [h1] at h4
            subst h4
            conv => whnf
            intro q4 k4
            have k4 : lBad a b = q4 := k4
            rw [k3] at k4
            subst k4
            conv => whnf
            refine ⟨⟨rfl, HGood.none⟩, ?_⟩
            conv => whnf
            refine ⟨⟨rfl, HGood.none⟩, ?_⟩
            conv => whnf
            refine ⟨⟨by show a.cs.length ≤ 68719476736; omega, by show a.cs.length ≤ 68719476736; omega⟩, ?_⟩
            conv => whnf
            exact fin hk (congrArg (fun z : Bool => SV.u (.c (Bo z))) (decide_eq_true rfl).symm)
          | false =>
            conv => whnf
            refine ⟨⟨uA, uB⟩, ?_⟩
            conv => whnf
            intro c4 h4
            have h4 : unlikeB a b = c4 := h4
            rw [h1] at h4
            subst h4
            conv => whnf
            intro q4 k4
            have k4 : lBad a b = q4 := k4
            rw [k3] at k4
            subst k4
            conv => whnf
            refine ⟨⟨rfl, HGood.none⟩, ?_⟩
            conv => whnf
            refine ⟨⟨rfl, gA.dif⟩, ?_⟩
            conv => whnf
            refine ⟨⟨by show a.cs.length ≤ 68719476736; omega, by show a.cs.length ≤ 68719476736; omega⟩, ?_⟩
            conv => whnf
            exact fin hk (congrArg (fun z : Bool => SV.u (.c (Bo z))) (decide_eq_true rfl).symm)
        | false =>
          conv => whnf
          refine ⟨⟨uA, uB⟩, ?_⟩
          conv => whnf
          intro c2 h2
          have h2 : unlikeB a b = c2 := h2
          rw [h1] at h2
          subst h2
          conv => whnf
          intro q2 k2
          have k2 : hBad a b = q2 := k2
          rw [k1] at k2
          subst k2
          conv => whnf
          refine ⟨⟨gA, sB.lC, sB.lB, tA.sm, tB.sm, trivial⟩, ?_⟩
          conv => whnf
          intro c3 h3
          have h3 : unlikeB a b = c3 := h3
          rw [h1] at h3
          subst h3
          conv => whnf
          intro q3 k3
          have k3 : lBad a b = q3 := k3
          cases q3 with
          | true =>
            conv => whnf
            refine ⟨⟨uA, uB⟩, ?_⟩
            conv => whnf
            intro c4 h4
            have h4 : unlikeB a b = c4 := h4
            rw [h1] at h4
            subst h4
            conv => whnf
            intro q4 k4
            have k4 : lBad a b = q4 := k4
            rw [k3] at k4
            subst k4
            conv => whnf
            refine ⟨⟨rfl, gB.sum⟩, ?_⟩
            conv => whnf
            refine ⟨⟨rfl, HGood.none⟩, ?_⟩
            conv => whnf
            refine ⟨⟨by show a.cs.length ≤ 68719476736; omega, by show a.cs.length ≤ 68719476736; omega⟩, ?_⟩
            conv => whnf
            exact fin hk (congrArg (fun z : Bool => SV.u (.c (Bo z))) (decide_eq_true rfl).symm)
          | false =>
            conv => whnf
            refine ⟨⟨uA, uB⟩, ?_⟩
            conv => whnf
            intro c4 h4
            have h4 : unlikeB a b = c4 := h4
            rw [h1] at h4
            subst h4
            conv => whnf
            intro q4 k4
            have k4 : lBad a b = q4 := k4
            rw [k3] at k4
            subst k4
            conv => whnf
            refine ⟨⟨rfl, gB.sum⟩, ?_⟩
            conv => whnf
            refine ⟨⟨rfl, gA.dif⟩, ?_⟩
            conv => whnf
            refine ⟨⟨by show a.cs.length ≤ 68719476736; omega, by show a.cs.length ≤ 68719476736; omega⟩, ?_⟩
            conv => whnf
            exact fin hk (congrArg (fun z : Bool => SV.u (.c (Bo z))) (decide_eq_true rfl).symm)
    · exact hk.elim
  · exact hk.elim
end Sx
/-! MergeHists, at any input. -/
namespace Sx
open Go Go.Proofs Go.RowKit
set_option linter.unusedVariables false
set_option maxRecDepth 30000
theorem deep2H (a b : HistD) : ∃ k, a.Small → b.Small → DpH (k + 1) a ∧ DpH (k + 1) b := by
  by_cases ha : a.Small
  · by_cases hb : b.Small
    · obtain ⟨k, hk⟩ := ha.dpH
      obtain ⟨m, hm⟩ := hb.dpH
      exact ⟨k + m, fun _ _ => ⟨⟨hk.1.mono (by omega), hk.2.mono (by omega)⟩, ⟨hm.1.mono (by omega), hm.2.mono (by omega)⟩⟩⟩
    · exact ⟨0, fun _ h => absurd h hb⟩
  · exact ⟨0, fun h => absurd h ha⟩
theorem mergeHists_walk {H : Type} {enc : TypeId × Value → H} {W : World} {base : Nat} {spare : Nat → Bool} {held : Bool} {n0 n1 : Nat} {c0 c1 : List Value} {x0 x1 : DataW H × List MemPlace}
    (h0 : DataW.trod enc Tryz.prog W base spare held n0 30 c0 = some x0) (h1 : DataW.trod enc Tryz.prog W base spare held n1 30 c1 = some x1) (hg : YtcmghblegllmlaaGreatDoor.Cd.Lays W) :
    Calls Tryz.prog 3 #[.agg c0.toArray, .agg c1.toArray] W fun e W' => e = .returned (.bool true) ∧ Below W.heap.size W W' := by
  obtain ⟨a, tA, dA⟩ := open_hist h0
  obtain ⟨b, tB, dB⟩ := open_hist h1
  obtain ⟨k, hk⟩ := deep2H a b
  have := (lawHists_ok (k := k)).2 (fun s => s = .u (.c (Bo true))) [.a a.cells, .a b.cells] (fun _ => False) W [.agg c0.toArray, .agg c1.toArray]
    ⟨⟨tA, tB, hk⟩, rfl⟩ (GOk1 hg) (fun b h => h.elim) ⟨⟨c0, rfl, dA⟩, ⟨c1, rfl, dB⟩, trivial⟩
  refine this.mono fun e' W' ⟨r, v, h1, h2, h3, h4⟩ => ?_
  subst h2
  obtain ⟨rfl, _⟩ := h3
  exact ⟨h1, h4.below⟩
end Sx
