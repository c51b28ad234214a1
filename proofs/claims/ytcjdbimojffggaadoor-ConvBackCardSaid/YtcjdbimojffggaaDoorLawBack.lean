/- The law ConvBack answers true at any input. Conditions: the input reads as data of the row's types, and errors.errorType is laid as the program's text lays it. -/
import Derived.Test.YtcjdbimojffggaaDoorCon3
import Derived.Test.YtcjdbimojffggaaDoorOpening
set_option linter.unusedVariables false
set_option linter.unusedSimpArgs false
/-! Sums made of deltas, told as deltas again. -/
namespace Sx
open Go Go.Proofs
set_option linter.unusedVariables false
set_option maxRecDepth 30000
def numAt (s e n : Int) : NumD := ⟨.rows [], s, e, 2, n, .rows [], 0, nos⟩
def keyK : ByteArray := ⟨#[107]⟩
theorem nt {α : Type} [BEq α] [ReflBEq α] {p : Prop} (x : α) (c : (x != x) = true) : p := by simp [bne] at c
theorem nf {α : Type} [BEq α] [ReflBEq α] {p : Prop} (x : α) (c : (x == x) = false) : p := by simp at c
def sumTo (l : List Int) : Nat → Int
  | 0 => 0
  | i + 1 => sumTo l i + l.getD i 0
theorem x64_eq {n : Int} (h : 0 ≤ n ∧ n < 18446744073709551616) : x64 n = n := by show IntKind.u64.wrap n = n; rw [IntKind.wrap_u64]; omega
theorem w_x (n : Int) : w64 (x64 n) = w64 n := by
  show IntKind.i64.wrap (IntKind.u64.wrap n) = IntKind.i64.wrap n
  rw [IntKind.wrap_i64, IntKind.wrap_i64, IntKind.wrap_u64]; omega
theorem addI_at {t s e S x : Int} (hS : -140737488355328 ≤ S ∧ S ≤ 140737488355328) (hx : -1099511627776 ≤ x ∧ x ≤ 1099511627776) :
    addI (numAt 0 t (x64 S)) (numAt s e (x64 x)) = some (numAt 0 e (x64 (S + x))) := by
  have e1 : w64 (x64 S) = S := by rw [w_x, w64_eq (by omega)]
  have e2 : w64 (x64 x) = x := by rw [w_x, w64_eq (by omega)]
  have e3 : w64 (S + x) = S + x := w64_eq (by omega)
  have hb : sumBad (x64 S) (x64 x) = false := by
    unfold sumBad
    rw [e1, e2, e3]
    by_cases c : x > 0
    · simp [c]
      all_goals omega
    · simp [c]
      all_goals omega
  show (bif sumBad (x64 S) (x64 x) then none else some (numAt 0 e (x64 (w64 (w64 (x64 S) + w64 (x64 x)))))) = _
  rw [hb, e1, e2, e3]; rfl
theorem lesI_at {mono : Bool} {t e S x : Int} (hS : -140737488355328 ≤ S ∧ S ≤ 140737488355328) (hx : -1099511627776 ≤ x ∧ x ≤ 1099511627776) (hm : mono = true → 0 ≤ x) :
    lesI mono (numAt 0 e (x64 (S + x))) (numAt 0 t (x64 S)) = some (numAt t e (x64 x)) := by
  have e1 : w64 (x64 S) = S := by rw [w_x, w64_eq (by omega)]
  have e3 : w64 (x64 (S + x)) = S + x := by rw [w_x, w64_eq (by omega)]
  have e4 : w64 (S + x - S) = x := by rw [show S + x - S = x by omega, w64_eq (by omega)]
  have hb : difBad (x64 (S + x)) (x64 S) = false := by
    unfold difBad
    rw [e1, e3, e4]
    by_cases c : S > 0
    · simp [c]
      all_goals omega
    · simp [c]
      all_goals omega
  have hc : (mono && decide (w64 (x64 (S + x)) < w64 (x64 S))) = false := by
    rw [e1, e3]
    cases mono with
    | false => rfl
    | true => have := hm rfl; simp; omega
  show (bif difBad (x64 (S + x)) (x64 S) || (mono && decide (w64 (x64 (S + x)) < w64 (x64 S))) then none else some (numAt t e (x64 (w64 (w64 (x64 (S + x)) - w64 (x64 S)))))) = _
  rw [hb, hc, e1, e3, e4]; rfl
def mapAt (l : List Int) : Nat → List (ByteArray × List D)
  | 0 => []
  | i + 1 => [(keyK, rowS (numAt 0 ((i + 1 : Nat) : Int) (x64 (sumTo l (i + 1)))) 0)]
def backS : List U → Out SV
  | [.c (.d 51 (.ints l)), .c (.v (.bool mono))] => .need (∀ x ∈ l, -9223372036854775808 ≤ x ∧ x < 9223372036854775808) (one (Bo true))
  | _ => .fail
theorem back_ok : Ok G1 4 backS := by
  have hS : AllSound (B [(5, .pure (normG (B []) [] firstS)), (6, .full (normF (B []) [3, 3, 3] newS)), (7, .full (normF (B []) [23, 9, 44] (upS Whole addI 1))), (10, .full (normF (B []) [23, 9, 4, 44] (downS Whole lesI 1))), (11, .full (normF (B []) [23] lenTS))]) G1 :=
    .cons _ first_ok (.consF _ new_ok (.consF _ (up_ok numI_ok addI_same) (.consF _ (down_ok lessI_ok) (.consF _ lenT_ok noneS))))
  refine okP hS Tryd.func4 rfl (by decide) fun K us hk => ?_
  unfold backS at hk
  split at hk
  · rename_i l mono
    obtain ⟨hl, hk⟩ := hk
    refine ⟨by show 2 ≤ _; decide, ?_⟩
    conv => whnf
    refine Ask.i (fun c0 => ?_) (fun c0 => ?_)
    · conv => whnf
      exact hk
    have c0 : decide ((l.length : Int) > 60) = false := c0
    conv => whnf
    intro c hc
    obtain rfl : false = c := hc
    conv => whnf
    intro c hc
    obtain rfl : false = c := hc
    conv => whnf
    refine ⟨[], _, _, rfl, Nat, (fun i => ([(0, .u (.c (.d 51 (.ints l)))), (1, .u (.c (Bo mono))), (5, .u (.c (.p 100022 0))), (7, .u (.c (.p 100026 0))), (9, .u (.c (I64 (i : Nat))))],
      [(100022, .cells 59 [I64 1, I64 1, I64 1000, I64 0, .m 200022 57]), (200022, .map 57 (mapAt l i)), (100026, .cells 59 [I64 1, I64 1, I64 1000, I64 0, .m 200026 57]), (200026, .map 57 (mapAt l i))])),
      (fun i => i ≤ l.length ∧ -((i : Int) * 1099511627776) ≤ sumTo l i ∧ sumTo l i ≤ (i : Int) * 1099511627776), (fun i => l.length - i), fun x _ => rfl, ⟨0, ⟨Nat.zero_le _, by show _ ≤ (0 : Int); omega, by show (0 : Int) ≤ _; omega⟩, ⟨rfl, rfl, rfl, rfl, rfl, trivial⟩, ⟨rfl, rfl, rfl, rfl, trivial⟩⟩, ?_⟩
    rintro i ⟨hi0, hs1, hs2⟩
    have hlen2 : l.length ≤ 60 := by have := of_decide_eq_false c0; omega
    conv => whnf
    refine Ask.i (fun c1 => ?_) (fun c1 => ?_)
    · have c1 : decide ((i : Int) < ((l.length : Nat) : Int)) = true := c1
      have hi : i < l.length := by have := of_decide_eq_true c1; omega
      conv => whnf
      refine ⟨⟨by omega, of_decide_eq_true c1⟩, ?_⟩
      conv => whnf
      refine Ask.i (fun c2 => ?_) (fun c2 => ?_)
      · conv => whnf
        exact hk
      have c2 : decide (l.getD i 0 < -1099511627776) = false := c2
      conv => whnf
      refine ⟨⟨by omega, of_decide_eq_true c1⟩, ?_⟩
      conv => whnf
      refine Ask.i (fun c3 => ?_) (fun c3 => ?_)
      · conv => whnf
        exact hk
      have c3 : decide (l.getD i 0 > 1099511627776) = false := c3
      conv => whnf
      refine Ask.i (fun c4 => ?_) (fun c4 => ?_)
      · have c4 : mono = true := c4
        subst c4
        conv => whnf
        refine ⟨⟨by omega, of_decide_eq_true c1⟩, ?_⟩
        conv => whnf
        refine Ask.i (fun c5 => ?_) (fun c5 => ?_)
        · conv => whnf
          exact hk
        have c5 : decide (l.getD i 0 < 0) = false := c5
        have hm : true = true → 0 ≤ l.getD i 0 := fun _ => by have := of_decide_eq_false c5; omega
        have hx : -1099511627776 ≤ l.getD i 0 ∧ l.getD i 0 ≤ 1099511627776 := by
          have := of_decide_eq_false c2
          have := of_decide_eq_false c3
          omega
        clear c2 c3
        cases i with
        | zero =>
          conv => whnf
          refine ⟨⟨by omega, of_decide_eq_true c1⟩, ?_⟩
          conv => whnf
          refine ⟨⟨⟨rfl, rfl, good0 rfl rfl⟩, fun r h => by cases h⟩, ?_⟩
          conv => whnf
          intro o ho
          obtain rfl : none = o := ho
          conv => whnf
          intro c hc
          obtain rfl : false = c := hc
          conv => whnf
          refine ⟨⟨⟨rfl, rfl, good0 rfl rfl⟩, fun r h => by cases h⟩, ?_⟩
          conv => whnf
          intro o ho
          obtain rfl : none = o := ho
          conv => whnf
          intro c hc
          obtain rfl : false = c := hc
          conv => whnf
          refine Ask.i (fun c => nt _ c) (fun _ => ?_)
          conv => whnf
          have e3 : x64 (l.getD 0 0) = x64 (sumTo l 1) := by
            rw [show sumTo l 1 = l.getD 0 0 from Int.zero_add _]
          refine ⟨1, ⟨hi, ?_, ?_⟩, by show l.length - 1 < l.length - 0; omega, ⟨rfl, rfl, rfl, rfl, rfl, trivial⟩, ⟨rfl, congrArg (fun z => some (Blk.map 57 [(keyK, rowS (numAt 0 1 z) 0)])) e3, rfl, congrArg (fun z => some (Blk.map 57 [(keyK, rowS (numAt 0 1 z) 0)])) e3, trivial⟩⟩
          · show -(1 * 1099511627776 : Int) ≤ (0 : Int) + l.getD 0 0; omega
          · show (0 : Int) + l.getD 0 0 ≤ (1 * 1099511627776 : Int); omega
        | succ i =>
          conv => whnf
          refine ⟨⟨by omega, of_decide_eq_true c1⟩, ?_⟩
          conv => whnf
          refine ⟨⟨⟨rfl, rfl, good0 rfl rfl⟩, fun r h => ⟨_, _, (Option.some.inj h).symm, good0 rfl rfl⟩⟩, ?_⟩
          conv => whnf
          intro o ho
          obtain rfl := ho
          conv => whnf
          intro c hc
          conv at hc => lhs; whnf
          have e1 : x64 ((i + 1 : Nat) : Int) = ((i + 1 : Nat) : Int) := x64_eq (by omega)
          have e2 : x64 (w64 (((i + 1 : Nat) : Int) + 1)) = ((i + 1 + 1 : Nat) : Int) := by rw [w64_eq (by omega), x64_eq (by omega)]; omega
          obtain rfl : c = false := by
            have hc : (decide (x64 ((i + 1 : Nat) : Int) < ((i + 1 : Nat) : Int)) || decide (x64 (w64 (((i + 1 : Nat) : Int) + 1)) < ((i + 1 : Nat) : Int))) = c := hc
            rw [← hc, e1, e2]
            simp
            omega
          conv => whnf
          refine ⟨⟨rfl, rfl⟩, ?_⟩
          conv => whnf
          have hS : -140737488355328 ≤ sumTo l (i + 1) ∧ sumTo l (i + 1) ≤ 140737488355328 := by omega
          intro o2 ho2
          have ho2 : addI (numAt 0 ((i + 1 : Nat) : Int) (x64 (sumTo l (i + 1)))) (numAt (x64 ((i + 1 : Nat) : Int)) (x64 (w64 (((i + 1 : Nat) : Int) + 1))) (x64 (l.getD (i + 1) 0))) = o2 := ho2
          rw [addI_at hS hx] at ho2
          subst ho2
          conv => whnf
          refine ⟨⟨⟨rfl, rfl, good0 rfl rfl⟩, fun r h => ⟨_, _, (Option.some.inj h).symm, good0 rfl rfl⟩⟩, ?_⟩
          conv => whnf
          intro o ho
          obtain rfl := ho
          conv => whnf
          intro c hc
          obtain rfl : c = false := by
            have hc : decide (x64 (w64 (((i + 1 : Nat) : Int) + 1)) ≤ ((i + 1 : Nat) : Int)) = c := hc
            rw [← hc, e2]
            simp
            omega
          conv => whnf
          refine ⟨⟨rfl, rfl⟩, ?_⟩
          conv => whnf
          intro c hc
          obtain rfl : false = c := hc
          conv => whnf
          intro o2 ho2
          have ho2 : lesI true (numAt 0 (x64 (w64 (((i + 1 : Nat) : Int) + 1))) (x64 (sumTo l (i + 1) + l.getD (i + 1) 0))) (numAt 0 ((i + 1 : Nat) : Int) (x64 (sumTo l (i + 1)))) = o2 := ho2
          rw [lesI_at hS hx hm] at ho2
          subst ho2
          conv => whnf
          refine Ask.i (fun _ => ?_) (fun c => ?_)
          · conv => whnf
            refine Ask.i (fun c => nt _ c) (fun _ => ?_)
            conv => whnf
            refine Ask.i (fun c => nt _ c) (fun _ => ?_)
            conv => whnf
            refine Ask.i (fun c => ?_) (fun _ => ?_)
            · have c : (((i + 1 : Nat) : Int) != x64 ((i + 1 : Nat) : Int)) = true := c
              rw [e1] at c
              exact nt _ c
            conv => whnf
            refine ⟨i + 1 + 1, ⟨hi, ?_, ?_⟩, by show l.length - (i + 1 + 1) < l.length - (i + 1); omega, ⟨rfl, rfl, rfl, rfl, congrArg (fun z : Int => some (SV.u (.c (I64 z)))) (w64_eq (n := ((i + 1 : Nat) : Int) + 1) (by omega)), trivial⟩,
              ⟨rfl, congrArg (fun z => some (Blk.map 57 [(keyK, rowS (numAt 0 z (x64 (sumTo l (i + 1) + l.getD (i + 1) 0))) 0)])) e2, rfl, congrArg (fun z => some (Blk.map 57 [(keyK, rowS (numAt 0 z (x64 (sumTo l (i + 1) + l.getD (i + 1) 0))) 0)])) e2, trivial⟩⟩
            · show _ ≤ sumTo l (i + 1) + l.getD (i + 1) 0; omega
            · show sumTo l (i + 1) + l.getD (i + 1) 0 ≤ _; omega
          · exfalso
            have c : decide (((i + 1 : Nat) : Int) > 0) = false := c
            have := of_decide_eq_false c
            omega
      · have c4 : mono = false := c4
        subst c4
        have hm : false = true → 0 ≤ l.getD i 0 := fun h => by cases h
        have hx : -1099511627776 ≤ l.getD i 0 ∧ l.getD i 0 ≤ 1099511627776 := by
          have := of_decide_eq_false c2
          have := of_decide_eq_false c3
          omega
        clear c2 c3
        cases i with
        | zero =>
          conv => whnf
          refine ⟨⟨by omega, of_decide_eq_true c1⟩, ?_⟩
          conv => whnf
          refine ⟨⟨⟨rfl, rfl, good0 rfl rfl⟩, fun r h => by cases h⟩, ?_⟩
          conv => whnf
          intro o ho
          obtain rfl : none = o := ho
          conv => whnf
          intro c hc
          obtain rfl : false = c := hc
          conv => whnf
          refine ⟨⟨⟨rfl, rfl, good0 rfl rfl⟩, fun r h => by cases h⟩, ?_⟩
          conv => whnf
          intro o ho
          obtain rfl : none = o := ho
          conv => whnf
          intro c hc
          obtain rfl : false = c := hc
          conv => whnf
          refine Ask.i (fun c => nt _ c) (fun _ => ?_)
          conv => whnf
          have e3 : x64 (l.getD 0 0) = x64 (sumTo l 1) := by
            rw [show sumTo l 1 = l.getD 0 0 from Int.zero_add _]
          refine ⟨1, ⟨hi, ?_, ?_⟩, by show l.length - 1 < l.length - 0; omega, ⟨rfl, rfl, rfl, rfl, rfl, trivial⟩, ⟨rfl, congrArg (fun z => some (Blk.map 57 [(keyK, rowS (numAt 0 1 z) 0)])) e3, rfl, congrArg (fun z => some (Blk.map 57 [(keyK, rowS (numAt 0 1 z) 0)])) e3, trivial⟩⟩
          · show -(1 * 1099511627776 : Int) ≤ (0 : Int) + l.getD 0 0; omega
          · show (0 : Int) + l.getD 0 0 ≤ (1 * 1099511627776 : Int); omega
        | succ i =>
          conv => whnf
          refine ⟨⟨by omega, of_decide_eq_true c1⟩, ?_⟩
          conv => whnf
          refine ⟨⟨⟨rfl, rfl, good0 rfl rfl⟩, fun r h => ⟨_, _, (Option.some.inj h).symm, good0 rfl rfl⟩⟩, ?_⟩
          conv => whnf
          intro o ho
          obtain rfl := ho
          conv => whnf
          intro c hc
          conv at hc => lhs; whnf
          have e1 : x64 ((i + 1 : Nat) : Int) = ((i + 1 : Nat) : Int) := x64_eq (by omega)
          have e2 : x64 (w64 (((i + 1 : Nat) : Int) + 1)) = ((i + 1 + 1 : Nat) : Int) := by rw [w64_eq (by omega), x64_eq (by omega)]; omega
          obtain rfl : c = false := by
            have hc : (decide (x64 ((i + 1 : Nat) : Int) < ((i + 1 : Nat) : Int)) || decide (x64 (w64 (((i + 1 : Nat) : Int) + 1)) < ((i + 1 : Nat) : Int))) = c := hc
            rw [← hc, e1, e2]
            simp
            omega
          conv => whnf
          refine ⟨⟨rfl, rfl⟩, ?_⟩
          conv => whnf
          have hS : -140737488355328 ≤ sumTo l (i + 1) ∧ sumTo l (i + 1) ≤ 140737488355328 := by omega
          intro o2 ho2
          have ho2 : addI (numAt 0 ((i + 1 : Nat) : Int) (x64 (sumTo l (i + 1)))) (numAt (x64 ((i + 1 : Nat) : Int)) (x64 (w64 (((i + 1 : Nat) : Int) + 1))) (x64 (l.getD (i + 1) 0))) = o2 := ho2
          rw [addI_at hS hx] at ho2
          subst ho2
          conv => whnf
          refine ⟨⟨⟨rfl, rfl, good0 rfl rfl⟩, fun r h => ⟨_, _, (Option.some.inj h).symm, good0 rfl rfl⟩⟩, ?_⟩
          conv => whnf
          intro o ho
          obtain rfl := ho
          conv => whnf
          intro c hc
          obtain rfl : c = false := by
            have hc : decide (x64 (w64 (((i + 1 : Nat) : Int) + 1)) ≤ ((i + 1 : Nat) : Int)) = c := hc
            rw [← hc, e2]
            simp
            omega
          conv => whnf
          refine ⟨⟨rfl, rfl⟩, ?_⟩
          conv => whnf
          intro c hc
          obtain rfl : false = c := hc
          conv => whnf
          intro o2 ho2
          have ho2 : lesI false (numAt 0 (x64 (w64 (((i + 1 : Nat) : Int) + 1))) (x64 (sumTo l (i + 1) + l.getD (i + 1) 0))) (numAt 0 ((i + 1 : Nat) : Int) (x64 (sumTo l (i + 1)))) = o2 := ho2
          rw [lesI_at hS hx hm] at ho2
          subst ho2
          conv => whnf
          refine Ask.i (fun _ => ?_) (fun c => ?_)
          · conv => whnf
            refine Ask.i (fun c => nt _ c) (fun _ => ?_)
            conv => whnf
            refine Ask.i (fun c => nt _ c) (fun _ => ?_)
            conv => whnf
            refine Ask.i (fun c => ?_) (fun _ => ?_)
            · have c : (((i + 1 : Nat) : Int) != x64 ((i + 1 : Nat) : Int)) = true := c
              rw [e1] at c
              exact nt _ c
            conv => whnf
            refine ⟨i + 1 + 1, ⟨hi, ?_, ?_⟩, by show l.length - (i + 1 + 1) < l.length - (i + 1); omega, ⟨rfl, rfl, rfl, rfl, congrArg (fun z : Int => some (SV.u (.c (I64 z)))) (w64_eq (n := ((i + 1 : Nat) : Int) + 1) (by omega)), trivial⟩,
              ⟨rfl, congrArg (fun z => some (Blk.map 57 [(keyK, rowS (numAt 0 z (x64 (sumTo l (i + 1) + l.getD (i + 1) 0))) 0)])) e2, rfl, congrArg (fun z => some (Blk.map 57 [(keyK, rowS (numAt 0 z (x64 (sumTo l (i + 1) + l.getD (i + 1) 0))) 0)])) e2, trivial⟩⟩
            · show _ ≤ sumTo l (i + 1) + l.getD (i + 1) 0; omega
            · show sumTo l (i + 1) + l.getD (i + 1) 0 ≤ _; omega
          · exfalso
            have c : decide (((i + 1 : Nat) : Int) > 0) = false := c
            have := of_decide_eq_false c
            omega
    · have c1 : decide ((i : Int) < ((l.length : Nat) : Int)) = false := c1
      have hi : i = l.length := by have := of_decide_eq_false c1; omega
      conv => whnf
      refine Ask.i (fun _ => ?_) (fun c => nf _ c)
      conv => whnf
      refine fin hk (congrArg (fun b => SV.u (.c (Bo b))) ?_)
      show true = (((mapAt l i).length : Int) == if 1 < ((l.length : Nat) : Int) then 1 else ((l.length : Nat) : Int))
      subst hi
      cases l.length with
      | zero => rfl
      | succ n =>
        show true = ((1 : Int) == _)
        have : (if (1 : Int) < ((n + 1 : Nat) : Int) then (1 : Int) else ((n + 1 : Nat) : Int)) = 1 := by
          split <;> omega
        rw [this]; rfl
  · exact hk.elim
end Sx
/-! ConvBack, at any input. -/
namespace Sx
open Go Go.Proofs Go.RowKit
set_option linter.unusedVariables false
set_option maxRecDepth 30000
def goodI (t : TypeId) : Bool := [3, 51].contains t
theorem goodI_ok : ∀ t, goodI t = true → goodB (B []).tt goodI t = true := by
  intro t ht
  have h : [3, 51].all (fun t => goodB (B []).tt goodI t) = true := by kernel_rfl
  exact List.all_eq_true.1 h t (by simpa [goodI] using ht)
theorem open_ints {H : Type} {enc : TypeId × Value → H} {w : World} {base : Nat} {spare : Nat → Bool} {held : Bool} {fuel : Nat} {cs : List Value} {x : DataW H × List MemPlace}
    (h : DataW.trod enc Tryd.prog w base spare held fuel 51 cs = some x) : ∃ v l, cs = [v] ∧ Rd TB w (fun _ => False) (.sl 51) v (.ints l) ∧ ∀ x ∈ l, -9223372036854775808 ≤ x ∧ x < 9223372036854775808 := by
  obtain ⟨l, rfl, hl⟩ := opened (S := B []) (BT []) goodI_ok fuel 51 _ cs x rfl rfl h
  have hl : All2 (OpC TB w) [.sl 51] l := hl
  match l, hl with
  | [p0], ⟨q0, _⟩ =>
    obtain ⟨v, l, rfl, r, _, hr⟩ := q0.slI (k := .i64) (by kernel_rfl)
    have ki : IntKind.i64.min = -9223372036854775808 ∧ IntKind.i64.max = 9223372036854775807 := by decide
    rw [ki.1, ki.2] at hr
    exact ⟨v, l, rfl, r, fun x hx => ⟨(hr x hx).1, Int.lt_add_one_of_le (hr x hx).2⟩⟩
theorem convBack_walk {H : Type} {enc : TypeId × Value → H} {W : World} {base : Nat} {spare : Nat → Bool} {held : Bool} {n0 : Nat} {v0 : Value} {x0 : DataW H × List MemPlace}
    (h0 : DataW.trod enc Tryd.prog W base spare held n0 51 [v0] = some x0) (mono : Bool) (hg : YtcjdbimojffggaaDoor.Cd.Lays W) :
    Calls Tryd.prog 4 #[v0, .bool mono] W fun e W' => e = .returned (.bool true) ∧ Below W.heap.size W W' := by
  obtain ⟨v, l, hv, hr, hl⟩ := open_ints h0
  obtain rfl := (List.cons.inj hv).1
  have := back_ok.2 (fun s => s = .u (.c (Bo true))) [.c (.d 51 (.ints l)), .c (Bo mono)] (fun _ => False) W [v0, .bool mono]
    ⟨hl, rfl⟩ (GOk1 hg) (fun b h => h.elim) ⟨hr, ⟨rfl, rfl⟩, trivial⟩
  refine this.mono fun e' W' ⟨r, v, h1, h2, h3, h4⟩ => ?_
  subst h2
  obtain ⟨rfl, _⟩ := h3
  exact ⟨h1, h4.below⟩
end Sx
