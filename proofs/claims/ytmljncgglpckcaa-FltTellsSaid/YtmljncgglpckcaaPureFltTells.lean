/- FltTells: for any two 64-bit words the program's Class, Less, Equal, Order, Neg, Min and Max of package flt answer as the reference does. No condition. -/
import Derived.Test.YtmljncgglpckcaaPFltTellsx3
import Derived.Test.YtmljncgglpckcaaFl0
import Derived.Test.YtmljncgglpckcaaFl1
namespace Go.Proofs.Ytmljncgglpckcaa.Pure
open Go.RowKit Go.Proofs.Ytmljncgglpckcaa.PFltTells Go.Proofs.YtmljncgglpckcaaW.PrintWords Go.Proofs.YtmljncgglpckcaaW.PrintLast Go.Proofs.YtmljncgglpckcaaW.PrintMore Go.Proofs.Ytmljncgglpckcaa.Fl

/-! ### flt: what each function tells, as arithmetic -/
def ik (x : Int) : Int := if x < 9223372036854775808 then x else 9223372036854775808 - x
def rk (x : Int) : Int := if x < 9223372036854775808 then x + 9223372036854775808 else 18446744073709551615 - x
def isNan (x : Int) : Prop := x % 9223372036854775808 > 9218868437227405312
instance (x : Int) : Decidable (isNan x) := by unfold isNan; infer_instance
def U (x : Int) : Prop := 0 ≤ x ∧ x < 18446744073709551616

theorem U_of {x : Int} (h : (Lit.int .u64 x).wf = true) : U x := by
  simp [Lit.wf, IntKind.min, IntKind.max, IntKind.bits, IntKind.signed] at h
  unfold U; omega

theorem size_f {x : Int} (h : U x) : flt_size.f x = some (x % 9223372036854775808) := by
  unfold flt_size.f; rw [andNot_sign h.1 h.2]

theorem nan_f {x : Int} (h : U x) : flt_nan.f x = some (decide (isNan x)) := by
  unfold flt_nan.f; rw [size_f h]; rfl

theorem rank_f {x : Int} (h : U x) : flt_rank.f x = some (rk x) := by
  have h1 := h.1; have h2 := h.2
  unfold flt_rank.f rk
  rw [and_sign h1 h2, xor_all h1 h2]
  by_cases hx : x < 9223372036854775808
  · rw [or_sign h1 hx, if_neg (by omega), if_pos hx]
  · rw [if_pos (by omega), if_neg hx]

theorem compare_f (a b : Int) : cmp_Compare_uint64.f a b = some (if a < b then -1 else if a > b then 1 else 0) := by
  unfold cmp_Compare_uint64.f cmp_isNaN_uint64.f
  simp
  split
  · rfl
  · split <;> rfl

theorem order_f {a b : Int} (ha : U a) (hb : U b) : flt_Order.f a b = some (if rk a < rk b then -1 else if rk a > rk b then 1 else 0) := by
  unfold flt_Order.f; rw [rank_f ha, rank_f hb]; simp only [Option.bind_some]; rw [compare_f]; rfl

theorem equal_f {a b : Int} (ha : U a) (hb : U b) : flt_Equal.f a b = some (decide (¬ isNan a ∧ ¬ isNan b ∧ ik a = ik b)) := by
  unfold flt_Equal.f
  rw [nan_f ha, nan_f hb]
  simp only [Option.bind_some]
  obtain ⟨o1, o2, o3⟩ := or_size_zero ha.1 ha.2 hb.1 hb.2
  rw [size_f ⟨o1, o2⟩]
  have a1 := ha.1; have a2 := ha.2; have b1 := hb.1; have b2 := hb.2
  by_cases na : isNan a
  · simp [na]
  · by_cases nb : isNan b
    · simp [na, nb]
    · by_cases e : a = b
      · subst e; simp [na]
      · simp only [na, nb, decide_false, Bool.false_eq_true, if_false, if_neg e, Option.bind_some]
        congr 1
        rw [Bool.eq_iff_iff, beq_iff_eq, o3, decide_eq_true_iff]
        simp only [not_false_iff, true_and]
        unfold ik
        split <;> split <;> omega

theorem less_f {a b : Int} (ha : U a) (hb : U b) : flt_Less.f a b = some (decide (¬ isNan a ∧ ¬ isNan b ∧ ik a < ik b)) := by
  unfold flt_Less.f
  rw [nan_f ha, nan_f hb, equal_f ha hb, order_f ha hb]
  simp only [Option.bind_some]
  have a1 := ha.1; have a2 := ha.2; have b1 := hb.1; have b2 := hb.2
  by_cases na : isNan a
  · simp [na]
  · by_cases nb : isNan b
    · simp [na, nb]
    · simp only [na, nb, decide_false, Bool.false_eq_true, if_false, not_false_iff, true_and, decide_eq_true_iff]
      by_cases e : ik a = ik b
      · rw [if_pos e]; simp [e]
      · rw [if_neg e]
        congr 1
        rw [Bool.eq_iff_iff, decide_eq_true_iff, decide_eq_true_iff]
        unfold ik at *
        unfold rk
        repeat' split
        all_goals (repeat' split at *)
        all_goals omega

def cls (x : Int) : Int := if x % 9223372036854775808 > 9218868437227405312 then 4 else if x % 9223372036854775808 = 9218868437227405312 then 3 else if x % 9223372036854775808 ≥ 4503599627370496 then 2 else if x % 9223372036854775808 > 0 then 1 else 0

theorem class_f {x : Int} (h : U x) : flt_Class.f x = some (cls x) := by
  unfold flt_Class.f cls; rw [size_f h]; simp only [Option.bind_some]
  repeat' split
  all_goals rfl

theorem cls_nan (x : Int) : cls x = 4 ↔ isNan x := by
  unfold cls isNan; repeat' split
  all_goals omega

def ng (x : Int) : Int := if x < 9223372036854775808 then x + 9223372036854775808 else x - 9223372036854775808
theorem neg_f {x : Int} (h : U x) : flt_Neg.f x = some (ng x) := by
  unfold flt_Neg.f ng; rw [xor_sign h.1 h.2]
theorem ng_U {x : Int} (h : U x) : U (ng x) := by unfold U ng at *; split <;> omega

theorem other_f {a b : Int} (ha : U a) (hb : U b) : flt_other.f a b = some (decide (isNan a ∧ ¬ isNan b)) := by
  unfold flt_other.f; rw [nan_f ha, nan_f hb]; simp only [Option.bind_some]
  by_cases na : isNan a <;> by_cases nb : isNan b <;> simp [na, nb]

def lessP (a b : Int) : Prop := ¬ isNan a ∧ ¬ isNan b ∧ ik a < ik b
instance (a b : Int) : Decidable (lessP a b) := by unfold lessP; infer_instance
def minV (a b : Int) : Int := if lessP b a ∨ (isNan a ∧ ¬ isNan b) then b else a
def maxV (a b : Int) : Int := if lessP a b ∨ (isNan a ∧ ¬ isNan b) then b else a

theorem min_f {a b : Int} (ha : U a) (hb : U b) : flt_Min.f a b = some (minV a b) := by
  unfold flt_Min.f minV; rw [less_f hb ha, other_f ha hb]; simp only [Option.bind_some, decide_eq_true_iff]
  change (if lessP b a then some b else _) = _
  by_cases h1 : lessP b a
  · rw [if_pos h1, if_pos (Or.inl h1)]
  · rw [if_neg h1]
    by_cases h2 : isNan a ∧ ¬ isNan b
    · rw [if_pos h2, if_pos (Or.inr h2)]
    · rw [if_neg h2, if_neg (by rintro (h | h) <;> contradiction)]

theorem max_f {a b : Int} (ha : U a) (hb : U b) : flt_Max.f a b = some (maxV a b) := by
  unfold flt_Max.f maxV; rw [less_f ha hb, other_f ha hb]; simp only [Option.bind_some, decide_eq_true_iff]
  change (if lessP a b then some b else _) = _
  by_cases h1 : lessP a b
  · rw [if_pos h1, if_pos (Or.inl h1)]
  · rw [if_neg h1]
    by_cases h2 : isNan a ∧ ¬ isNan b
    · rw [if_pos h2, if_pos (Or.inr h2)]
    · rw [if_neg h2, if_neg (by rintro (h | h) <;> contradiction)]

theorem first_at : hyglaw6_first.f 80 = some true := by decide +kernel
theorem mono_up {f : Nat → Option Bool} (hm : ∀ k, LeO (f k) (f (k + 1))) {k0 : Nat} {r : Bool} (h : f k0 = some r) (d : Nat) : f (k0 + d) = some r := by
  induction d with
  | zero => exact h
  | succ d ih => exact hm _ _ ih
theorem first_f {k : Nat} (h : 80 ≤ k) : hyglaw6_first.f k = some true := by
  obtain ⟨d, rfl⟩ : ∃ d, k = 80 + d := ⟨k - 80, by omega⟩
  exact mono_up hyglaw6_first.mono first_at d

/-! ### the reference: what each function tells -/
theorem rclass_f {k : Nat} {x : Int} (h : U x) (hk : 1 ≤ k) : hygref6_Class.f k x = some (cls x) := by
  obtain ⟨k, rfl⟩ : ∃ m, k = m + 1 := ⟨k - 1, by omega⟩
  have h1 := h.1; have h2 := h.2
  unfold hygref6_Class.f hygref6_Class.j0 cls
  rw [and_2047 (x := x / 4503599627370496) (by omega) (by omega), and_frac h1 h2]
  have e1 : x % 9223372036854775808 = x / 4503599627370496 % 2048 * 4503599627370496 + x % 4503599627370496 := by omega
  by_cases c1 : x / 4503599627370496 % 2048 = 2047
  · rw [if_pos c1]
    by_cases c2 : x % 4503599627370496 > 0
    · simp only [c2, decide_true, if_true]; rw [if_pos (by omega)]
    · simp only [c2, decide_false, Bool.false_eq_true, if_false]; rw [if_pos c1, if_neg (by omega), if_pos (by omega)]
  · rw [if_neg c1]
    simp only [Bool.false_eq_true, if_false]
    rw [if_neg c1]
    by_cases c2 : x / 4503599627370496 % 2048 > 0
    · rw [if_pos c2, if_neg (by omega), if_neg (by omega), if_pos (by omega)]
    · rw [if_neg c2]
      by_cases c3 : x % 4503599627370496 > 0
      · rw [if_pos c3, if_neg (by omega), if_neg (by omega), if_neg (by omega), if_pos (by omega)]
      · rw [if_neg c3, if_neg (by omega), if_neg (by omega), if_neg (by omega), if_neg (by omega)]

theorem rneg_f {x : Int} (h : U x) : hygref6_neg.f x = some (decide (9223372036854775808 ≤ x)) := by
  have h1 := h.1; have h2 := h.2
  unfold hygref6_neg.f
  congr 1
  rw [Bool.eq_iff_iff, beq_iff_eq, decide_eq_true_iff]
  omega

theorem rsize_f {x : Int} (h : U x) : hygref6_size.f x = some (x % 9223372036854775808) := by
  unfold hygref6_size.f; rw [and_size h.1 h.2]

theorem rless_f {k : Nat} {a b : Int} (ha : U a) (hb : U b) (hk : 1 ≤ k) : hygref6_Less.f k a b = some (decide (¬ isNan a ∧ ¬ isNan b ∧ ik a < ik b)) := by
  unfold hygref6_Less.f
  rw [rclass_f ha hk, rclass_f hb hk, rsize_f ha, rsize_f hb]
  obtain ⟨k, rfl⟩ : ∃ m, k = m + 1 := ⟨k - 1, by omega⟩
  simp only [hygref6_Less.j0]
  rw [rneg_f ha, rneg_f hb, rsize_f ha, rsize_f hb]
  simp only [Option.bind_some, cls_nan]
  have a1 := ha.1; have a2 := ha.2; have b1 := hb.1; have b2 := hb.2
  by_cases na : isNan a
  · simp [na]
  · by_cases nb : isNan b
    · simp [na, nb]
    · simp only [na, nb, if_false, not_false_iff, true_and, Bool.false_eq_true]
      unfold ik
      by_cases p : 9223372036854775808 ≤ a <;> by_cases q : 9223372036854775808 ≤ b <;>
        by_cases s : a % 9223372036854775808 = 0 <;> by_cases t : b % 9223372036854775808 = 0 <;>
        simp [p, q, s, t] <;> (repeat' split) <;> omega

theorem requal_f {k : Nat} {a b : Int} (ha : U a) (hb : U b) (hk : 1 ≤ k) : hygref6_Equal.f k a b = some (decide (¬ isNan a ∧ ¬ isNan b ∧ ik a = ik b)) := by
  unfold hygref6_Equal.f
  rw [rclass_f ha hk, rclass_f hb hk, rsize_f ha, rsize_f hb]
  simp only [Option.bind_some, cls_nan]
  have a1 := ha.1; have a2 := ha.2; have b1 := hb.1; have b2 := hb.2
  by_cases na : isNan a
  · simp [na]
  · by_cases nb : isNan b
    · simp [na, nb]
    · simp only [na, nb, if_false, not_false_iff, true_and]
      unfold ik
      by_cases e : a = b
      · subst e; simp
      · rw [if_neg e]
        by_cases s : a % 9223372036854775808 = 0
        · rw [if_pos s]
          congr 1
          rw [Bool.eq_iff_iff, beq_iff_eq, decide_eq_true_iff]
          split <;> split <;> omega
        · rw [if_neg s]
          congr 1
          symm
          rw [decide_eq_false_iff_not]
          split <;> split <;> omega

theorem rorder_f {k : Nat} {a b : Int} (ha : U a) (hb : U b) (hk : 2 ≤ k) : hygref6_Order.f k a b = some (if rk a < rk b then -1 else if rk a > rk b then 1 else 0) := by
  obtain ⟨k, rfl⟩ : ∃ m, k = m + 2 := ⟨k - 2, by omega⟩
  unfold hygref6_Order.f
  rw [rneg_f ha, rneg_f hb]
  simp only [hygref6_Order.j0, hygref6_Order.j1]
  rw [rneg_f ha, rneg_f hb, rsize_f ha, rsize_f hb]
  simp only [Option.bind_some]
  have a1 := ha.1; have a2 := ha.2; have b1 := hb.1; have b2 := hb.2
  unfold rk
  by_cases e : a = b
  · subst e; simp
  · rw [if_neg e]
    by_cases p : 9223372036854775808 ≤ a <;> by_cases q : 9223372036854775808 ≤ b <;>
      simp [p, q] <;> (repeat' split) <;> first | rfl | omega

theorem rnegate_f {x : Int} (h : U x) : hygref6_Neg.f x = some (ng x) := by
  unfold hygref6_Neg.f ng; rw [xor_sign h.1 h.2]

theorem rmin_f {k : Nat} {a b : Int} (ha : U a) (hb : U b) (hk : 1 ≤ k) : hygref6_Min.f k a b = some (minV a b) := by
  unfold hygref6_Min.f minV
  rw [rless_f hb ha hk, rclass_f ha hk, rclass_f hb hk]
  simp only [Option.bind_some, cls_nan, decide_eq_true_iff]
  change (if lessP b a then some b else _) = _
  by_cases h1 : lessP b a
  · rw [if_pos h1, if_pos (Or.inl h1)]
  · rw [if_neg h1]
    by_cases na : isNan a <;> by_cases nb : isNan b <;> simp [h1, na, nb]

theorem rmax_f {k : Nat} {a b : Int} (ha : U a) (hb : U b) (hk : 1 ≤ k) : hygref6_Max.f k a b = some (maxV a b) := by
  unfold hygref6_Max.f maxV
  rw [rless_f ha hb hk, rclass_f ha hk, rclass_f hb hk]
  simp only [Option.bind_some, cls_nan, decide_eq_true_iff]
  change (if lessP a b then some b else _) = _
  by_cases h1 : lessP a b
  · rw [if_pos h1, if_pos (Or.inl h1)]
  · rw [if_neg h1]
    by_cases na : isNan a <;> by_cases nb : isNan b <;> simp [h1, na, nb]

theorem FltTells : hyglaw6_FltTells.Pure := by
  intro a b ha hb
  have ha := U_of ha
  have hb := U_of hb
  refine ⟨80, ?_⟩
  unfold hyglaw6_FltTells.f
  rw [first_f (by omega), class_f ha, rclass_f ha (by omega), less_f ha hb, rless_f ha hb (by omega), equal_f ha hb, requal_f ha hb (by omega), order_f ha hb, rorder_f ha hb (by omega),
    neg_f ha, rnegate_f ha, min_f ha hb, rmin_f ha hb (by omega), max_f ha hb, rmax_f ha hb (by omega)]
  simp

end Go.Proofs.Ytmljncgglpckcaa.Pure
