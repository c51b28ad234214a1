/- FltOrder: over any three 64-bit words the program's Order is a total order that goes with Less and Equal and is turned about by Neg. No condition. -/
import Derived.Test.YtmljncgglpckcaaPFltOrderx3
import Derived.Test.YtmljncgglpckcaaFl0
import Derived.Test.YtmljncgglpckcaaFl1
namespace Go.Proofs.Ytmljncgglpckcaa.Pure
open Go.RowKit Go.Proofs.Ytmljncgglpckcaa.PFltOrder Go.Proofs.YtmljncgglpckcaaW.PrintWords Go.Proofs.YtmljncgglpckcaaW.PrintLast Go.Proofs.YtmljncgglpckcaaW.PrintMore Go.Proofs.Ytmljncgglpckcaa.Fl

/-! ### flt: what each function tells, as arithmetic -/
def ik (x : Int) : Int := if x < 9223372036854775808 then x else 9223372036854775808 - x
def rk (x : Int) : Int := if x < 9223372036854775808 then x + 9223372036854775808 else 18446744073709551615 - x
def isNan (x : Int) : Prop := x % 9223372036854775808 > 9218868437227405312
instance (x : Int) : Decidable (isNan x) := by unfold isNan; infer_instance
def U (x : Int) : Prop := 0 ≤ x ∧ x < 18446744073709551616

theorem U_of {x : Int} (h : (Lit.int .u64 x).wf = true) : U x := by
  simp [Lit.wf, IntKind.min, IntKind.max, IntKind.bits, IntKind.signed] at h
  unfold U; omega

theorem size_f {x : Int} (h : U x) : flt_size.f x = some (x % 9223372036854775808) := by
  unfold flt_size.f; rw [andNot_sign h.1 h.2]

theorem nan_f {x : Int} (h : U x) : flt_nan.f x = some (decide (isNan x)) := by
  unfold flt_nan.f; rw [size_f h]; rfl

theorem rank_f {x : Int} (h : U x) : flt_rank.f x = some (rk x) := by
  have h1 := h.1; have h2 := h.2
  unfold flt_rank.f rk
  rw [and_sign h1 h2, xor_all h1 h2]
  by_cases hx : x < 9223372036854775808
  · rw [or_sign h1 hx, if_neg (by omega), if_pos hx]
  · rw [if_pos (by omega), if_neg hx]

theorem compare_f (a b : Int) : cmp_Compare_uint64.f a b = some (if a < b then -1 else if a > b then 1 else 0) := by
  unfold cmp_Compare_uint64.f cmp_isNaN_uint64.f
  simp
  split
  · rfl
  · split <;> rfl

theorem order_f {a b : Int} (ha : U a) (hb : U b) : flt_Order.f a b = some (if rk a < rk b then -1 else if rk a > rk b then 1 else 0) := by
  unfold flt_Order.f; rw [rank_f ha, rank_f hb]; simp only [Option.bind_some]; rw [compare_f]; rfl

theorem equal_f {a b : Int} (ha : U a) (hb : U b) : flt_Equal.f a b = some (decide (¬ isNan a ∧ ¬ isNan b ∧ ik a = ik b)) := by
  unfold flt_Equal.f
  rw [nan_f ha, nan_f hb]
  simp only [Option.bind_some]
  obtain ⟨o1, o2, o3⟩ := or_size_zero ha.1 ha.2 hb.1 hb.2
  rw [size_f ⟨o1, o2⟩]
  have a1 := ha.1; have a2 := ha.2; have b1 := hb.1; have b2 := hb.2
  by_cases na : isNan a
  · simp [na]
  · by_cases nb : isNan b
    · simp [na, nb]
    · by_cases e : a = b
      · subst e; simp [na]
      · simp only [na, nb, decide_false, Bool.false_eq_true, if_false, if_neg e, Option.bind_some]
        congr 1
        rw [Bool.eq_iff_iff, beq_iff_eq, o3, decide_eq_true_iff]
        simp only [not_false_iff, true_and]
        unfold ik
        split <;> split <;> omega

theorem less_f {a b : Int} (ha : U a) (hb : U b) : flt_Less.f a b = some (decide (¬ isNan a ∧ ¬ isNan b ∧ ik a < ik b)) := by
  unfold flt_Less.f
  rw [nan_f ha, nan_f hb, equal_f ha hb, order_f ha hb]
  simp only [Option.bind_some]
  have a1 := ha.1; have a2 := ha.2; have b1 := hb.1; have b2 := hb.2
  by_cases na : isNan a
  · simp [na]
  · by_cases nb : isNan b
    · simp [na, nb]
    · simp only [na, nb, decide_false, Bool.false_eq_true, if_false, not_false_iff, true_and, decide_eq_true_iff]
      by_cases e : ik a = ik b
      · rw [if_pos e]; simp [e]
      · rw [if_neg e]
        congr 1
        rw [Bool.eq_iff_iff, decide_eq_true_iff, decide_eq_true_iff]
        unfold ik at *
        unfold rk
        repeat' split
        all_goals (repeat' split at *)
        all_goals omega

def cls (x : Int) : Int := if x % 9223372036854775808 > 9218868437227405312 then 4 else if x % 9223372036854775808 = 9218868437227405312 then 3 else if x % 9223372036854775808 ≥ 4503599627370496 then 2 else if x % 9223372036854775808 > 0 then 1 else 0

theorem class_f {x : Int} (h : U x) : flt_Class.f x = some (cls x) := by
  unfold flt_Class.f cls; rw [size_f h]; simp only [Option.bind_some]
  repeat' split
  all_goals rfl

theorem cls_nan (x : Int) : cls x = 4 ↔ isNan x := by
  unfold cls isNan; repeat' split
  all_goals omega

def ng (x : Int) : Int := if x < 9223372036854775808 then x + 9223372036854775808 else x - 9223372036854775808
theorem neg_f {x : Int} (h : U x) : flt_Neg.f x = some (ng x) := by
  unfold flt_Neg.f ng; rw [xor_sign h.1 h.2]
theorem ng_U {x : Int} (h : U x) : U (ng x) := by unfold U ng at *; split <;> omega

theorem first_at : hyglaw6_first.f 80 = some true := by decide +kernel
theorem mono_up {f : Nat → Option Bool} (hm : ∀ k, LeO (f k) (f (k + 1))) {k0 : Nat} {r : Bool} (h : f k0 = some r) (d : Nat) : f (k0 + d) = some r := by
  induction d with
  | zero => exact h
  | succ d ih => exact hm _ _ ih
theorem first_f {k : Nat} (h : 80 ≤ k) : hyglaw6_first.f k = some true := by
  obtain ⟨d, rfl⟩ : ∃ d, k = 80 + d := ⟨k - 80, by omega⟩
  exact mono_up hyglaw6_first.mono first_at d

def od (a b : Int) : Int := if rk a < rk b then -1 else if rk a > rk b then 1 else 0
theorem od_f {a b : Int} (ha : U a) (hb : U b) : flt_Order.f a b = some (od a b) := order_f ha hb
theorem rk_ng {a : Int} (ha : U a) : rk (ng a) = 18446744073709551615 - rk a := by
  have h1 := ha.1; have h2 := ha.2
  unfold rk ng; split <;> split <;> omega
theorem od_ng {a b : Int} (ha : U a) (hb : U b) : od (ng a) (ng b) = -od a b := by
  unfold od; rw [rk_ng ha, rk_ng hb]; split <;> split <;> (repeat' split) <;> omega
theorem od_turn (a b : Int) : od b a = -od a b := by
  unfold od; split <;> split <;> (repeat' split) <;> omega
theorem od_range (a b : Int) : -1 ≤ od a b ∧ od a b ≤ 1 := by unfold od; split <;> (repeat' split) <;> omega
theorem od_zero {a b : Int} (ha : U a) (hb : U b) : od a b = 0 ↔ a = b := by
  have h1 := ha.1; have h2 := ha.2; have h3 := hb.1; have h4 := hb.2
  constructor
  · intro h
    have e : rk a = rk b := by
      unfold od at h
      (repeat' split at h) <;> omega
    unfold rk at e
    (repeat' split at e) <;> omega
  · intro h; subst h; unfold od; simp
theorem od_trans {a b c : Int} : (od a b ≤ 0 → od b c ≤ 0 → od a c ≤ 0) ∧ (0 ≤ od a b → 0 ≤ od b c → 0 ≤ od a c) := by
  unfold od; repeat' split
  all_goals omega
theorem nan_ng {a : Int} (ha : U a) : isNan (ng a) ↔ isNan a := by
  have h1 := ha.1; have h2 := ha.2
  unfold isNan ng; split <;> omega
theorem ik_ng {a : Int} (ha : U a) : ik (ng a) = -ik a := by
  have h1 := ha.1; have h2 := ha.2
  unfold ik ng; split <;> split <;> omega
theorem less_od {a b : Int} (ha : U a) (hb : U b) (h : ik a < ik b) : od a b = -1 := by
  have h1 := ha.1; have h2 := ha.2; have h3 := hb.1; have h4 := hb.2
  have : rk a < rk b := by
    unfold ik at h; unfold rk
    (repeat' split at h) <;> (repeat' split) <;> omega
  unfold od; rw [if_pos this]
theorem ng_ng {a : Int} (ha : U a) : ng (ng a) = a := by
  have h1 := ha.1; have h2 := ha.2
  unfold ng; split <;> split <;> omega

theorem oj3 {k : Nat} {a b : Int} (ha : U a) (hb : U b) (hk : 81 ≤ k) {nan one : Bool} (h : (one != nan) = true) : hyglaw6_FltOrder.j3 k a b (od a b) nan one = some true := by
  obtain ⟨k, rfl⟩ : ∃ z, k = z + 1 := ⟨k - 1, by omega⟩
  have r := od_range a b
  simp only [hyglaw6_FltOrder.j3]
  rw [first_f (by omega)]
  simp only [Option.bind_some, if_true]
  rw [if_pos h, neg_f ha, neg_f hb]
  simp only [Option.bind_some]
  rw [od_f (ng_U ha) (ng_U hb), od_ng ha hb, wrap64_in (by omega) (by omega)]
  simp only [Option.bind_some, if_true]
  rw [neg_f (ng_U ha), ng_ng ha, less_f ha hb, less_f (ng_U hb) (ng_U ha)]
  simp only [Option.bind_some, if_true, nan_ng ha, nan_ng hb, ik_ng ha, ik_ng hb]
  congr 1
  rw [beq_iff_eq, Bool.eq_iff_iff, decide_eq_true_iff, decide_eq_true_iff]
  constructor
  · rintro ⟨x, y, z⟩; exact ⟨y, x, by omega⟩
  · rintro ⟨x, y, z⟩; exact ⟨y, x, by omega⟩

theorem oj2 {k : Nat} {a b : Int} (ha : U a) (hb : U b) (hk : 82 ≤ k) : hyglaw6_FltOrder.j2 k a b (od a b) (decide (isNan a ∨ isNan b)) = some true := by
  obtain ⟨k, rfl⟩ : ∃ z, k = z + 1 := ⟨k - 1, by omega⟩
  simp only [hyglaw6_FltOrder.j2]
  rw [less_f ha hb, less_f hb ha, equal_f ha hb]
  simp only [Option.bind_some, decide_eq_true_iff]
  by_cases na : isNan a
  · rw [if_neg (fun h => h.1 na), if_neg (fun h => h.2.1 na)]
    exact oj3 ha hb (by omega) (by simp [na])
  · by_cases nb : isNan b
    · rw [if_neg (fun h => h.2.1 nb), if_neg (fun h => h.1 nb)]
      exact oj3 ha hb (by omega) (by simp [nb])
    · by_cases c1 : ik a < ik b
      · rw [if_pos ⟨na, nb, c1⟩]; exact oj3 ha hb (by omega) (by simp [na, nb])
      · rw [if_neg (fun h => c1 h.2.2)]
        by_cases c2 : ik b < ik a
        · rw [if_pos ⟨nb, na, c2⟩]; exact oj3 ha hb (by omega) (by simp [na, nb])
        · rw [if_neg (fun h => c2 h.2.2)]
          have e : ik a = ik b := by omega
          exact oj3 ha hb (by omega) (by simp [na, nb, e])

theorem oj1 {k : Nat} {a b : Int} (ha : U a) (hb : U b) (hk : 83 ≤ k) : hyglaw6_FltOrder.j1 k a b (od a b) false = some true := by
  obtain ⟨k, rfl⟩ : ∃ z, k = z + 1 := ⟨k - 1, by omega⟩
  simp only [hyglaw6_FltOrder.j1, Bool.false_eq_true, if_false]
  rw [class_f ha, class_f hb]
  simp only [Option.bind_some, cls_nan]
  by_cases na : isNan a
  · rw [if_pos na]
    have := oj2 (k := k) ha hb (by omega)
    rw [decide_eq_true (Or.inl na : isNan a ∨ isNan b)] at this
    exact this
  · rw [if_neg na]
    have := oj2 (k := k) ha hb (by omega)
    have e : decide (isNan a ∨ isNan b) = (cls b == 4) := by
      rw [Bool.eq_iff_iff, decide_eq_true_iff, beq_iff_eq, cls_nan]; simp [na]
    rw [e] at this
    exact this

theorem oj0 {k : Nat} {a b : Int} (ha : U a) (hb : U b) (hk : 84 ≤ k) : hyglaw6_FltOrder.j0 k a b (od a b) false = some true := by
  obtain ⟨k, rfl⟩ : ∃ z, k = z + 1 := ⟨k - 1, by omega⟩
  simp only [hyglaw6_FltOrder.j0, Bool.false_eq_true, if_false]
  rw [less_f ha hb, less_f hb ha, equal_f ha hb]
  simp only [Option.bind_some, decide_eq_true_iff]
  have j1 := oj1 (k := k) ha hb (by omega)
  by_cases c : ¬ isNan a ∧ ¬ isNan b ∧ ik a < ik b
  · obtain ⟨na, nb, hl⟩ := c
    rw [if_pos ⟨na, nb, hl⟩, if_pos (less_od ha hb hl), if_neg (fun h => by have := h.2.2; omega)]
    have e : decide (¬ isNan a ∧ ¬ isNan b ∧ ik a = ik b) = false := by
      rw [decide_eq_false_iff_not]; rintro ⟨_, _, z⟩; omega
    rw [e]; exact j1
  · rw [if_neg c]; exact j1

theorem FltOrder : hyglaw6_FltOrder.Pure := by
  intro a b c ha hb hc
  have ha := U_of ha
  have hb := U_of hb
  have hc := U_of hc
  refine ⟨100, ?_⟩
  unfold hyglaw6_FltOrder.f
  rw [first_f (by omega), od_f ha hb, od_f hb hc, od_f ha hc, od_f hb ha, od_turn a b]
  simp only [Option.bind_some, if_true]
  have j0 := oj0 (k := 100) ha hb (by omega)
  have r := od_range a b
  have r2 := od_range b c
  have r3 := od_range a c
  have tr := @od_trans a b c
  have z := od_zero ha hb
  rw [if_neg (by omega), if_neg (by omega), wrap64_in (by omega) (by omega), if_pos (by omega)]
  have e : ((od a b == 0) != (a == b)) = false := by
    rw [bne_eq_false_iff_eq, Bool.eq_iff_iff, beq_iff_eq, beq_iff_eq]; exact z
  rw [e, if_neg (by decide)]
  generalize od a b = x at *
  generalize od b c = y at *
  generalize od a c = w at *
  have hd : (0 ≤ x ∧ 0 ≤ y) → decide (w < 0) = false := fun h => by rw [decide_eq_false_iff_not]; omega
  by_cases c1 : x ≤ 0
  · rw [if_pos c1]
    by_cases c2 : y ≤ 0
    · rw [if_pos c2, if_neg (by omega)]
      by_cases c3 : x ≥ 0
      · rw [if_pos c3]
        by_cases c4 : y ≥ 0
        · rw [if_pos c4, hd ⟨c3, c4⟩]; exact j0
        · rw [if_neg c4]; exact j0
      · rw [if_neg c3]; exact j0
    · rw [if_neg c2]
      by_cases c3 : x ≥ 0
      · rw [if_pos c3]
        by_cases c4 : y ≥ 0
        · rw [if_pos c4, hd ⟨c3, c4⟩]; exact j0
        · rw [if_neg c4]; exact j0
      · rw [if_neg c3]; exact j0
  · rw [if_neg c1]
    by_cases c3 : x ≥ 0
    · rw [if_pos c3]
      by_cases c4 : y ≥ 0
      · rw [if_pos c4, hd ⟨c3, c4⟩]; exact j0
      · rw [if_neg c4]; exact j0
    · rw [if_neg c3]; exact j0

end Go.Proofs.Ytmljncgglpckcaa.Pure
