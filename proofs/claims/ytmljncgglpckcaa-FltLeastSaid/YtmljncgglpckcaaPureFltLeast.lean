/- FltLeast: of any two 64-bit words the program's Min and Max are both of the two, in order, and of a NaN and a number the number. No condition. -/
import Derived.Test.YtmljncgglpckcaaPFltLeastx3
import Derived.Test.YtmljncgglpckcaaFl0
import Derived.Test.YtmljncgglpckcaaFl1
namespace Go.Proofs.Ytmljncgglpckcaa.Pure
open Go.RowKit Go.Proofs.Ytmljncgglpckcaa.PFltLeast Go.Proofs.YtmljncgglpckcaaW.PrintWords Go.Proofs.YtmljncgglpckcaaW.PrintLast Go.Proofs.YtmljncgglpckcaaW.PrintMore Go.Proofs.Ytmljncgglpckcaa.Fl

/-! ### flt: what each function tells, as arithmetic -/
def ik (x : Int) : Int := if x < 9223372036854775808 then x else 9223372036854775808 - x
def rk (x : Int) : Int := if x < 9223372036854775808 then x + 9223372036854775808 else 18446744073709551615 - x
def isNan (x : Int) : Prop := x % 9223372036854775808 > 9218868437227405312
instance (x : Int) : Decidable (isNan x) := by unfold isNan; infer_instance
def U (x : Int) : Prop := 0 ≤ x ∧ x < 18446744073709551616

theorem U_of {x : Int} (h : (Lit.int .u64 x).wf = true) : U x := by
  simp [Lit.wf, IntKind.min, IntKind.max, IntKind.bits, IntKind.signed] at h
  unfold U; omega

theorem size_f {x : Int} (h : U x) : flt_size.f x = some (x % 9223372036854775808) := by
  unfold flt_size.f; rw [andNot_sign h.1 h.2]

theorem nan_f {x : Int} (h : U x) : flt_nan.f x = some (decide (isNan x)) := by
  unfold flt_nan.f; rw [size_f h]; rfl

theorem rank_f {x : Int} (h : U x) : flt_rank.f x = some (rk x) := by
  have h1 := h.1; have h2 := h.2
  unfold flt_rank.f rk
  rw [and_sign h1 h2, xor_all h1 h2]
  by_cases hx : x < 9223372036854775808
  · rw [or_sign h1 hx, if_neg (by omega), if_pos hx]
  · rw [if_pos (by omega), if_neg hx]

theorem compare_f (a b : Int) : cmp_Compare_uint64.f a b = some (if a < b then -1 else if a > b then 1 else 0) := by
  unfold cmp_Compare_uint64.f cmp_isNaN_uint64.f
  simp
  split
  · rfl
  · split <;> rfl

theorem order_f {a b : Int} (ha : U a) (hb : U b) : flt_Order.f a b = some (if rk a < rk b then -1 else if rk a > rk b then 1 else 0) := by
  unfold flt_Order.f; rw [rank_f ha, rank_f hb]; simp only [Option.bind_some]; rw [compare_f]; rfl

theorem equal_f {a b : Int} (ha : U a) (hb : U b) : flt_Equal.f a b = some (decide (¬ isNan a ∧ ¬ isNan b ∧ ik a = ik b)) := by
  unfold flt_Equal.f
  rw [nan_f ha, nan_f hb]
  simp only [Option.bind_some]
  obtain ⟨o1, o2, o3⟩ := or_size_zero ha.1 ha.2 hb.1 hb.2
  rw [size_f ⟨o1, o2⟩]
  have a1 := ha.1; have a2 := ha.2; have b1 := hb.1; have b2 := hb.2
  by_cases na : isNan a
  · simp [na]
  · by_cases nb : isNan b
    · simp [na, nb]
    · by_cases e : a = b
      · subst e; simp [na]
      · simp only [na, nb, decide_false, Bool.false_eq_true, if_false, if_neg e, Option.bind_some]
        congr 1
        rw [Bool.eq_iff_iff, beq_iff_eq, o3, decide_eq_true_iff]
        simp only [not_false_iff, true_and]
        unfold ik
        split <;> split <;> omega

theorem less_f {a b : Int} (ha : U a) (hb : U b) : flt_Less.f a b = some (decide (¬ isNan a ∧ ¬ isNan b ∧ ik a < ik b)) := by
  unfold flt_Less.f
  rw [nan_f ha, nan_f hb, equal_f ha hb, order_f ha hb]
  simp only [Option.bind_some]
  have a1 := ha.1; have a2 := ha.2; have b1 := hb.1; have b2 := hb.2
  by_cases na : isNan a
  · simp [na]
  · by_cases nb : isNan b
    · simp [na, nb]
    · simp only [na, nb, decide_false, Bool.false_eq_true, if_false, not_false_iff, true_and, decide_eq_true_iff]
      by_cases e : ik a = ik b
      · rw [if_pos e]; simp [e]
      · rw [if_neg e]
        congr 1
        rw [Bool.eq_iff_iff, decide_eq_true_iff, decide_eq_true_iff]
        unfold ik at *
        unfold rk
        repeat' split
        all_goals (repeat' split at *)
        all_goals omega

def cls (x : Int) : Int := if x % 9223372036854775808 > 9218868437227405312 then 4 else if x % 9223372036854775808 = 9218868437227405312 then 3 else if x % 9223372036854775808 ≥ 4503599627370496 then 2 else if x % 9223372036854775808 > 0 then 1 else 0

theorem class_f {x : Int} (h : U x) : flt_Class.f x = some (cls x) := by
  unfold flt_Class.f cls; rw [size_f h]; simp only [Option.bind_some]
  repeat' split
  all_goals rfl

theorem cls_nan (x : Int) : cls x = 4 ↔ isNan x := by
  unfold cls isNan; repeat' split
  all_goals omega

theorem other_f {a b : Int} (ha : U a) (hb : U b) : flt_other.f a b = some (decide (isNan a ∧ ¬ isNan b)) := by
  unfold flt_other.f; rw [nan_f ha, nan_f hb]; simp only [Option.bind_some]
  by_cases na : isNan a <;> by_cases nb : isNan b <;> simp [na, nb]

def lessP (a b : Int) : Prop := ¬ isNan a ∧ ¬ isNan b ∧ ik a < ik b
instance (a b : Int) : Decidable (lessP a b) := by unfold lessP; infer_instance
def minV (a b : Int) : Int := if lessP b a ∨ (isNan a ∧ ¬ isNan b) then b else a
def maxV (a b : Int) : Int := if lessP a b ∨ (isNan a ∧ ¬ isNan b) then b else a

theorem min_f {a b : Int} (ha : U a) (hb : U b) : flt_Min.f a b = some (minV a b) := by
  unfold flt_Min.f minV; rw [less_f hb ha, other_f ha hb]; simp only [Option.bind_some, decide_eq_true_iff]
  change (if lessP b a then some b else _) = _
  by_cases h1 : lessP b a
  · rw [if_pos h1, if_pos (Or.inl h1)]
  · rw [if_neg h1]
    by_cases h2 : isNan a ∧ ¬ isNan b
    · rw [if_pos h2, if_pos (Or.inr h2)]
    · rw [if_neg h2, if_neg (by rintro (h | h) <;> contradiction)]

theorem max_f {a b : Int} (ha : U a) (hb : U b) : flt_Max.f a b = some (maxV a b) := by
  unfold flt_Max.f maxV; rw [less_f ha hb, other_f ha hb]; simp only [Option.bind_some, decide_eq_true_iff]
  change (if lessP a b then some b else _) = _
  by_cases h1 : lessP a b
  · rw [if_pos h1, if_pos (Or.inl h1)]
  · rw [if_neg h1]
    by_cases h2 : isNan a ∧ ¬ isNan b
    · rw [if_pos h2, if_pos (Or.inr h2)]
    · rw [if_neg h2, if_neg (by rintro (h | h) <;> contradiction)]

theorem first_at : hyglaw6_first.f 80 = some true := by decide +kernel
theorem mono_up {f : Nat → Option Bool} (hm : ∀ k, LeO (f k) (f (k + 1))) {k0 : Nat} {r : Bool} (h : f k0 = some r) (d : Nat) : f (k0 + d) = some r := by
  induction d with
  | zero => exact h
  | succ d ih => exact hm _ _ ih
theorem first_f {k : Nat} (h : 80 ≤ k) : hyglaw6_first.f k = some true := by
  obtain ⟨d, rfl⟩ : ∃ d, k = 80 + d := ⟨k - 80, by omega⟩
  exact mono_up hyglaw6_first.mono first_at d

theorem lessf_f {a b : Int} (ha : U a) (hb : U b) : flt_Less.f a b = some (decide (lessP a b)) := less_f ha hb
theorem less_self (a : Int) : ¬ lessP a a := fun h => by have := h.2.2; omega
theorem less_asym {a b : Int} (h : lessP a b) : ¬ lessP b a := fun g => by have := h.2.2; have := g.2.2; omega

/-- of two that are numbers and not alike one is the lesser, and the other the greater -/
theorem minmax_num {a b : Int} (na : ¬ isNan a) (nb : ¬ isNan b) (h : ik a ≠ ik b) : (lessP a b ∧ minV a b = a ∧ maxV a b = b) ∨ (lessP b a ∧ minV a b = b ∧ maxV a b = a) := by
  unfold minV maxV
  rcases Int.lt_or_gt_of_ne h with c | c
  · left
    have l : lessP a b := ⟨na, nb, c⟩
    refine ⟨l, ?_, ?_⟩
    · rw [if_neg]; rintro (z | z)
      · exact less_asym l z
      · exact na z.1
    · rw [if_pos (Or.inl l)]
  · right
    have l : lessP b a := ⟨nb, na, c⟩
    refine ⟨l, ?_, ?_⟩
    · rw [if_pos (Or.inl l)]
    · rw [if_neg]; rintro (z | z)
      · exact less_asym l z
      · exact na z.1

theorem minmax_same {a b : Int} (h : isNan b ∨ (¬ isNan a ∧ ik a = ik b)) : minV a b = a ∧ maxV a b = a := by
  unfold minV maxV
  constructor
  · rw [if_neg]; rintro (z | z)
    · rcases h with h | h
      · exact z.1 h
      · have := z.2.2; omega
    · rcases h with h | h
      · exact z.2 h
      · exact h.1 z.1
  · rw [if_neg]; rintro (z | z)
    · rcases h with h | h
      · exact z.2.1 h
      · have := z.2.2; omega
    · rcases h with h | h
      · exact z.2 h
      · exact h.1 z.1

theorem minmax_other {a b : Int} (na : isNan a) (nb : ¬ isNan b) : minV a b = b ∧ maxV a b = b := by
  unfold minV maxV
  exact ⟨if_pos (Or.inr ⟨na, nb⟩), if_pos (Or.inr ⟨na, nb⟩)⟩

theorem lj1 {k : Nat} {a b : Int} (ha : U a) (hb : U b) (hk : 81 ≤ k) : hyglaw6_FltLeast.j1 k a b (minV a b) (maxV a b) (decide (isNan b)) (decide (isNan a ∧ ¬ isNan b)) = some true := by
  obtain ⟨k, rfl⟩ : ∃ z, k = z + 1 := ⟨k - 1, by omega⟩
  simp only [hyglaw6_FltLeast.j1]
  rw [first_f (by omega), equal_f ha hb]
  simp only [Option.bind_some, if_true, decide_eq_true_iff]
  by_cases na : isNan a
  · by_cases nb : isNan b
    · obtain ⟨e1, e2⟩ := minmax_same (a := a) (Or.inl nb)
      rw [if_neg (fun h => h.2 nb), if_pos nb, e1, e2, if_pos rfl]; simp
    · obtain ⟨e1, e2⟩ := minmax_other na nb
      rw [if_pos ⟨na, nb⟩, e1, e2, if_pos rfl]; simp
  · rw [if_neg (fun h => na h.1)]
    by_cases nb : isNan b
    · obtain ⟨e1, e2⟩ := minmax_same (a := a) (Or.inl nb)
      rw [if_pos nb, e1, e2, if_pos rfl]; simp
    · rw [if_neg nb]
      by_cases e : ik a = ik b
      · obtain ⟨e1, e2⟩ := minmax_same (a := a) (Or.inr ⟨na, e⟩)
        rw [if_pos ⟨na, nb, e⟩, e1, e2, if_pos rfl]; simp
      · rw [if_neg (fun h => e h.2.2)]
        rcases minmax_num na nb e with ⟨l, e1, e2⟩ | ⟨l, e1, e2⟩
        · rw [e1, e2]
          have hne : a ≠ b := fun z => e (by rw [z])
          rw [if_neg hne, lessf_f ha ha, lessf_f hb ha, lessf_f hb hb]
          have n1 := less_self a; have n2 := less_self b; have n3 := less_asym l
          simp [n1, n2, n3]
        · rw [e1, e2]
          have hne : b ≠ a := fun z => e (by rw [z])
          rw [if_neg hne, lessf_f ha hb, lessf_f hb hb, lessf_f ha ha]
          have n1 := less_self a; have n2 := less_self b; have n3 := less_asym l
          simp [n1, n2, n3]

theorem lj0 {k : Nat} {a b : Int} (ha : U a) (hb : U b) (hk : 82 ≤ k) : hyglaw6_FltLeast.j0 k a b (minV a b) (maxV a b) false = some true := by
  obtain ⟨k, rfl⟩ : ∃ z, k = z + 1 := ⟨k - 1, by omega⟩
  simp only [hyglaw6_FltLeast.j0, Bool.false_eq_true, if_false]
  rw [class_f ha, class_f hb]
  simp only [Option.bind_some, cls_nan]
  have h := lj1 (k := k) ha hb (by omega)
  have e : (cls b == 4) = decide (isNan b) := by rw [Bool.eq_iff_iff, beq_iff_eq, decide_eq_true_iff, cls_nan]
  rw [e]
  by_cases na : isNan a
  · rw [if_pos na]
    have e2 : decide (isNan a ∧ ¬ isNan b) = !decide (isNan b) := by by_cases nb : isNan b <;> simp [na, nb]
    rw [e2] at h; exact h
  · rw [if_neg na]
    have e2 : decide (isNan a ∧ ¬ isNan b) = false := by simp [na]
    rw [e2] at h; exact h

theorem FltLeast : hyglaw6_FltLeast.Pure := by
  intro a b ha hb
  have ha := U_of ha
  have hb := U_of hb
  refine ⟨100, ?_⟩
  unfold hyglaw6_FltLeast.f
  rw [first_f (by omega), min_f ha hb, max_f ha hb]
  simp only [Option.bind_some, if_true]
  have j := lj0 (k := 100) ha hb (by omega)
  have hmin : minV a b = a ∨ minV a b = b := by unfold minV; split <;> simp
  have hmax : maxV a b = a ∨ maxV a b = b := by unfold maxV; split <;> simp
  have hless : ¬ lessP (maxV a b) (minV a b) := by
    by_cases nb : isNan b
    · obtain ⟨e1, e2⟩ := minmax_same (a := a) (Or.inl nb); rw [e1, e2]; exact less_self a
    · by_cases na : isNan a
      · obtain ⟨e1, e2⟩ := minmax_other na nb; rw [e1, e2]; exact less_self b
      · by_cases e : ik a = ik b
        · obtain ⟨e1, e2⟩ := minmax_same (a := a) (Or.inr ⟨na, e⟩); rw [e1, e2]; exact less_self a
        · rcases minmax_num na nb e with ⟨l, e1, e2⟩ | ⟨l, e1, e2⟩
          · rw [e1, e2]; exact less_asym l
          · rw [e1, e2]; exact less_asym l
  have U1 : U (minV a b) := by rcases hmin with e | e <;> rw [e] <;> assumption
  have U2 : U (maxV a b) := by rcases hmax with e | e <;> rw [e] <;> assumption
  have hl : flt_Less.f (maxV a b) (minV a b) = some false := by rw [lessf_f U2 U1]; simp [hless]
  rw [hl]
  simp only [Option.bind_some]
  by_cases c1 : minV a b = a
  · rw [if_pos c1]
    by_cases c2 : maxV a b = a
    · rw [if_pos c2]; exact j
    · rw [if_neg c2]
      rcases hmax with e | e
      · exact absurd e c2
      · rw [if_pos e]; exact j
  · rw [if_neg c1]
    rcases hmin with e | e
    · exact absurd e c1
    · rw [if_pos e]
      by_cases c2 : maxV a b = a
      · rw [if_pos c2]; exact j
      · rw [if_neg c2]
        rcases hmax with e | e
        · exact absurd e c2
        · rw [if_pos e]; exact j

end Go.Proofs.Ytmljncgglpckcaa.Pure
