/- FaddNear: of two doubles of one sign, the first normal and no less in size, the program's Add lies between the first and twice it; what is far less changes nothing; halves go to the even one. No condition but the law's own guard. -/
import Derived.Test.YtmljncgglpckcaaPFaddNearx3
import Derived.Test.YtmljncgglpckcaaFl0
import Derived.Test.YtmljncgglpckcaaFl1
namespace Go.Proofs.Ytmljncgglpckcaa.Pure
open Go.RowKit Go.Proofs.Ytmljncgglpckcaa.PFaddNear Go.Proofs.YtmljncgglpckcaaW.PrintWords Go.Proofs.YtmljncgglpckcaaW.PrintLast Go.Proofs.YtmljncgglpckcaaW.PrintMore Go.Proofs.Ytmljncgglpckcaa.Fl

/-! ### flt: what each function tells, as arithmetic -/
def ik (x : Int) : Int := if x < 9223372036854775808 then x else 9223372036854775808 - x
def isNan (x : Int) : Prop := x % 9223372036854775808 > 9218868437227405312
instance (x : Int) : Decidable (isNan x) := by unfold isNan; infer_instance
def U (x : Int) : Prop := 0 ≤ x ∧ x < 18446744073709551616

theorem U_of {x : Int} (h : (Lit.int .u64 x).wf = true) : U x := by
  simp [Lit.wf, IntKind.min, IntKind.max, IntKind.bits, IntKind.signed] at h
  unfold U; omega

theorem size_f {x : Int} (h : U x) : flt_size.f x = some (x % 9223372036854775808) := by
  unfold flt_size.f; rw [andNot_sign h.1 h.2]


def rk (x : Int) : Int := if x < 9223372036854775808 then x + 9223372036854775808 else 18446744073709551615 - x
theorem nan_f {x : Int} (h : U x) : flt_nan.f x = some (decide (isNan x)) := by
  unfold flt_nan.f; rw [size_f h]; rfl

theorem rank_f {x : Int} (h : U x) : flt_rank.f x = some (rk x) := by
  have h1 := h.1; have h2 := h.2
  unfold flt_rank.f rk
  rw [and_sign h1 h2, xor_all h1 h2]
  by_cases hx : x < 9223372036854775808
  · rw [or_sign h1 hx, if_neg (by omega), if_pos hx]
  · rw [if_pos (by omega), if_neg hx]

theorem compare_f (a b : Int) : cmp_Compare_uint64.f a b = some (if a < b then -1 else if a > b then 1 else 0) := by
  unfold cmp_Compare_uint64.f cmp_isNaN_uint64.f
  simp
  split
  · rfl
  · split <;> rfl

theorem order_f {a b : Int} (ha : U a) (hb : U b) : flt_Order.f a b = some (if rk a < rk b then -1 else if rk a > rk b then 1 else 0) := by
  unfold flt_Order.f; rw [rank_f ha, rank_f hb]; simp only [Option.bind_some]; rw [compare_f]; rfl

theorem equal_f {a b : Int} (ha : U a) (hb : U b) : flt_Equal.f a b = some (decide (¬ isNan a ∧ ¬ isNan b ∧ ik a = ik b)) := by
  unfold flt_Equal.f
  rw [nan_f ha, nan_f hb]
  simp only [Option.bind_some]
  obtain ⟨o1, o2, o3⟩ := or_size_zero ha.1 ha.2 hb.1 hb.2
  rw [size_f ⟨o1, o2⟩]
  have a1 := ha.1; have a2 := ha.2; have b1 := hb.1; have b2 := hb.2
  by_cases na : isNan a
  · simp [na]
  · by_cases nb : isNan b
    · simp [na, nb]
    · by_cases e : a = b
      · subst e; simp [na]
      · simp only [na, nb, decide_false, Bool.false_eq_true, if_false, if_neg e, Option.bind_some]
        congr 1
        rw [Bool.eq_iff_iff, beq_iff_eq, o3, decide_eq_true_iff]
        simp only [not_false_iff, true_and]
        unfold ik
        split <;> split <;> omega

theorem less_f {a b : Int} (ha : U a) (hb : U b) : flt_Less.f a b = some (decide (¬ isNan a ∧ ¬ isNan b ∧ ik a < ik b)) := by
  unfold flt_Less.f
  rw [nan_f ha, nan_f hb, equal_f ha hb, order_f ha hb]
  simp only [Option.bind_some]
  have a1 := ha.1; have a2 := ha.2; have b1 := hb.1; have b2 := hb.2
  by_cases na : isNan a
  · simp [na]
  · by_cases nb : isNan b
    · simp [na, nb]
    · simp only [na, nb, decide_false, Bool.false_eq_true, if_false, not_false_iff, true_and, decide_eq_true_iff]
      by_cases e : ik a = ik b
      · rw [if_pos e]; simp [e]
      · rw [if_neg e]
        congr 1
        rw [Bool.eq_iff_iff, decide_eq_true_iff, decide_eq_true_iff]
        unfold ik at *
        unfold rk
        repeat' split
        all_goals (repeat' split at *)
        all_goals omega

def cls (x : Int) : Int := if x % 9223372036854775808 > 9218868437227405312 then 4 else if x % 9223372036854775808 = 9218868437227405312 then 3 else if x % 9223372036854775808 ≥ 4503599627370496 then 2 else if x % 9223372036854775808 > 0 then 1 else 0

theorem class_f {x : Int} (h : U x) : flt_Class.f x = some (cls x) := by
  unfold flt_Class.f cls; rw [size_f h]; simp only [Option.bind_some]
  repeat' split
  all_goals rfl

theorem cls_nan (x : Int) : cls x = 4 ↔ isNan x := by
  unfold cls isNan; repeat' split
  all_goals omega

def INF : Nat := 9218868437227405312
def fin (V : Nat) : Nat := min (near V) INF

/-! ### shifts by a variable count -/
theorem two_pow_pos_int (n : Nat) : (0 : Int) < 2 ^ n := by
  have h : (0 : Int) < ((2 ^ n : Nat) : Int) := by have := Nat.two_pow_pos n; omega
  simpa using h
theorem cast_pow (n : Nat) : ((2 ^ n : Nat) : Int) = (2 : Int) ^ n := by simp
theorem pow_lt_64 {n : Nat} (h : n < 64) : 2 ^ n < 18446744073709551616 := by
  have := Nat.pow_lt_pow_right (a := 2) (by decide) h
  simpa using this
theorem shl_one {n : Nat} (h : n < 64) : shl .u64 1 (n : Int) = ((2 ^ n : Nat) : Int) := by
  unfold shl
  have h1 : min (n : Int).toNat IntKind.u64.bits = n := by have : IntKind.u64.bits = 64 := rfl; omega
  have h2 := pow_lt_64 h
  rw [h1, Int.one_mul, ← cast_pow]
  exact wrap_in (Int.natCast_nonneg _) (by omega)
theorem shl_nat {m n : Nat} (h : n < 64) (hm : m * 2 ^ n < 18446744073709551616) : shl .u64 (m : Int) (n : Int) = ((m * 2 ^ n : Nat) : Int) := by
  unfold shl
  have h1 : min (n : Int).toNat IntKind.u64.bits = n := by have : IntKind.u64.bits = 64 := rfl; omega
  rw [h1, ← cast_pow, ← Int.natCast_mul]
  exact wrap_in (Int.natCast_nonneg _) (by omega)
theorem shr_nat (m : Nat) {n : Nat} (h : n ≤ 64) : shr .u64 (m : Int) (n : Int) = ((m / 2 ^ n : Nat) : Int) := by
  unfold shr
  have h1 : min (n : Int).toNat IntKind.u64.bits = n := by have : IntKind.u64.bits = 64 := rfl; omega
  rw [h1, ← cast_pow]
  simp
theorem mask_nat {m n : Nat} (hm : m < 18446744073709551616) (h : n < 64) : Go.bits .and .u64 (m : Int) (IntKind.u64.wrap (shl .u64 1 (n : Int) - 1)) = ((m % 2 ^ n : Nat) : Int) := by
  have h2 := pow_lt_64 h
  have h3 := Nat.two_pow_pos n
  rw [shl_one h, wrap_in (by omega) (by omega), cast_pow, mask (by omega) (by omega) n (by omega), ← cast_pow]
  simp

/-! ### fadd: the parts of a double, lowered, raised, rounded -/
theorem parted_f {x : Int} (h : U x) {S : Nat} (hS : (S : Int) = x % 9223372036854775808) : fadd_parted.f x = some (((ex S + 1 : Nat) : Int), ((fr S * 8 : Nat) : Int)) := by
  have h1 := h.1; have h2 := h.2
  unfold fadd_parted.f
  rw [andNot_sign h1 h2, ← hS, wrap64_in (n := (S : Int) / 4503599627370496) (by omega) (by omega), and_frac h1 h2, or_hidden (by omega) (by omega)]
  have hex : ex S = S / 4503599627370496 - 1 := rfl
  have hfr : fr S = if S / 4503599627370496 = 0 then S else S % 4503599627370496 + 4503599627370496 := rfl
  by_cases c : S / 4503599627370496 = 0
  · rw [if_neg (by omega), hfr, if_pos c, wrap_in (by omega) (by omega)]
    have e : mx ((S : Int) / 4503599627370496) 1 = ((ex S + 1 : Nat) : Int) := by unfold mx; split <;> omega
    rw [e]; congr 2; omega
  · rw [if_pos (by omega), hfr, if_neg c, wrap_in (by omega) (by omega)]
    have e : mx ((S : Int) / 4503599627370496) 1 = ((ex S + 1 : Nat) : Int) := by unfold mx; split <;> omega
    rw [e]; congr 2; omega

theorem lower_near {e B d : Nat} (he : e < 100000) (hB : B < 2 ^ 63) (hd : d ≤ 63) : fadd_part_lower.f e B d = some (((e + d : Nat) : Int), ((stick B d : Nat) : Int)) := by
  unfold fadd_part_lower.f
  rw [if_neg (by omega), if_pos (by omega), mask_nat (by omega) (by omega), shr_nat B (by omega), wrap64_in (by omega) (by omega)]
  have hq : B / 2 ^ d ≤ B := Nat.div_le_self _ _
  have hq0 : (0 : Int) ≤ ((B / 2 ^ d : Nat) : Int) := Int.natCast_nonneg _
  have hq1 : ((B / 2 ^ d : Nat) : Int) ≤ (B : Int) := Int.ofNat_le.2 hq
  have hm0 : (0 : Int) ≤ ((B % 2 ^ d : Nat) : Int) := Int.natCast_nonneg _
  have e1 : (e : Int) + (d : Int) = ((e + d : Nat) : Int) := by omega
  rw [e1]
  unfold stick
  by_cases c : B % 2 ^ d = 0
  · rw [if_neg (by rw [c]; decide), if_pos c]
  · rw [if_pos (by omega), if_neg c, or_one hq0 (by omega)]
    by_cases c2 : B / 2 ^ d % 2 = 1
    · rw [if_pos c2, if_pos (by omega)]
    · rw [if_neg c2, if_neg (by omega)]; rfl

theorem lower_far {e B : Nat} {d : Int} (he : e < 100000) (hB : B < 2 ^ 63) (hd : 63 < d) : fadd_part_lower.f e B d = some (((e + 63 : Nat) : Int), ((stick B 63 : Nat) : Int)) := by
  have h := lower_near he hB (Nat.le_refl 63)
  rw [← h]
  have e63 : ((63 : Nat) : Int) = 63 := rfl
  unfold fadd_part_lower.f
  rw [if_pos hd, e63, if_neg (show ¬ ((63 : Int) > 63) from by decide), if_pos (show (0 : Int) ≤ 63 from by decide), ← e63, mask_nat (by omega) (by omega), shr_nat B (by omega), e63]
  have e2 : (1 * 9223372036854775808 - 1 : Int) = 9223372036854775807 := by decide
  rw [e2, and_size (by omega) (by omega)]
  have e3 : (B : Int) % 9223372036854775808 = ((B % 2 ^ 63 : Nat) : Int) := by omega
  have e4 : (B : Int) / 9223372036854775808 = ((B / 2 ^ 63 : Nat) : Int) := by omega
  rw [e3, e4]

theorem stick_far {B d : Nat} (hB : B < 2 ^ 63) (hd : 63 ≤ d) : stick B d = stick B 63 := by
  have a : 2 ^ 63 ≤ 2 ^ d := Nat.pow_le_pow_right (by decide) hd
  have q : ∀ c, 63 ≤ c → stick B c = if B = 0 then 0 else 1 := by
    intro c hc
    have a : 2 ^ 63 ≤ 2 ^ c := Nat.pow_le_pow_right (by decide) hc
    unfold stick
    rw [Nat.mod_eq_of_lt (by omega), Nat.div_eq_of_lt (by omega)]
    split
    · rfl
    · rfl
  rw [q d hd, q 63 (Nat.le_refl _)]

theorem lower_bits {e B d : Nat} (he : e < 100000) (hB : B < 2 ^ 63) (hd : d < 100000) : ∃ z : Int, fadd_part_lower.f e B d = some (z, ((stick B d : Nat) : Int)) := by
  rcases Nat.lt_or_ge 63 d with h | h
  · exact ⟨((e + 63 : Nat) : Int), by rw [lower_far he hB (by omega), stick_far (d := d) hB (by omega)]⟩
  · exact ⟨_, lower_near he hB h⟩

theorem pround_f {k B : Nat} (hk : k ≤ 2100) (hB : B < 2 ^ 57) : fadd_part_round.f ((k + 1 : Nat) : Int) B = some ((min (k * 2 ^ 52 + rnd B 3) INF : Nat) : Int) := by
  unfold fadd_part_round.f
  have e1 : IntKind.u64.wrap (IntKind.u64.wrap (wrap64 (((k + 1 : Nat) : Int) - 1)) * 4503599627370496) = (k : Int) * 4503599627370496 := by
    rw [wrap64_in (by omega) (by omega), wrap_in (n := ((k + 1 : Nat) : Int) - 1) (by omega) (by omega), wrap_in (by omega) (by omega)]; omega
  have e2 : IntKind.u64.wrap ((k : Int) * 4503599627370496 + (B : Int) / 8) = (k : Int) * 4503599627370496 + (B : Int) / 8 := wrap_in (by omega) (by omega)
  have e3 : IntKind.u64.wrap ((k : Int) * 4503599627370496 + (B : Int) / 8 + 1) = (k : Int) * 4503599627370496 + (B : Int) / 8 + 1 := wrap_in (by omega) (by omega)
  rw [e1, e2, e3, and_7 (by omega) (by omega), and_1 (by omega) (by omega)]
  have hmn : ∀ a b : Nat, mn (a : Int) (b : Int) = ((min a b : Nat) : Int) := by intro a b; unfold mn; split <;> omega
  have hI : (9218868437227405312 : Int) = ((INF : Nat) : Int) := rfl
  have x0 : (k : Int) * 4503599627370496 + (B : Int) / 8 = ((k * 2 ^ 52 + B / 8 : Nat) : Int) := by omega
  have x1 : (k : Int) * 4503599627370496 + (B : Int) / 8 + 1 = ((k * 2 ^ 52 + (B / 8 + 1) : Nat) : Int) := by omega
  have e8 : (2 : Nat) ^ 3 = 8 := by decide
  have r : rnd B 3 = if 4 < B % 8 ∨ (B % 8 = 4 ∧ B / 8 % 2 = 1) then B / 8 + 1 else B / 8 := by
    unfold rnd Fl.up; rw [e8]; split <;> split <;> omega
  rw [r, hI]
  by_cases c1 : (B : Int) % 8 > 4
  · rw [if_pos c1, if_pos (by omega), x1, hmn]
  · rw [if_neg c1]
    by_cases c2 : (B : Int) % 8 = 4
    · rw [if_pos c2]
      by_cases c3 : ((k : Int) * 4503599627370496 + (B : Int) / 8) % 2 = 1
      · rw [if_pos c3, if_pos (by omega), x1, hmn]
      · rw [if_neg c3, if_neg (by omega), x0, hmn]
    · rw [if_neg c2, if_neg (by omega), x0, hmn]

/-- raising: so many bits to the left until the first one stands in its place, or the exponent is the least -/
theorem raise_l0 : ∀ (e k B : Nat), e < k → B < 2 ^ 57 → e < 100000 → ∃ j, j ≤ e ∧ fadd_part_raise.l0 k ((e + 1 : Nat) : Int) B = some (((e - j + 1 : Nat) : Int), ((B * 2 ^ j : Nat) : Int)) ∧
    (2 ^ 55 ≤ B * 2 ^ j ∨ e = j) ∧ (j = 0 ∨ B * 2 ^ j < 2 ^ 56) := by
  intro e
  induction e with
  | zero =>
    intro k B hk hB _
    obtain ⟨k, rfl⟩ : ∃ z, k = z + 1 := ⟨k - 1, by omega⟩
    refine ⟨0, Nat.le_refl _, ?_, Or.inr rfl, Or.inl rfl⟩
    simp only [fadd_part_raise.l0]
    rw [Nat.pow_zero, Nat.mul_one]
    by_cases c : (B : Int) < 36028797018963968
    · rw [if_pos c, if_neg (by omega)]
    · rw [if_neg c]
  | succ e ih =>
    intro k B hk hB he
    obtain ⟨k, rfl⟩ : ∃ z, k = z + 1 := ⟨k - 1, by omega⟩
    by_cases c : B < 2 ^ 55
    · obtain ⟨j, hj, h1, h2, h3⟩ := ih k (B * 2) (by omega) (by omega) (by omega)
      have hp : B * 2 ^ (j + 1) = B * 2 * 2 ^ j := by rw [Nat.pow_succ, Nat.mul_assoc, Nat.mul_comm 2]
      refine ⟨j + 1, by omega, ?_, ?_, ?_⟩
      · simp only [fadd_part_raise.l0]
        rw [if_pos (by omega), if_pos (by omega), wrap64_in (by omega) (by omega), wrap_in (by omega) (by omega)]
        have e1 : ((e + 1 + 1 : Nat) : Int) - 1 = ((e + 1 : Nat) : Int) := by omega
        have e2 : (B : Int) * 2 = ((B * 2 : Nat) : Int) := by omega
        rw [e1, e2, h1, hp, show e + 1 - (j + 1) = e - j from by omega]
      · rw [hp]; rcases h2 with h2 | h2
        · exact Or.inl h2
        · exact Or.inr (by omega)
      · right; rw [hp]
        rcases h3 with h3 | h3
        · subst h3; rw [Nat.pow_zero]; omega
        · exact h3
    · refine ⟨0, by omega, ?_, Or.inl (by rw [Nat.pow_zero]; omega), Or.inl rfl⟩
      simp only [fadd_part_raise.l0]
      rw [if_neg (by omega), Nat.pow_zero, Nat.mul_one]
      rfl

/-! ### two finite doubles added -/
theorem stick_le (B d : Nat) : stick B d ≤ B / 2 ^ d + 1 := by unfold stick; split <;> (repeat' split) <;> omega
theorem stick_zero (B : Nat) : stick B 0 = B := by unfold stick; simp [Nat.mod_one]
theorem stick_bound {B d M : Nat} (h : B ≤ M) (hM : 1 ≤ M) : stick B d ≤ M := by
  rcases Nat.eq_zero_or_pos d with h0 | h0
  · subst h0; rw [stick_zero]; exact h
  · have a := stick_le B d
    have b : B / 2 ^ d ≤ B / 2 ^ 1 := Nat.div_le_div_left (Nat.pow_le_pow_right (by decide) h0) (by decide)
    rcases Nat.lt_or_ge M 2 with c | c
    · have hM1 : M = 1 := by omega
      subst hM1
      rcases Nat.eq_zero_or_pos B with z | z
      · subst z; unfold stick; simp
      · have : B = 1 := by omega
        subst this
        unfold stick
        have hp : 2 ^ 1 ≤ 2 ^ d := Nat.pow_le_pow_right (by decide) h0
        rw [Nat.mod_eq_of_lt (by omega), Nat.div_eq_of_lt (by omega)]; decide
    · omega
theorem stk_pos {N d B : Nat} (h : Stk N d B) : B = 0 ↔ N = 0 := by
  rcases h with h | ⟨h1, h2, h3⟩
  · constructor
    · intro z; subst z; rw [← h, Nat.zero_mul]
    · intro z; rw [z] at h
      rcases Nat.mul_eq_zero.1 h with c | c
      · exact c
      · have := Nat.two_pow_pos d; omega
  · constructor
    · intro z; omega
    · intro z; omega

theorem fin_of {V k B : Nat} (h : Stk (V * 2 ^ 3) k B) (h2 : B < 2 ^ 56) (h3 : 0 < k → 2 ^ 55 ≤ B) : near V = k * 2 ^ 52 + rnd B 3 := by
  have t1 := (@stk_gt _ _ _ h (2 ^ 56) (by decide)).2 h2
  have e1 : 2 ^ 56 * 2 ^ k = 2 ^ (53 + k) * 2 ^ 3 := by rw [← Nat.pow_add, ← Nat.pow_add]; congr 1; omega
  have hkk : kk V = k := by
    rcases Nat.eq_zero_or_pos k with h0 | h0
    · subst h0; apply kk_zero; omega
    · have t2 := @stk_gt _ _ _ h (2 ^ 55) (by decide)
      have h4 := h3 h0
      have e2 : 2 ^ 55 * 2 ^ k = 2 ^ (52 + k) * 2 ^ 3 := by rw [← Nat.pow_add, ← Nat.pow_add]; congr 1; omega
      apply kk_eq <;> omega
  unfold near
  rw [hkk]
  have r := rnd_stk h 1
  rw [show k + (1 + 2) = 3 + k from by omega, rnd_scale V 3 k] at r
  rw [r]

/-- how the greater one stands to the lesser one, lowered: what the sum, what the difference comes to, g bits more -/
theorem low_stk {Sa Sb g : Nat} (h : ex Sb ≤ ex Sa) : Stk (val Sb * 2 ^ g) (ex Sa) (stick (fr Sb * 2 ^ g) (ex Sa - ex Sb)) := by
  have a := stk_exact (fr Sb * 2 ^ g) (ex Sb)
  have b := stick_stk (fr Sb * 2 ^ g) (ex Sa - ex Sb)
  have c := stk_trans a b
  rw [show ex Sb + (ex Sa - ex Sb) = ex Sa from by omega] at c
  have e : fr Sb * 2 ^ g * 2 ^ ex Sb = val Sb * 2 ^ g := by unfold val; rw [Nat.mul_assoc, Nat.mul_assoc, Nat.mul_comm (2 ^ g)]
  rw [e] at c; exact c

theorem hi_val (S g : Nat) : fr S * 2 ^ g * 2 ^ ex S = val S * 2 ^ g := by unfold val; rw [Nat.mul_assoc, Nat.mul_assoc, Nat.mul_comm (2 ^ g)]

theorem ev_pow (x g : Nat) (hg : 1 ≤ g) : x * 2 ^ g % 2 = 0 := by
  obtain ⟨g, rfl⟩ : ∃ z, g = z + 1 := ⟨g - 1, by omega⟩
  rw [Nat.pow_succ, ← Nat.mul_assoc]; omega

theorem sum_stk {Sa Sb g : Nat} (hg : 1 ≤ g) (h : ex Sb ≤ ex Sa) : Stk ((val Sa + val Sb) * 2 ^ g) (ex Sa) (fr Sa * 2 ^ g + stick (fr Sb * 2 ^ g) (ex Sa - ex Sb)) := by
  have a := stk_add (low_stk (g := g) h) (ev_pow (fr Sa) g hg)
  rw [hi_val, ← Nat.add_mul] at a; exact a

theorem low_le {Sa Sb g : Nat} (hg : 1 ≤ g) (h : ex Sb ≤ ex Sa) (hv : val Sb ≤ val Sa) : stick (fr Sb * 2 ^ g) (ex Sa - ex Sb) ≤ fr Sa * 2 ^ g := by
  have a := @stk_lt _ _ _ (low_stk (g := g) h) (fr Sa * 2 ^ g) (ev_pow (fr Sa) g hg)
  rw [hi_val] at a
  have b : val Sb * 2 ^ g ≤ val Sa * 2 ^ g := Nat.mul_le_mul_right _ hv
  omega

theorem dif_stk {Sa Sb g : Nat} (hg : 1 ≤ g) (h : ex Sb ≤ ex Sa) (hv : val Sb ≤ val Sa) : Stk ((val Sa - val Sb) * 2 ^ g) (ex Sa) (fr Sa * 2 ^ g - stick (fr Sb * 2 ^ g) (ex Sa - ex Sb)) := by
  have a := stk_sub (low_stk (g := g) h) (ev_pow (fr Sa) g hg) (low_le hg h hv)
  rw [hi_val, ← Nat.sub_mul] at a; exact a

theorem ex_mono {Sa Sb : Nat} (h : Sb ≤ Sa) : ex Sb ≤ ex Sa := by unfold ex; have := Nat.div_le_div_right (c := 2 ^ 52) h; omega

/-- either nothing is lost, or the lesser one is far less -/
theorem lost_or {Sa Sb g : Nat} (h : ex Sb ≤ ex Sa) : (stick (fr Sb * 2 ^ g) (ex Sa - ex Sb) * 2 ^ (ex Sa - ex Sb) = fr Sb * 2 ^ g) ∨ (g < ex Sa - ex Sb ∧ stick (fr Sb * 2 ^ g) (ex Sa - ex Sb) ≤ 2 ^ 52 + 1) := by
  rcases Nat.lt_or_ge g (ex Sa - ex Sb) with c | c
  · right
    refine ⟨c, ?_⟩
    have a := stick_le (fr Sb * 2 ^ g) (ex Sa - ex Sb)
    have b : fr Sb * 2 ^ g / 2 ^ (ex Sa - ex Sb) ≤ 2 ^ 52 := by
      have e : 2 ^ (ex Sa - ex Sb) = 2 ^ g * 2 ^ (ex Sa - ex Sb - g) := by rw [← Nat.pow_add]; congr 1; omega
      rw [e, ← Nat.div_div_eq_div_mul, Nat.mul_div_cancel _ (Nat.two_pow_pos g)]
      have hf := fr_high Sb
      have : fr Sb / 2 ^ (ex Sa - ex Sb - g) ≤ fr Sb / 2 ^ 1 := Nat.div_le_div_left (Nat.pow_le_pow_right (by decide) (by omega)) (by decide)
      omega
    omega
  · left
    have e : fr Sb * 2 ^ g = fr Sb * 2 ^ (g - (ex Sa - ex Sb)) * 2 ^ (ex Sa - ex Sb) := by rw [Nat.mul_assoc, ← Nat.pow_add]; congr 2; omega
    unfold stick
    rw [e, Nat.mul_mod_left, if_pos rfl, Nat.mul_div_cancel _ (Nat.two_pow_pos _)]

def sg (x : Int) : Int := x / 9223372036854775808 * 9223372036854775808
def sz (x : Int) : Nat := (x % 9223372036854775808).toNat
def vl (x : Int) : Nat := val (sz x)
theorem sz_cast {x : Int} (h : U x) : ((sz x : Nat) : Int) = x % 9223372036854775808 := by
  have h1 := h.1; unfold sz; omega
theorem sg_or {x : Int} (h : U x) : sg x = 0 ∨ sg x = 9223372036854775808 := by
  have h1 := h.1; have h2 := h.2; unfold sg; omega

def sumV (x y : Int) : Int := if sg x = sg y then sg x + ((fin (vl x + vl y) : Nat) : Int) else if vl x = vl y then 0 else sg x + ((fin (vl x - vl y) : Nat) : Int)

theorem ex_lt {x : Int} (h : sz x < 9218868437227405312) : ex (sz x) ≤ 2045 := by
  unfold ex
  have : (2 : Nat) ^ 52 = 4503599627370496 := by decide
  rw [this]; omega

theorem fin_lt (V : Nat) : ((fin V : Nat) : Int) < 9223372036854775808 := by unfold fin INF; omega

theorem pj0_f {k : Nat} {x y : Int} (hx : U x) (hy : U y) (hk : 2100 ≤ k) (fx : sz x < 9218868437227405312) (h : sz y ≤ sz x) : fadd_finite.j0 k x y = some (sumV x y) := by
  obtain ⟨k, rfl⟩ : ∃ z, k = z + 1 := ⟨k - 1, by omega⟩
  have cx := sz_cast hx; have cy := sz_cast hy
  have hex := ex_mono h
  have hxl := ex_lt fx
  have hv : vl y ≤ vl x := val_le.2 h
  have f1 := fr_high (sz x); have f2 := fr_high (sz y)
  simp only [fadd_finite.j0]
  rw [parted_f hx cx, parted_f hy cy]
  simp only [Option.bind_some]
  have ed : wrap64 (((ex (sz x) + 1 : Nat) : Int) - ((ex (sz y) + 1 : Nat) : Int)) = ((ex (sz x) - ex (sz y) : Nat) : Int) := by
    rw [wrap64_in (by omega) (by omega)]; omega
  rw [ed]
  obtain ⟨z, hz⟩ := lower_bits (e := ex (sz y) + 1) (B := fr (sz y) * 8) (d := ex (sz x) - ex (sz y)) (by omega) (by omega) (by omega)
  rw [hz]
  simp only [Option.bind_some]
  rw [and_sign hx.1 hx.2, and_sign hy.1 hy.2]
  have e8 : (8 : Nat) = 2 ^ 3 := by decide
  have hS := sum_stk (Sa := sz x) (Sb := sz y) (g := 3) (by decide) hex
  have hD := dif_stk (Sa := sz x) (Sb := sz y) (g := 3) (by decide) hex hv
  have hL := low_le (Sa := sz x) (Sb := sz y) (g := 3) (by decide) hex hv
  have hlost := lost_or (Sa := sz x) (Sb := sz y) (g := 3) hex
  have hqb := stick_bound (B := fr (sz y) * 2 ^ 3) (d := ex (sz x) - ex (sz y)) (M := 2 ^ 56) (by omega) (by decide)
  rw [e8]
  have hfl : 0 < ex (sz x) → 2 ^ 52 ≤ fr (sz x) := fun h0 => fr_low (by unfold ex at h0; omega)
  have sgo := sg_or hx
  generalize hq : stick (fr (sz y) * 2 ^ 3) (ex (sz x) - ex (sz y)) = q at *
  change (if sg x = sg y then _ else _) = _
  unfold sumV
  by_cases cs : sg x = sg y
  · rw [if_pos cs, if_pos cs]
    have eB : IntKind.u64.wrap (((fr (sz x) * 2 ^ 3 : Nat) : Int) + (q : Int)) = ((fr (sz x) * 2 ^ 3 + q : Nat) : Int) := by rw [wrap_in (by omega) (by omega)]; omega
    rw [eB]
    generalize hB : fr (sz x) * 2 ^ 3 + q = B at *
    by_cases cb : B ≥ 2 ^ 56
    · rw [if_pos (by omega)]
      have hl := lower_near (e := ex (sz x) + 1) (B := B) (d := 1) (by omega) (by omega) (by decide)
      have e1 : ((1 : Nat) : Int) = 1 := rfl
      rw [e1] at hl
      rw [hl]
      simp only [Option.bind_some]
      have hst := stk_trans hS (stick_stk B 1)
      have hb1 : 2 ^ 55 ≤ stick B 1 ∧ stick B 1 < 2 ^ 56 := by
        unfold stick
        split
        · omega
        · split <;> omega
      have hn := fin_of hst hb1.2 (fun _ => hb1.1)
      rw [pround_f (k := ex (sz x) + 1) (by omega) (by omega)]
      simp only [Option.bind_some]
      have hfin : min ((ex (sz x) + 1) * 2 ^ 52 + rnd (stick B 1) 3) INF = fin (vl x + vl y) := by unfold fin vl; rw [hn]
      rw [hfin]
      change some (Go.bits .or .u64 (sg x) _) = _
      rw [sign_or sgo (Int.natCast_nonneg _) (fin_lt _)]
    · rw [if_neg (by omega)]
      have hn := fin_of hS (by omega) (fun h0 => by have := hfl h0; omega)
      rw [pround_f (k := ex (sz x)) (by omega) (by omega)]
      simp only [Option.bind_some]
      have hfin : min (ex (sz x) * 2 ^ 52 + rnd B 3) INF = fin (vl x + vl y) := by unfold fin vl; rw [hn]
      rw [hfin]
      change some (Go.bits .or .u64 (sg x) _) = _
      rw [sign_or sgo (Int.natCast_nonneg _) (fin_lt _)]
  · rw [if_neg cs, if_neg cs]
    have eB : IntKind.u64.wrap (((fr (sz x) * 2 ^ 3 : Nat) : Int) - (q : Int)) = ((fr (sz x) * 2 ^ 3 - q : Nat) : Int) := by rw [wrap_in (by omega) (by omega)]; omega
    rw [eB]
    have hz0 := stk_pos hD
    have hBx : fr (sz x) * 2 ^ 3 - q ≤ fr (sz x) * 2 ^ 3 := Nat.sub_le _ _
    by_cases c0 : fr (sz x) * 2 ^ 3 - q = 0
    · have hveq : vl x = vl y := by
        have h0 := hz0.1 c0
        have : (val (sz x) - val (sz y)) = 0 := by
          rcases Nat.mul_eq_zero.1 h0 with c | c
          · exact c
          · have := Nat.two_pow_pos 3; omega
        unfold vl at *; omega
      rw [if_pos (by omega), if_pos hveq]
    · have hvne : ¬ vl x = vl y := by
        intro e
        apply c0
        apply hz0.2
        have : val (sz x) - val (sz y) = 0 := by unfold vl at e; omega
        rw [this, Nat.zero_mul]
      rw [if_neg (by omega), if_neg hvne]
      generalize hB : fr (sz x) * 2 ^ 3 - q = B at *
      have hB56 : B < 2 ^ 56 := by omega
      obtain ⟨j, hj, h1, h2, h3⟩ := raise_l0 (ex (sz x)) k B (by omega) (by omega) (by omega)
      unfold fadd_part_raise.f
      rw [h1]
      simp only [Option.bind_some]
      have hlt : B * 2 ^ j < 2 ^ 56 := by
        rcases h3 with h3 | h3
        · subst h3; rw [Nat.pow_zero]; omega
        · exact h3
      rw [pround_f (k := ex (sz x) - j) (by omega) (by omega)]
      simp only [Option.bind_some]
      have hn : near (val (sz x) - val (sz y)) = (ex (sz x) - j) * 2 ^ 52 + rnd (B * 2 ^ j) 3 := by
        have hexact : B * 2 ^ ex (sz x) = (val (sz x) - val (sz y)) * 2 ^ 3 → near (val (sz x) - val (sz y)) = (ex (sz x) - j) * 2 ^ 52 + rnd (B * 2 ^ j) 3 := by
          intro he
          apply fin_of
          · left
            rw [← he, Nat.mul_assoc, ← Nat.pow_add]; congr 2; omega
          · exact hlt
          · intro h0
            rcases h2 with h2 | h2
            · exact h2
            · omega
        rcases hlost with hl | ⟨hl1, hl2⟩
        · apply hexact
          have e1 : q * 2 ^ ex (sz x) = val (sz y) * 2 ^ 3 := by
            have : q * 2 ^ (ex (sz x) - ex (sz y)) * 2 ^ ex (sz y) = fr (sz y) * 2 ^ 3 * 2 ^ ex (sz y) := by rw [hl]
            rw [Nat.mul_assoc, ← Nat.pow_add, show ex (sz x) - ex (sz y) + ex (sz y) = ex (sz x) from by omega] at this
            rw [this, hi_val]
          rw [← hB, Nat.sub_mul, e1, hi_val, Nat.sub_mul]
        · have hf := hfl (by omega)
          have hB54 : 2 ^ 54 < B := by omega
          have hj1 : j ≤ 1 := by
            rcases Nat.lt_or_ge 1 j with c | c
            · have a : 2 ^ 2 ≤ 2 ^ j := Nat.pow_le_pow_right (by decide) c
              have b : B * 2 ^ 2 ≤ B * 2 ^ j := Nat.mul_le_mul_left _ a
              omega
            · exact c
          rcases Nat.eq_zero_or_pos j with j0 | j0
          · subst j0
            rw [Nat.pow_zero, Nat.mul_one] at hlt h2 ⊢
            exact fin_of hD hlt (fun h0 => by rcases h2 with h2 | h2 <;> omega)
          · have je : j = 1 := by omega
            subst je
            -- one bit was cancelled: what was lost is less than a quarter
            generalize hV : val (sz x) - val (sz y) = V at *
            generalize hE : ex (sz x) = E at *
            have t1 := (@stk_gt _ _ _ hD (2 ^ 55) (by decide)).2 (by omega)
            have t2 := @stk_gt _ _ _ hD (2 ^ 54) (by decide)
            have e1 : 2 ^ 55 * 2 ^ E = 2 ^ (53 + (E - 1)) * 2 ^ 3 := by rw [← Nat.pow_add, ← Nat.pow_add]; congr 1; omega
            have e2 : 2 ^ 54 * 2 ^ E = 2 ^ (52 + (E - 1)) * 2 ^ 3 := by rw [← Nat.pow_add, ← Nat.pow_add]; congr 1; omega
            have hkk : kk V = E - 1 := by apply kk_eq <;> omega
            unfold near
            rw [hkk]
            have r := rnd_stk hD 0
            have s1 : rnd (V * 2 ^ 3) (3 + (E - 1)) = rnd V (E - 1) := by
              have := rnd_scale V 3 (E - 1); exact this
            have s2 : rnd (B * 2 ^ 1) (1 + 2) = rnd B 2 := rnd_scale B 1 2
            rw [show E + (0 + 2) = 3 + (E - 1) from by omega, s1] at r
            rw [r]
            rw [show (1 + 2 : Nat) = 3 from rfl] at s2
            rw [s2]
      have hfin : min ((ex (sz x) - j) * 2 ^ 52 + rnd (B * 2 ^ j) 3) INF = fin (vl x - vl y) := by unfold fin vl; rw [hn]
      rw [hfin]
      change some (Go.bits .or .u64 (sg x) _) = _
      rw [sign_or sgo (Int.natCast_nonneg _) (fin_lt _)]

def finV (a b : Int) : Int := if sz a < sz b then sumV b a else sumV a b

theorem finite_f {k : Nat} {a b : Int} (ha : U a) (hb : U b) (hk : 2100 ≤ k) (fa : sz a < 9218868437227405312) (fb : sz b < 9218868437227405312) : fadd_finite.f k a b = some (finV a b) := by
  have ca := sz_cast ha; have cb := sz_cast hb
  unfold fadd_finite.f finV
  rw [andNot_sign ha.1 ha.2, andNot_sign hb.1 hb.2, ← ca, ← cb]
  by_cases c : sz a < sz b
  · rw [if_pos (by omega), if_pos c, pj0_f hb ha hk fb (by omega)]
  · rw [if_neg (by omega), if_neg c, pj0_f ha hb hk fa (by omega)]

/-! ### the sum of any two -/
def qt (x : Int) : Int := Go.bits .or .u64 x 2251799813685248
theorem quiet_f (x : Int) : fadd_Quiet.f x = some (qt x) := rfl
def addV (a b : Int) : Int :=
  if cls a = 4 then qt a else if cls b = 4 then qt b else if cls a = 3 then (if cls b = 3 then (if a = b then a else 9221120237041090560) else a) else if cls b = 3 then b else finV a b

theorem cls_range (x : Int) : 0 ≤ cls x ∧ cls x ≤ 4 := by unfold cls; repeat' split
                                                          all_goals omega
theorem cls_fin {x : Int} (h : U x) (h3 : cls x < 3) : sz x < 9218868437227405312 := by
  have := sz_cast h
  unfold cls at h3
  by_cases a : x % 9223372036854775808 > 9218868437227405312
  · rw [if_pos a] at h3; omega
  · rw [if_neg a] at h3
    by_cases b : x % 9223372036854775808 = 9218868437227405312
    · rw [if_pos b] at h3; omega
    · omega

theorem add_f {k : Nat} {a b : Int} (ha : U a) (hb : U b) (hk : 2200 ≤ k) : fadd_Add.f k a b = some (addV a b) := by
  obtain ⟨k, rfl⟩ : ∃ z, k = z + 2 := ⟨k - 2, by omega⟩
  unfold fadd_Add.f addV
  rw [class_f ha, class_f hb]
  have ra := cls_range a; have rb := cls_range b
  have fa := @cls_fin a ha; have fb := @cls_fin b hb
  simp only [Option.bind_some, quiet_f, fadd_Add.j0, fadd_Add.j1]
  generalize cls a = ca at *
  generalize cls b = cb at *
  by_cases b4 : cb = 4
  · rw [if_pos b4]
    by_cases a4 : ca = 4
    · rw [if_neg (by omega), if_neg (by omega), if_neg (by omega), if_pos a4, if_pos a4]
    · rw [if_pos (by omega), if_neg a4, if_pos b4]
  · rw [if_neg b4, if_neg b4]
    by_cases b3 : cb = 3
    · rw [if_pos b3, if_pos b3, if_pos b3]
      by_cases a4 : ca = 4
      · rw [if_neg (by omega), if_neg (by omega), if_pos a4, if_pos a4]
      · by_cases a3 : ca = 3
        · rw [if_neg (by omega), if_pos a3, if_neg a4, if_pos a3, if_neg a4, if_pos a3]
          split <;> rfl
        · rw [if_pos (by omega), if_neg a4, if_neg a3]
    · rw [if_neg b3, if_neg b3, if_neg b3]
      by_cases a4 : ca = 4
      · rw [if_pos a4, if_pos a4]
      · rw [if_neg a4, if_neg a4]
        by_cases a3 : ca = 3
        · rw [if_pos a3, if_pos a3]
        · rw [if_neg a3, if_neg a3, finite_f ha hb (by omega) (fa (by omega)) (fb (by omega))]
          rfl

theorem first7_at : hyglaw7_first.f 3000 = some true := by decide +kernel
theorem mono_up {f : Nat → Option Bool} (hm : ∀ k, LeO (f k) (f (k + 1))) {k0 : Nat} {r : Bool} (h : f k0 = some r) (d : Nat) : f (k0 + d) = some r := by
  induction d with
  | zero => exact h
  | succ d ih => exact hm _ _ ih
theorem first7_f {k : Nat} (h : 3000 ≤ k) : hyglaw7_first.f k = some true := by
  obtain ⟨d, rfl⟩ : ∃ d, k = 3000 + d := ⟨k - 3000, by omega⟩
  exact mono_up hyglaw7_first.mono first7_at d

/-! ### doubles as signed values; the sum as the rounding of the sum of values -/
def sv (x : Int) : Int := if x < 9223372036854775808 then ((vl x : Nat) : Int) else -((vl x : Nat) : Int)
def enc (Z : Int) : Int := if Z < 0 then 9223372036854775808 + ((fin Z.natAbs : Nat) : Int) else ((fin Z.natAbs : Nat) : Int)

theorem fin_zero : fin 0 = 0 := by decide
theorem enc_zero : enc 0 = 0 := by decide
theorem vl_zero {x : Int} : vl x = 0 ↔ sz x = 0 := val_eq_zero

theorem finV_enc {a b : Int} (ha : U a) (hb : U b) : finV a b = if a = 9223372036854775808 ∧ b = 9223372036854775808 then 9223372036854775808 else enc (sv a + sv b) := by
  have ca := sz_cast ha; have cb := sz_cast hb
  have h1 := ha.1; have h2 := ha.2; have h3 := hb.1; have h4 := hb.2
  have za := @vl_zero a; have zb := @vl_zero b
  have vlt : sz a < sz b → vl a < vl b := fun h => val_lt.2 h
  have vle : ¬ sz a < sz b → vl b ≤ vl a := fun h => val_le.2 (by omega)
  have f0 := fin_zero
  have hab : ∀ (z : Int) (n : Nat), z.natAbs = n → fin z.natAbs = fin n := fun z n h => by rw [h]
  unfold finV sumV enc sv sg
  by_cases c : sz a < sz b
  · have hv := vlt c
    rw [if_pos c]
    by_cases p : a < 9223372036854775808 <;> by_cases q : b < 9223372036854775808
    · rw [if_pos (show b / 9223372036854775808 * 9223372036854775808 = a / 9223372036854775808 * 9223372036854775808 by omega), if_neg (by omega), if_pos p, if_pos q, if_neg (by omega),
        hab _ (vl b + vl a) (by omega)]; omega
    · rw [if_neg (show ¬ b / 9223372036854775808 * 9223372036854775808 = a / 9223372036854775808 * 9223372036854775808 by omega), if_neg (by omega), if_neg (by omega), if_pos p, if_neg q, if_pos (by omega),
        hab _ (vl b - vl a) (by omega)]; omega
    · rw [if_neg (show ¬ b / 9223372036854775808 * 9223372036854775808 = a / 9223372036854775808 * 9223372036854775808 by omega), if_neg (by omega), if_neg (by omega), if_neg p, if_pos q, if_neg (by omega),
        hab _ (vl b - vl a) (by omega)]; omega
    · rw [if_pos (show b / 9223372036854775808 * 9223372036854775808 = a / 9223372036854775808 * 9223372036854775808 by omega), if_neg (by omega), if_neg p, if_neg q, if_pos (by omega),
        hab _ (vl b + vl a) (by omega)]; omega
  · have hv := vle c
    rw [if_neg c]
    by_cases p : a < 9223372036854775808 <;> by_cases q : b < 9223372036854775808
    · rw [if_pos (show a / 9223372036854775808 * 9223372036854775808 = b / 9223372036854775808 * 9223372036854775808 by omega), if_neg (by omega), if_pos p, if_pos q, if_neg (by omega),
        hab _ (vl a + vl b) (by omega)]; omega
    · rw [if_neg (show ¬ a / 9223372036854775808 * 9223372036854775808 = b / 9223372036854775808 * 9223372036854775808 by omega), if_neg (show ¬ (a = 9223372036854775808 ∧ b = 9223372036854775808) by omega), if_pos p, if_neg q]
      by_cases e : vl a = vl b
      · rw [if_pos e, if_neg (by omega), hab _ 0 (by omega), f0]; rfl
      · rw [if_neg e, if_neg (by omega), hab _ (vl a - vl b) (by omega)]; omega
    · rw [if_neg (show ¬ a / 9223372036854775808 * 9223372036854775808 = b / 9223372036854775808 * 9223372036854775808 by omega), if_neg (show ¬ (a = 9223372036854775808 ∧ b = 9223372036854775808) by omega), if_neg p, if_pos q]
      by_cases e : vl a = vl b
      · rw [if_pos e, if_neg (by omega), hab _ 0 (by omega), f0]; rfl
      · rw [if_neg e, if_pos (by omega), hab _ (vl a - vl b) (by omega)]; omega
    · rw [if_pos (show a / 9223372036854775808 * 9223372036854775808 = b / 9223372036854775808 * 9223372036854775808 by omega), if_neg p, if_neg q]
      by_cases e : vl a + vl b = 0
      · rw [e, f0, if_pos (by omega)]; omega
      · rw [if_neg (by omega), if_pos (by omega), hab _ (vl a + vl b) (by omega)]; omega

theorem fin_val {S : Nat} (h : S ≤ 9218868437227405312) : fin (val S) = S := by
  unfold fin; rw [near_val]; unfold INF; omega

/-- what a double is worth, rounded, is the double -/
theorem enc_sv {x : Int} (h : U x) (hs : sz x ≤ 9218868437227405312) : enc (sv x) = if x = 9223372036854775808 then 0 else x := by
  have cx := sz_cast h
  have h1 := h.1; have h2 := h.2
  have e : (sv x).natAbs = vl x := by unfold sv; split <;> omega
  have zx := @vl_zero x
  unfold enc
  rw [e]
  have hf : fin (vl x) = sz x := fin_val hs
  rw [hf]
  unfold sv
  by_cases p : x < 9223372036854775808
  · rw [if_pos p, if_neg (by omega), if_neg (by omega)]; omega
  · rw [if_neg p]
    by_cases z : sz x = 0
    · rw [if_neg (by omega), if_pos (by omega)]; omega
    · rw [if_pos (by omega), if_neg (by omega)]; omega

theorem fin_mono {V W : Nat} (h : V ≤ W) : fin V ≤ fin W := by
  have := near_mono h
  unfold fin; omega

theorem fin_of_near {S : Nat} (h : S ≤ 9218868437227405312) {V : Nat} (hv : near V = S) : fin V = S := by
  unfold fin; rw [hv]; unfold INF; omega

theorem cls_norm {x : Int} (h : U x) (c : cls x = 2) : 4503599627370496 ≤ sz x ∧ sz x < 9218868437227405312 := by
  have := sz_cast h
  unfold cls at c
  by_cases a : x % 9223372036854775808 > 9218868437227405312
  · rw [if_pos a] at c; omega
  · rw [if_neg a] at c
    by_cases b : x % 9223372036854775808 = 9218868437227405312
    · rw [if_pos b] at c; omega
    · rw [if_neg b] at c
      by_cases d : x % 9223372036854775808 ≥ 4503599627370496
      · omega
      · rw [if_neg d] at c; split at c <;> omega

/-- a sum of two of one sign, the second no greater -/
theorem add_same {a b : Int} (fa : cls a ≤ 2) (fb : cls b ≤ 2) (hs : a / 9223372036854775808 = b / 9223372036854775808) (h : sz b ≤ sz a) : addV a b = sg a + ((fin (vl a + vl b) : Nat) : Int) := by
  unfold addV finV sumV
  rw [if_neg (by omega), if_neg (by omega), if_neg (by omega), if_neg (by omega), if_neg (by omega), if_pos (by unfold sg; omega)]

theorem near_tiny {S V : Nat} (h1 : 2 ^ 52 ≤ S) (h2 : val S ≤ V) (h3 : 2 * (V - val S) < 2 ^ ex S) : near V = S := by
  have hf := fr_low h1
  have hfh := fr_high S
  have hp := Nat.two_pow_pos (ex S)
  have hv : val S = fr S * 2 ^ ex S := rfl
  have hkk : kk V = ex S := by
    apply kk_eq
    · rw [Nat.pow_add]; have : 2 ^ 52 * 2 ^ ex S ≤ fr S * 2 ^ ex S := Nat.mul_le_mul_right _ hf
      omega
    · rw [Nat.pow_add]
      have : (fr S + 1) * 2 ^ ex S ≤ 2 ^ 53 * 2 ^ ex S := Nat.mul_le_mul_right _ hfh
      rw [Nat.add_mul] at this; omega
  have hq : V / 2 ^ ex S = fr S := by
    apply Nat.div_eq_of_lt_le
    · omega
    · rw [Nat.add_mul]; omega
  have hr : V % 2 ^ ex S = V - val S := by
    have := Nat.div_add_mod V (2 ^ ex S)
    rw [hq, Nat.mul_comm] at this; omega
  unfold near rnd Fl.up
  rw [hkk, hq, hr, if_neg (by omega), Nat.add_zero]
  exact ex_fr S

theorem near_half {S V : Nat} (h1 : 2 ^ 52 ≤ S) (h2 : val S ≤ V) (h3 : 2 * (V - val S) = 2 ^ ex S) : near V = S + S % 2 := by
  have hf := fr_low h1
  have hfh := fr_high S
  have hp := Nat.two_pow_pos (ex S)
  have hv : val S = fr S * 2 ^ ex S := rfl
  have hkk : kk V = ex S := by
    apply kk_eq
    · rw [Nat.pow_add]; have : 2 ^ 52 * 2 ^ ex S ≤ fr S * 2 ^ ex S := Nat.mul_le_mul_right _ hf
      omega
    · rw [Nat.pow_add]
      have : (fr S + 1) * 2 ^ ex S ≤ 2 ^ 53 * 2 ^ ex S := Nat.mul_le_mul_right _ hfh
      rw [Nat.add_mul] at this; omega
  have hq : V / 2 ^ ex S = fr S := by
    apply Nat.div_eq_of_lt_le
    · omega
    · rw [Nat.add_mul]; omega
  have hr : V % 2 ^ ex S = V - val S := by
    have := Nat.div_add_mod V (2 ^ ex S)
    rw [hq, Nat.mul_comm] at this; omega
  have hs := ex_fr S
  unfold near rnd Fl.up
  rw [hkk, hq, hr]
  by_cases c : fr S % 2 = 1
  · rw [if_pos (Or.inr ⟨h3, c⟩)]; omega
  · rw [if_neg (by omega)]; omega

theorem val_double {S : Nat} (h1 : 2 ^ 52 ≤ S) : val (S + 2 ^ 52) = 2 * val S := by
  have e : ex (S + 2 ^ 52) = ex S + 1 := by unfold ex; omega
  have f : fr (S + 2 ^ 52) = fr S := by
    unfold fr
    rw [if_neg (by omega), if_neg (by omega)]; omega
  have hs : 2 ^ (ex S + 1) = 2 ^ ex S * 2 := Nat.pow_succ _ _
  unfold val
  rw [e, f, hs, ← Nat.mul_assoc, Nat.mul_comm 2]

theorem FaddNear : hyglaw7_FaddNear.Pure := by
  intro a b ha hb
  have ha := U_of ha
  have hb := U_of hb
  have h1 := ha.1; have h2 := ha.2; have h3 := hb.1; have h4 := hb.2
  have ca := sz_cast ha; have cb := sz_cast hb
  refine ⟨4000, ?_⟩
  unfold hyglaw7_FaddNear.f
  rw [first7_f (by omega), class_f ha, class_f hb]
  simp only [Option.bind_some, if_true]
  have hout : hyglaw7_FaddNear.j0 4000 a b true = some true := by
    simp only [hyglaw7_FaddNear.j0, if_true]
    rw [first7_f (by omega)]; rfl
  by_cases c1 : cls a = 2
  case neg => rw [if_neg c1]; exact hout
  rw [if_pos c1]
  by_cases c2 : cls b > 2
  · rw [if_pos c2]; exact hout
  rw [if_neg c2]
  by_cases c3 : a / 9223372036854775808 = b / 9223372036854775808
  case neg => rw [if_neg c3]; exact hout
  rw [if_pos c3, and_size h1 h2, and_size h3 h4]
  have Ua : U (a % 9223372036854775808) := by unfold U; omega
  have Ub : U (b % 9223372036854775808) := by unfold U; omega
  obtain ⟨n1, n2⟩ := cls_norm ha c1
  have nb := cls_fin hb (by omega)
  rw [less_f Ua Ub]
  simp only [Option.bind_some]
  by_cases c4 : ¬ isNan (a % 9223372036854775808) ∧ ¬ isNan (b % 9223372036854775808) ∧ ik (a % 9223372036854775808) < ik (b % 9223372036854775808)
  · rw [decide_eq_true c4]; exact hout
  rw [decide_eq_false c4]
  have hle : sz b ≤ sz a := by
    rcases Nat.lt_or_ge (sz a) (sz b) with c | c
    · exfalso; apply c4
      unfold isNan ik
      rw [if_pos (by omega), if_pos (by omega)]
      exact ⟨by omega, by omega, by omega⟩
    · exact c
  have hadd := add_same (by omega) (by omega) c3 hle
  have p52 : (2 : Nat) ^ 52 = 4503599627370496 := by decide
  have hS : 2 ^ 52 ≤ sz a := by rw [p52]; exact n1
  have exa : ex (sz a) = sz a / 4503599627370496 - 1 := by unfold ex; rw [p52]
  have exb : ex (sz b) = sz b / 4503599627370496 - 1 := by unfold ex; rw [p52]
  have hbh : vl b < 2 ^ (ex (sz b) + 53) := by
    have := fr_high (sz b)
    unfold vl val
    rw [Nat.pow_add, Nat.mul_comm (2 ^ ex (sz b))]
    exact (Nat.mul_lt_mul_right (Nat.two_pow_pos _)).2 this
  have ea := and_2047 (x := a / 4503599627370496) (by omega) (by omega)
  have eb := and_2047 (x := b / 4503599627370496) (by omega) (by omega)
  have fa : (sz a / 4503599627370496 : Nat) = ((a / 4503599627370496 % 2048).toNat) := by omega
  have fb : (sz b / 4503599627370496 : Nat) = ((b / 4503599627370496 % 2048).toNat) := by omega
  simp only [hyglaw7_FaddNear.j0, Bool.false_eq_true, if_false]
  rw [add_f ha hb (by omega), ea, eb, wrap64_in (n := a / 4503599627370496 % 2048) (by omega) (by omega), wrap64_in (n := b / 4503599627370496 % 2048) (by omega) (by omega), wrap64_in (by omega) (by omega),
    and_frac h3 h4]
  simp only [Option.bind_some]
  have hbase : sg a + ((sz a : Nat) : Int) = a := by unfold sg; omega
  -- the sum lies between the greater one and twice it
  have hj1f : hyglaw7_FaddNear.j1 3999 a (addV a b) false = some true := by
    simp only [hyglaw7_FaddNear.j1, Bool.false_eq_true, if_false]
    rw [first7_f (by omega)]
    simp only [Option.bind_some, if_true]
    have l1 : sz a ≤ fin (vl a + vl b) := by
      have e := fin_val (S := sz a) (by omega)
      have m := fin_mono (V := val (sz a)) (W := vl a + vl b) (by unfold vl; omega)
      omega
    have l2 : fin (vl a + vl b) ≤ sz a + 2 ^ 52 := by
      have hv : vl b ≤ vl a := val_le.2 hle
      have m := near_mono (V := vl a + vl b) (W := val (sz a + 2 ^ 52)) (by rw [val_double hS]; unfold vl at *; omega)
      rw [near_val] at m
      have : fin (vl a + vl b) ≤ near (vl a + vl b) := Nat.min_le_left _ _
      omega
    rw [p52] at l2
    rw [hadd, wrap_in (n := a + 4503599627370496) (by omega) (by omega), if_pos (by omega)]
    congr 1; rw [decide_eq_true_iff]; omega
  by_cases c5 : a / 4503599627370496 % 2048 - b / 4503599627370496 % 2048 > 54
  · rw [if_pos c5, first7_f (by omega)]
    simp only [Option.bind_some, if_true]
    have hn : near (vl a + vl b) = sz a := by
      apply near_tiny hS
      · unfold vl; omega
      · have : vl a + vl b - val (sz a) = vl b := by unfold vl; omega
        rw [this]
        have hp : 2 * 2 ^ (ex (sz b) + 53) ≤ 2 ^ ex (sz a) := by
          rw [Nat.mul_comm, ← Nat.pow_succ]; exact Nat.pow_le_pow_right (by decide) (by omega)
        omega
    rw [hadd, fin_of_near (by omega) hn, hbase]; simp
  · rw [if_neg c5]
    by_cases c6 : a / 4503599627370496 % 2048 - b / 4503599627370496 % 2048 = 53
    case neg => rw [if_neg c6]; exact hj1f
    rw [if_pos c6]
    by_cases c7 : b / 4503599627370496 % 2048 > 0
    case neg => rw [if_neg c7]; exact hj1f
    rw [if_pos c7]
    by_cases c8 : b % 4503599627370496 = 0
    case neg => rw [if_neg c8]; exact hj1f
    rw [if_pos c8, decide_eq_true (by omega : a / 4503599627370496 % 2048 > 53)]
    simp only [hyglaw7_FaddNear.j1, if_true]
    rw [first7_f (by omega)]
    simp only [Option.bind_some, if_true]
    have hfb : fr (sz b) = 2 ^ 52 := by
      unfold fr; rw [p52, if_neg (by omega)]; omega
    have hvb : 2 * vl b = 2 ^ ex (sz a) := by
      unfold vl val
      rw [hfb, ← Nat.pow_add, Nat.mul_comm, ← Nat.pow_succ]; congr 1; omega
    have hn : near (vl a + vl b) = sz a + sz a % 2 := by
      apply near_half hS
      · unfold vl; omega
      · have : vl a + vl b - val (sz a) = vl b := by unfold vl; omega
        rw [this]; exact hvb
    rw [hadd, fin_of_near (by omega) hn, and_1 h1 h2, wrap_in (by omega) (by omega)]
    congr 1; rw [beq_iff_eq]; omega

end Go.Proofs.Ytmljncgglpckcaa.Pure
