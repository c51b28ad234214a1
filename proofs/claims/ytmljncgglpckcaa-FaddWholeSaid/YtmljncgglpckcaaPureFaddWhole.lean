/- FaddWhole: of integers up to 2^52 in size the program's Add of their doubles is the double of their sum; with one more added to both, the greater of two finite doubles is never less. No condition but the law's own guards. -/
import Derived.Test.YtmljncgglpckcaaPFaddWholex3
import Derived.Test.YtmljncgglpckcaaFl0
import Derived.Test.YtmljncgglpckcaaFl1
namespace Go.Proofs.Ytmljncgglpckcaa.Pure
open Go.RowKit Go.Proofs.Ytmljncgglpckcaa.PFaddWhole Go.Proofs.YtmljncgglpckcaaW.PrintWords Go.Proofs.YtmljncgglpckcaaW.PrintLast Go.Proofs.YtmljncgglpckcaaW.PrintMore Go.Proofs.Ytmljncgglpckcaa.Fl

/-! ### flt: what each function tells, as arithmetic -/
def ik (x : Int) : Int := if x < 9223372036854775808 then x else 9223372036854775808 - x
def isNan (x : Int) : Prop := x % 9223372036854775808 > 9218868437227405312
instance (x : Int) : Decidable (isNan x) := by unfold isNan; infer_instance
def U (x : Int) : Prop := 0 ≤ x ∧ x < 18446744073709551616

theorem U_of {x : Int} (h : (Lit.int .u64 x).wf = true) : U x := by
  simp [Lit.wf, IntKind.min, IntKind.max, IntKind.bits, IntKind.signed] at h
  unfold U; omega

theorem size_f {x : Int} (h : U x) : flt_size.f x = some (x % 9223372036854775808) := by
  unfold flt_size.f; rw [andNot_sign h.1 h.2]


def rk (x : Int) : Int := if x < 9223372036854775808 then x + 9223372036854775808 else 18446744073709551615 - x
theorem nan_f {x : Int} (h : U x) : flt_nan.f x = some (decide (isNan x)) := by
  unfold flt_nan.f; rw [size_f h]; rfl

theorem rank_f {x : Int} (h : U x) : flt_rank.f x = some (rk x) := by
  have h1 := h.1; have h2 := h.2
  unfold flt_rank.f rk
  rw [and_sign h1 h2, xor_all h1 h2]
  by_cases hx : x < 9223372036854775808
  · rw [or_sign h1 hx, if_neg (by omega), if_pos hx]
  · rw [if_pos (by omega), if_neg hx]

theorem compare_f (a b : Int) : cmp_Compare_uint64.f a b = some (if a < b then -1 else if a > b then 1 else 0) := by
  unfold cmp_Compare_uint64.f cmp_isNaN_uint64.f
  simp
  split
  · rfl
  · split <;> rfl

theorem order_f {a b : Int} (ha : U a) (hb : U b) : flt_Order.f a b = some (if rk a < rk b then -1 else if rk a > rk b then 1 else 0) := by
  unfold flt_Order.f; rw [rank_f ha, rank_f hb]; simp only [Option.bind_some]; rw [compare_f]; rfl

theorem equal_f {a b : Int} (ha : U a) (hb : U b) : flt_Equal.f a b = some (decide (¬ isNan a ∧ ¬ isNan b ∧ ik a = ik b)) := by
  unfold flt_Equal.f
  rw [nan_f ha, nan_f hb]
  simp only [Option.bind_some]
  obtain ⟨o1, o2, o3⟩ := or_size_zero ha.1 ha.2 hb.1 hb.2
  rw [size_f ⟨o1, o2⟩]
  have a1 := ha.1; have a2 := ha.2; have b1 := hb.1; have b2 := hb.2
  by_cases na : isNan a
  · simp [na]
  · by_cases nb : isNan b
    · simp [na, nb]
    · by_cases e : a = b
      · subst e; simp [na]
      · simp only [na, nb, decide_false, Bool.false_eq_true, if_false, if_neg e, Option.bind_some]
        congr 1
        rw [Bool.eq_iff_iff, beq_iff_eq, o3, decide_eq_true_iff]
        simp only [not_false_iff, true_and]
        unfold ik
        split <;> split <;> omega

theorem less_f {a b : Int} (ha : U a) (hb : U b) : flt_Less.f a b = some (decide (¬ isNan a ∧ ¬ isNan b ∧ ik a < ik b)) := by
  unfold flt_Less.f
  rw [nan_f ha, nan_f hb, equal_f ha hb, order_f ha hb]
  simp only [Option.bind_some]
  have a1 := ha.1; have a2 := ha.2; have b1 := hb.1; have b2 := hb.2
  by_cases na : isNan a
  · simp [na]
  · by_cases nb : isNan b
    · simp [na, nb]
    · simp only [na, nb, decide_false, Bool.false_eq_true, if_false, not_false_iff, true_and, decide_eq_true_iff]
      by_cases e : ik a = ik b
      · rw [if_pos e]; simp [e]
      · rw [if_neg e]
        congr 1
        rw [Bool.eq_iff_iff, decide_eq_true_iff, decide_eq_true_iff]
        unfold ik at *
        unfold rk
        repeat' split
        all_goals (repeat' split at *)
        all_goals omega

def cls (x : Int) : Int := if x % 9223372036854775808 > 9218868437227405312 then 4 else if x % 9223372036854775808 = 9218868437227405312 then 3 else if x % 9223372036854775808 ≥ 4503599627370496 then 2 else if x % 9223372036854775808 > 0 then 1 else 0

theorem class_f {x : Int} (h : U x) : flt_Class.f x = some (cls x) := by
  unfold flt_Class.f cls; rw [size_f h]; simp only [Option.bind_some]
  repeat' split
  all_goals rfl

theorem cls_nan (x : Int) : cls x = 4 ↔ isNan x := by
  unfold cls isNan; repeat' split
  all_goals omega

def INF : Nat := 9218868437227405312
def fin (V : Nat) : Nat := min (near V) INF

/-! ### shifts by a variable count -/
theorem two_pow_pos_int (n : Nat) : (0 : Int) < 2 ^ n := by
  have h : (0 : Int) < ((2 ^ n : Nat) : Int) := by have := Nat.two_pow_pos n; omega
  simpa using h
theorem cast_pow (n : Nat) : ((2 ^ n : Nat) : Int) = (2 : Int) ^ n := by simp
theorem pow_lt_64 {n : Nat} (h : n < 64) : 2 ^ n < 18446744073709551616 := by
  have := Nat.pow_lt_pow_right (a := 2) (by decide) h
  simpa using this
theorem shl_one {n : Nat} (h : n < 64) : shl .u64 1 (n : Int) = ((2 ^ n : Nat) : Int) := by
  unfold shl
  have h1 : min (n : Int).toNat IntKind.u64.bits = n := by have : IntKind.u64.bits = 64 := rfl; omega
  have h2 := pow_lt_64 h
  rw [h1, Int.one_mul, ← cast_pow]
  exact wrap_in (Int.natCast_nonneg _) (by omega)
theorem shl_nat {m n : Nat} (h : n < 64) (hm : m * 2 ^ n < 18446744073709551616) : shl .u64 (m : Int) (n : Int) = ((m * 2 ^ n : Nat) : Int) := by
  unfold shl
  have h1 : min (n : Int).toNat IntKind.u64.bits = n := by have : IntKind.u64.bits = 64 := rfl; omega
  rw [h1, ← cast_pow, ← Int.natCast_mul]
  exact wrap_in (Int.natCast_nonneg _) (by omega)
theorem shr_nat (m : Nat) {n : Nat} (h : n ≤ 64) : shr .u64 (m : Int) (n : Int) = ((m / 2 ^ n : Nat) : Int) := by
  unfold shr
  have h1 : min (n : Int).toNat IntKind.u64.bits = n := by have : IntKind.u64.bits = 64 := rfl; omega
  rw [h1, ← cast_pow]
  simp
theorem mask_nat {m n : Nat} (hm : m < 18446744073709551616) (h : n < 64) : Go.bits .and .u64 (m : Int) (IntKind.u64.wrap (shl .u64 1 (n : Int) - 1)) = ((m % 2 ^ n : Nat) : Int) := by
  have h2 := pow_lt_64 h
  have h3 := Nat.two_pow_pos n
  rw [shl_one h, wrap_in (by omega) (by omega), cast_pow, mask (by omega) (by omega) n (by omega), ← cast_pow]
  simp

/-! ### fadd: the parts of a double, lowered, raised, rounded -/
theorem parted_f {x : Int} (h : U x) {S : Nat} (hS : (S : Int) = x % 9223372036854775808) : fadd_parted.f x = some (((ex S + 1 : Nat) : Int), ((fr S * 8 : Nat) : Int)) := by
  have h1 := h.1; have h2 := h.2
  unfold fadd_parted.f
  rw [andNot_sign h1 h2, ← hS, wrap64_in (n := (S : Int) / 4503599627370496) (by omega) (by omega), and_frac h1 h2, or_hidden (by omega) (by omega)]
  have hex : ex S = S / 4503599627370496 - 1 := rfl
  have hfr : fr S = if S / 4503599627370496 = 0 then S else S % 4503599627370496 + 4503599627370496 := rfl
  by_cases c : S / 4503599627370496 = 0
  · rw [if_neg (by omega), hfr, if_pos c, wrap_in (by omega) (by omega)]
    have e : mx ((S : Int) / 4503599627370496) 1 = ((ex S + 1 : Nat) : Int) := by unfold mx; split <;> omega
    rw [e]; congr 2; omega
  · rw [if_pos (by omega), hfr, if_neg c, wrap_in (by omega) (by omega)]
    have e : mx ((S : Int) / 4503599627370496) 1 = ((ex S + 1 : Nat) : Int) := by unfold mx; split <;> omega
    rw [e]; congr 2; omega

theorem lower_near {e B d : Nat} (he : e < 100000) (hB : B < 2 ^ 63) (hd : d ≤ 63) : fadd_part_lower.f e B d = some (((e + d : Nat) : Int), ((stick B d : Nat) : Int)) := by
  unfold fadd_part_lower.f
  rw [if_neg (by omega), if_pos (by omega), mask_nat (by omega) (by omega), shr_nat B (by omega), wrap64_in (by omega) (by omega)]
  have hq : B / 2 ^ d ≤ B := Nat.div_le_self _ _
  have hq0 : (0 : Int) ≤ ((B / 2 ^ d : Nat) : Int) := Int.natCast_nonneg _
  have hq1 : ((B / 2 ^ d : Nat) : Int) ≤ (B : Int) := Int.ofNat_le.2 hq
  have hm0 : (0 : Int) ≤ ((B % 2 ^ d : Nat) : Int) := Int.natCast_nonneg _
  have e1 : (e : Int) + (d : Int) = ((e + d : Nat) : Int) := by omega
  rw [e1]
  unfold stick
  by_cases c : B % 2 ^ d = 0
  · rw [if_neg (by rw [c]; decide), if_pos c]
  · rw [if_pos (by omega), if_neg c, or_one hq0 (by omega)]
    by_cases c2 : B / 2 ^ d % 2 = 1
    · rw [if_pos c2, if_pos (by omega)]
    · rw [if_neg c2, if_neg (by omega)]; rfl

theorem lower_far {e B : Nat} {d : Int} (he : e < 100000) (hB : B < 2 ^ 63) (hd : 63 < d) : fadd_part_lower.f e B d = some (((e + 63 : Nat) : Int), ((stick B 63 : Nat) : Int)) := by
  have h := lower_near he hB (Nat.le_refl 63)
  rw [← h]
  have e63 : ((63 : Nat) : Int) = 63 := rfl
  unfold fadd_part_lower.f
  rw [if_pos hd, e63, if_neg (show ¬ ((63 : Int) > 63) from by decide), if_pos (show (0 : Int) ≤ 63 from by decide), ← e63, mask_nat (by omega) (by omega), shr_nat B (by omega), e63]
  have e2 : (1 * 9223372036854775808 - 1 : Int) = 9223372036854775807 := by decide
  rw [e2, and_size (by omega) (by omega)]
  have e3 : (B : Int) % 9223372036854775808 = ((B % 2 ^ 63 : Nat) : Int) := by omega
  have e4 : (B : Int) / 9223372036854775808 = ((B / 2 ^ 63 : Nat) : Int) := by omega
  rw [e3, e4]

theorem stick_far {B d : Nat} (hB : B < 2 ^ 63) (hd : 63 ≤ d) : stick B d = stick B 63 := by
  have a : 2 ^ 63 ≤ 2 ^ d := Nat.pow_le_pow_right (by decide) hd
  have q : ∀ c, 63 ≤ c → stick B c = if B = 0 then 0 else 1 := by
    intro c hc
    have a : 2 ^ 63 ≤ 2 ^ c := Nat.pow_le_pow_right (by decide) hc
    unfold stick
    rw [Nat.mod_eq_of_lt (by omega), Nat.div_eq_of_lt (by omega)]
    split
    · rfl
    · rfl
  rw [q d hd, q 63 (Nat.le_refl _)]

theorem lower_bits {e B d : Nat} (he : e < 100000) (hB : B < 2 ^ 63) (hd : d < 100000) : ∃ z : Int, fadd_part_lower.f e B d = some (z, ((stick B d : Nat) : Int)) := by
  rcases Nat.lt_or_ge 63 d with h | h
  · exact ⟨((e + 63 : Nat) : Int), by rw [lower_far he hB (by omega), stick_far (d := d) hB (by omega)]⟩
  · exact ⟨_, lower_near he hB h⟩

theorem pround_f {k B : Nat} (hk : k ≤ 2100) (hB : B < 2 ^ 57) : fadd_part_round.f ((k + 1 : Nat) : Int) B = some ((min (k * 2 ^ 52 + rnd B 3) INF : Nat) : Int) := by
  unfold fadd_part_round.f
  have e1 : IntKind.u64.wrap (IntKind.u64.wrap (wrap64 (((k + 1 : Nat) : Int) - 1)) * 4503599627370496) = (k : Int) * 4503599627370496 := by
    rw [wrap64_in (by omega) (by omega), wrap_in (n := ((k + 1 : Nat) : Int) - 1) (by omega) (by omega), wrap_in (by omega) (by omega)]; omega
  have e2 : IntKind.u64.wrap ((k : Int) * 4503599627370496 + (B : Int) / 8) = (k : Int) * 4503599627370496 + (B : Int) / 8 := wrap_in (by omega) (by omega)
  have e3 : IntKind.u64.wrap ((k : Int) * 4503599627370496 + (B : Int) / 8 + 1) = (k : Int) * 4503599627370496 + (B : Int) / 8 + 1 := wrap_in (by omega) (by omega)
  rw [e1, e2, e3, and_7 (by omega) (by omega), and_1 (by omega) (by omega)]
  have hmn : ∀ a b : Nat, mn (a : Int) (b : Int) = ((min a b : Nat) : Int) := by intro a b; unfold mn; split <;> omega
  have hI : (9218868437227405312 : Int) = ((INF : Nat) : Int) := rfl
  have x0 : (k : Int) * 4503599627370496 + (B : Int) / 8 = ((k * 2 ^ 52 + B / 8 : Nat) : Int) := by omega
  have x1 : (k : Int) * 4503599627370496 + (B : Int) / 8 + 1 = ((k * 2 ^ 52 + (B / 8 + 1) : Nat) : Int) := by omega
  have e8 : (2 : Nat) ^ 3 = 8 := by decide
  have r : rnd B 3 = if 4 < B % 8 ∨ (B % 8 = 4 ∧ B / 8 % 2 = 1) then B / 8 + 1 else B / 8 := by
    unfold rnd Fl.up; rw [e8]; split <;> split <;> omega
  rw [r, hI]
  by_cases c1 : (B : Int) % 8 > 4
  · rw [if_pos c1, if_pos (by omega), x1, hmn]
  · rw [if_neg c1]
    by_cases c2 : (B : Int) % 8 = 4
    · rw [if_pos c2]
      by_cases c3 : ((k : Int) * 4503599627370496 + (B : Int) / 8) % 2 = 1
      · rw [if_pos c3, if_pos (by omega), x1, hmn]
      · rw [if_neg c3, if_neg (by omega), x0, hmn]
    · rw [if_neg c2, if_neg (by omega), x0, hmn]

/-- raising: so many bits to the left until the first one stands in its place, or the exponent is the least -/
theorem raise_l0 : ∀ (e k B : Nat), e < k → B < 2 ^ 57 → e < 100000 → ∃ j, j ≤ e ∧ fadd_part_raise.l0 k ((e + 1 : Nat) : Int) B = some (((e - j + 1 : Nat) : Int), ((B * 2 ^ j : Nat) : Int)) ∧
    (2 ^ 55 ≤ B * 2 ^ j ∨ e = j) ∧ (j = 0 ∨ B * 2 ^ j < 2 ^ 56) := by
  intro e
  induction e with
  | zero =>
    intro k B hk hB _
    obtain ⟨k, rfl⟩ : ∃ z, k = z + 1 := ⟨k - 1, by omega⟩
    refine ⟨0, Nat.le_refl _, ?_, Or.inr rfl, Or.inl rfl⟩
    simp only [fadd_part_raise.l0]
    rw [Nat.pow_zero, Nat.mul_one]
    by_cases c : (B : Int) < 36028797018963968
    · rw [if_pos c, if_neg (by omega)]
    · rw [if_neg c]
  | succ e ih =>
    intro k B hk hB he
    obtain ⟨k, rfl⟩ : ∃ z, k = z + 1 := ⟨k - 1, by omega⟩
    by_cases c : B < 2 ^ 55
    · obtain ⟨j, hj, h1, h2, h3⟩ := ih k (B * 2) (by omega) (by omega) (by omega)
      have hp : B * 2 ^ (j + 1) = B * 2 * 2 ^ j := by rw [Nat.pow_succ, Nat.mul_assoc, Nat.mul_comm 2]
      refine ⟨j + 1, by omega, ?_, ?_, ?_⟩
      · simp only [fadd_part_raise.l0]
        rw [if_pos (by omega), if_pos (by omega), wrap64_in (by omega) (by omega), wrap_in (by omega) (by omega)]
        have e1 : ((e + 1 + 1 : Nat) : Int) - 1 = ((e + 1 : Nat) : Int) := by omega
        have e2 : (B : Int) * 2 = ((B * 2 : Nat) : Int) := by omega
        rw [e1, e2, h1, hp, show e + 1 - (j + 1) = e - j from by omega]
      · rw [hp]; rcases h2 with h2 | h2
        · exact Or.inl h2
        · exact Or.inr (by omega)
      · right; rw [hp]
        rcases h3 with h3 | h3
        · subst h3; rw [Nat.pow_zero]; omega
        · exact h3
    · refine ⟨0, by omega, ?_, Or.inl (by rw [Nat.pow_zero]; omega), Or.inl rfl⟩
      simp only [fadd_part_raise.l0]
      rw [if_neg (by omega), Nat.pow_zero, Nat.mul_one]
      rfl

/-! ### two finite doubles added -/
theorem stick_le (B d : Nat) : stick B d ≤ B / 2 ^ d + 1 := by unfold stick; split <;> (repeat' split) <;> omega
theorem stick_zero (B : Nat) : stick B 0 = B := by unfold stick; simp [Nat.mod_one]
theorem stick_bound {B d M : Nat} (h : B ≤ M) (hM : 1 ≤ M) : stick B d ≤ M := by
  rcases Nat.eq_zero_or_pos d with h0 | h0
  · subst h0; rw [stick_zero]; exact h
  · have a := stick_le B d
    have b : B / 2 ^ d ≤ B / 2 ^ 1 := Nat.div_le_div_left (Nat.pow_le_pow_right (by decide) h0) (by decide)
    rcases Nat.lt_or_ge M 2 with c | c
    · have hM1 : M = 1 := by omega
      subst hM1
      rcases Nat.eq_zero_or_pos B with z | z
      · subst z; unfold stick; simp
      · have : B = 1 := by omega
        subst this
        unfold stick
        have hp : 2 ^ 1 ≤ 2 ^ d := Nat.pow_le_pow_right (by decide) h0
        rw [Nat.mod_eq_of_lt (by omega), Nat.div_eq_of_lt (by omega)]; decide
    · omega
theorem stk_pos {N d B : Nat} (h : Stk N d B) : B = 0 ↔ N = 0 := by
  rcases h with h | ⟨h1, h2, h3⟩
  · constructor
    · intro z; subst z; rw [← h, Nat.zero_mul]
    · intro z; rw [z] at h
      rcases Nat.mul_eq_zero.1 h with c | c
      · exact c
      · have := Nat.two_pow_pos d; omega
  · constructor
    · intro z; omega
    · intro z; omega

theorem fin_of {V k B : Nat} (h : Stk (V * 2 ^ 3) k B) (h2 : B < 2 ^ 56) (h3 : 0 < k → 2 ^ 55 ≤ B) : near V = k * 2 ^ 52 + rnd B 3 := by
  have t1 := (@stk_gt _ _ _ h (2 ^ 56) (by decide)).2 h2
  have e1 : 2 ^ 56 * 2 ^ k = 2 ^ (53 + k) * 2 ^ 3 := by rw [← Nat.pow_add, ← Nat.pow_add]; congr 1; omega
  have hkk : kk V = k := by
    rcases Nat.eq_zero_or_pos k with h0 | h0
    · subst h0; apply kk_zero; omega
    · have t2 := @stk_gt _ _ _ h (2 ^ 55) (by decide)
      have h4 := h3 h0
      have e2 : 2 ^ 55 * 2 ^ k = 2 ^ (52 + k) * 2 ^ 3 := by rw [← Nat.pow_add, ← Nat.pow_add]; congr 1; omega
      apply kk_eq <;> omega
  unfold near
  rw [hkk]
  have r := rnd_stk h 1
  rw [show k + (1 + 2) = 3 + k from by omega, rnd_scale V 3 k] at r
  rw [r]

/-- how the greater one stands to the lesser one, lowered: what the sum, what the difference comes to, g bits more -/
theorem low_stk {Sa Sb g : Nat} (h : ex Sb ≤ ex Sa) : Stk (val Sb * 2 ^ g) (ex Sa) (stick (fr Sb * 2 ^ g) (ex Sa - ex Sb)) := by
  have a := stk_exact (fr Sb * 2 ^ g) (ex Sb)
  have b := stick_stk (fr Sb * 2 ^ g) (ex Sa - ex Sb)
  have c := stk_trans a b
  rw [show ex Sb + (ex Sa - ex Sb) = ex Sa from by omega] at c
  have e : fr Sb * 2 ^ g * 2 ^ ex Sb = val Sb * 2 ^ g := by unfold val; rw [Nat.mul_assoc, Nat.mul_assoc, Nat.mul_comm (2 ^ g)]
  rw [e] at c; exact c

theorem hi_val (S g : Nat) : fr S * 2 ^ g * 2 ^ ex S = val S * 2 ^ g := by unfold val; rw [Nat.mul_assoc, Nat.mul_assoc, Nat.mul_comm (2 ^ g)]

theorem ev_pow (x g : Nat) (hg : 1 ≤ g) : x * 2 ^ g % 2 = 0 := by
  obtain ⟨g, rfl⟩ : ∃ z, g = z + 1 := ⟨g - 1, by omega⟩
  rw [Nat.pow_succ, ← Nat.mul_assoc]; omega

theorem sum_stk {Sa Sb g : Nat} (hg : 1 ≤ g) (h : ex Sb ≤ ex Sa) : Stk ((val Sa + val Sb) * 2 ^ g) (ex Sa) (fr Sa * 2 ^ g + stick (fr Sb * 2 ^ g) (ex Sa - ex Sb)) := by
  have a := stk_add (low_stk (g := g) h) (ev_pow (fr Sa) g hg)
  rw [hi_val, ← Nat.add_mul] at a; exact a

theorem low_le {Sa Sb g : Nat} (hg : 1 ≤ g) (h : ex Sb ≤ ex Sa) (hv : val Sb ≤ val Sa) : stick (fr Sb * 2 ^ g) (ex Sa - ex Sb) ≤ fr Sa * 2 ^ g := by
  have a := @stk_lt _ _ _ (low_stk (g := g) h) (fr Sa * 2 ^ g) (ev_pow (fr Sa) g hg)
  rw [hi_val] at a
  have b : val Sb * 2 ^ g ≤ val Sa * 2 ^ g := Nat.mul_le_mul_right _ hv
  omega

theorem dif_stk {Sa Sb g : Nat} (hg : 1 ≤ g) (h : ex Sb ≤ ex Sa) (hv : val Sb ≤ val Sa) : Stk ((val Sa - val Sb) * 2 ^ g) (ex Sa) (fr Sa * 2 ^ g - stick (fr Sb * 2 ^ g) (ex Sa - ex Sb)) := by
  have a := stk_sub (low_stk (g := g) h) (ev_pow (fr Sa) g hg) (low_le hg h hv)
  rw [hi_val, ← Nat.sub_mul] at a; exact a

theorem ex_mono {Sa Sb : Nat} (h : Sb ≤ Sa) : ex Sb ≤ ex Sa := by unfold ex; have := Nat.div_le_div_right (c := 2 ^ 52) h; omega

/-- either nothing is lost, or the lesser one is far less -/
theorem lost_or {Sa Sb g : Nat} (h : ex Sb ≤ ex Sa) : (stick (fr Sb * 2 ^ g) (ex Sa - ex Sb) * 2 ^ (ex Sa - ex Sb) = fr Sb * 2 ^ g) ∨ (g < ex Sa - ex Sb ∧ stick (fr Sb * 2 ^ g) (ex Sa - ex Sb) ≤ 2 ^ 52 + 1) := by
  rcases Nat.lt_or_ge g (ex Sa - ex Sb) with c | c
  · right
    refine ⟨c, ?_⟩
    have a := stick_le (fr Sb * 2 ^ g) (ex Sa - ex Sb)
    have b : fr Sb * 2 ^ g / 2 ^ (ex Sa - ex Sb) ≤ 2 ^ 52 := by
      have e : 2 ^ (ex Sa - ex Sb) = 2 ^ g * 2 ^ (ex Sa - ex Sb - g) := by rw [← Nat.pow_add]; congr 1; omega
      rw [e, ← Nat.div_div_eq_div_mul, Nat.mul_div_cancel _ (Nat.two_pow_pos g)]
      have hf := fr_high Sb
      have : fr Sb / 2 ^ (ex Sa - ex Sb - g) ≤ fr Sb / 2 ^ 1 := Nat.div_le_div_left (Nat.pow_le_pow_right (by decide) (by omega)) (by decide)
      omega
    omega
  · left
    have e : fr Sb * 2 ^ g = fr Sb * 2 ^ (g - (ex Sa - ex Sb)) * 2 ^ (ex Sa - ex Sb) := by rw [Nat.mul_assoc, ← Nat.pow_add]; congr 2; omega
    unfold stick
    rw [e, Nat.mul_mod_left, if_pos rfl, Nat.mul_div_cancel _ (Nat.two_pow_pos _)]

def sg (x : Int) : Int := x / 9223372036854775808 * 9223372036854775808
def sz (x : Int) : Nat := (x % 9223372036854775808).toNat
def vl (x : Int) : Nat := val (sz x)
theorem sz_cast {x : Int} (h : U x) : ((sz x : Nat) : Int) = x % 9223372036854775808 := by
  have h1 := h.1; unfold sz; omega
theorem sg_or {x : Int} (h : U x) : sg x = 0 ∨ sg x = 9223372036854775808 := by
  have h1 := h.1; have h2 := h.2; unfold sg; omega

def sumV (x y : Int) : Int := if sg x = sg y then sg x + ((fin (vl x + vl y) : Nat) : Int) else if vl x = vl y then 0 else sg x + ((fin (vl x - vl y) : Nat) : Int)

theorem ex_lt {x : Int} (h : sz x < 9218868437227405312) : ex (sz x) ≤ 2045 := by
  unfold ex
  have : (2 : Nat) ^ 52 = 4503599627370496 := by decide
  rw [this]; omega

theorem fin_lt (V : Nat) : ((fin V : Nat) : Int) < 9223372036854775808 := by unfold fin INF; omega

theorem pj0_f {k : Nat} {x y : Int} (hx : U x) (hy : U y) (hk : 2100 ≤ k) (fx : sz x < 9218868437227405312) (h : sz y ≤ sz x) : fadd_finite.j0 k x y = some (sumV x y) := by
  obtain ⟨k, rfl⟩ : ∃ z, k = z + 1 := ⟨k - 1, by omega⟩
  have cx := sz_cast hx; have cy := sz_cast hy
  have hex := ex_mono h
  have hxl := ex_lt fx
  have hv : vl y ≤ vl x := val_le.2 h
  have f1 := fr_high (sz x); have f2 := fr_high (sz y)
  simp only [fadd_finite.j0]
  rw [parted_f hx cx, parted_f hy cy]
  simp only [Option.bind_some]
  have ed : wrap64 (((ex (sz x) + 1 : Nat) : Int) - ((ex (sz y) + 1 : Nat) : Int)) = ((ex (sz x) - ex (sz y) : Nat) : Int) := by
    rw [wrap64_in (by omega) (by omega)]; omega
  rw [ed]
  obtain ⟨z, hz⟩ := lower_bits (e := ex (sz y) + 1) (B := fr (sz y) * 8) (d := ex (sz x) - ex (sz y)) (by omega) (by omega) (by omega)
  rw [hz]
  simp only [Option.bind_some]
  rw [and_sign hx.1 hx.2, and_sign hy.1 hy.2]
  have e8 : (8 : Nat) = 2 ^ 3 := by decide
  have hS := sum_stk (Sa := sz x) (Sb := sz y) (g := 3) (by decide) hex
  have hD := dif_stk (Sa := sz x) (Sb := sz y) (g := 3) (by decide) hex hv
  have hL := low_le (Sa := sz x) (Sb := sz y) (g := 3) (by decide) hex hv
  have hlost := lost_or (Sa := sz x) (Sb := sz y) (g := 3) hex
  have hqb := stick_bound (B := fr (sz y) * 2 ^ 3) (d := ex (sz x) - ex (sz y)) (M := 2 ^ 56) (by omega) (by decide)
  rw [e8]
  have hfl : 0 < ex (sz x) → 2 ^ 52 ≤ fr (sz x) := fun h0 => fr_low (by unfold ex at h0; omega)
  have sgo := sg_or hx
  generalize hq : stick (fr (sz y) * 2 ^ 3) (ex (sz x) - ex (sz y)) = q at *
  change (if sg x = sg y then _ else _) = _
  unfold sumV
  by_cases cs : sg x = sg y
  · rw [if_pos cs, if_pos cs]
    have eB : IntKind.u64.wrap (((fr (sz x) * 2 ^ 3 : Nat) : Int) + (q : Int)) = ((fr (sz x) * 2 ^ 3 + q : Nat) : Int) := by rw [wrap_in (by omega) (by omega)]; omega
    rw [eB]
    generalize hB : fr (sz x) * 2 ^ 3 + q = B at *
    by_cases cb : B ≥ 2 ^ 56
    · rw [if_pos (by omega)]
      have hl := lower_near (e := ex (sz x) + 1) (B := B) (d := 1) (by omega) (by omega) (by decide)
      have e1 : ((1 : Nat) : Int) = 1 := rfl
      rw [e1] at hl
      rw [hl]
      simp only [Option.bind_some]
      have hst := stk_trans hS (stick_stk B 1)
      have hb1 : 2 ^ 55 ≤ stick B 1 ∧ stick B 1 < 2 ^ 56 := by
        unfold stick
        split
        · omega
        · split <;> omega
      have hn := fin_of hst hb1.2 (fun _ => hb1.1)
      rw [pround_f (k := ex (sz x) + 1) (by omega) (by omega)]
      simp only [Option.bind_some]
      have hfin : min ((ex (sz x) + 1) * 2 ^ 52 + rnd (stick B 1) 3) INF = fin (vl x + vl y) := by unfold fin vl; rw [hn]
      rw [hfin]
      change some (Go.bits .or .u64 (sg x) _) = _
      rw [sign_or sgo (Int.natCast_nonneg _) (fin_lt _)]
    · rw [if_neg (by omega)]
      have hn := fin_of hS (by omega) (fun h0 => by have := hfl h0; omega)
      rw [pround_f (k := ex (sz x)) (by omega) (by omega)]
      simp only [Option.bind_some]
      have hfin : min (ex (sz x) * 2 ^ 52 + rnd B 3) INF = fin (vl x + vl y) := by unfold fin vl; rw [hn]
      rw [hfin]
      change some (Go.bits .or .u64 (sg x) _) = _
      rw [sign_or sgo (Int.natCast_nonneg _) (fin_lt _)]
  · rw [if_neg cs, if_neg cs]
    have eB : IntKind.u64.wrap (((fr (sz x) * 2 ^ 3 : Nat) : Int) - (q : Int)) = ((fr (sz x) * 2 ^ 3 - q : Nat) : Int) := by rw [wrap_in (by omega) (by omega)]; omega
    rw [eB]
    have hz0 := stk_pos hD
    have hBx : fr (sz x) * 2 ^ 3 - q ≤ fr (sz x) * 2 ^ 3 := Nat.sub_le _ _
    by_cases c0 : fr (sz x) * 2 ^ 3 - q = 0
    · have hveq : vl x = vl y := by
        have h0 := hz0.1 c0
        have : (val (sz x) - val (sz y)) = 0 := by
          rcases Nat.mul_eq_zero.1 h0 with c | c
          · exact c
          · have := Nat.two_pow_pos 3; omega
        unfold vl at *; omega
      rw [if_pos (by omega), if_pos hveq]
    · have hvne : ¬ vl x = vl y := by
        intro e
        apply c0
        apply hz0.2
        have : val (sz x) - val (sz y) = 0 := by unfold vl at e; omega
        rw [this, Nat.zero_mul]
      rw [if_neg (by omega), if_neg hvne]
      generalize hB : fr (sz x) * 2 ^ 3 - q = B at *
      have hB56 : B < 2 ^ 56 := by omega
      obtain ⟨j, hj, h1, h2, h3⟩ := raise_l0 (ex (sz x)) k B (by omega) (by omega) (by omega)
      unfold fadd_part_raise.f
      rw [h1]
      simp only [Option.bind_some]
      have hlt : B * 2 ^ j < 2 ^ 56 := by
        rcases h3 with h3 | h3
        · subst h3; rw [Nat.pow_zero]; omega
        · exact h3
      rw [pround_f (k := ex (sz x) - j) (by omega) (by omega)]
      simp only [Option.bind_some]
      have hn : near (val (sz x) - val (sz y)) = (ex (sz x) - j) * 2 ^ 52 + rnd (B * 2 ^ j) 3 := by
        have hexact : B * 2 ^ ex (sz x) = (val (sz x) - val (sz y)) * 2 ^ 3 → near (val (sz x) - val (sz y)) = (ex (sz x) - j) * 2 ^ 52 + rnd (B * 2 ^ j) 3 := by
          intro he
          apply fin_of
          · left
            rw [← he, Nat.mul_assoc, ← Nat.pow_add]; congr 2; omega
          · exact hlt
          · intro h0
            rcases h2 with h2 | h2
            · exact h2
            · omega
        rcases hlost with hl | ⟨hl1, hl2⟩
        · apply hexact
          have e1 : q * 2 ^ ex (sz x) = val (sz y) * 2 ^ 3 := by
            have : q * 2 ^ (ex (sz x) - ex (sz y)) * 2 ^ ex (sz y) = fr (sz y) * 2 ^ 3 * 2 ^ ex (sz y) := by rw [hl]
            rw [Nat.mul_assoc, ← Nat.pow_add, show ex (sz x) - ex (sz y) + ex (sz y) = ex (sz x) from by omega] at this
            rw [this, hi_val]
          rw [← hB, Nat.sub_mul, e1, hi_val, Nat.sub_mul]
        · have hf := hfl (by omega)
          have hB54 : 2 ^ 54 < B := by omega
          have hj1 : j ≤ 1 := by
            rcases Nat.lt_or_ge 1 j with c | c
            · have a : 2 ^ 2 ≤ 2 ^ j := Nat.pow_le_pow_right (by decide) c
              have b : B * 2 ^ 2 ≤ B * 2 ^ j := Nat.mul_le_mul_left _ a
              omega
            · exact c
          rcases Nat.eq_zero_or_pos j with j0 | j0
          · subst j0
            rw [Nat.pow_zero, Nat.mul_one] at hlt h2 ⊢
            exact fin_of hD hlt (fun h0 => by rcases h2 with h2 | h2 <;> omega)
          · have je : j = 1 := by omega
            subst je
            -- one bit was cancelled: what was lost is less than a quarter
            generalize hV : val (sz x) - val (sz y) = V at *
            generalize hE : ex (sz x) = E at *
            have t1 := (@stk_gt _ _ _ hD (2 ^ 55) (by decide)).2 (by omega)
            have t2 := @stk_gt _ _ _ hD (2 ^ 54) (by decide)
            have e1 : 2 ^ 55 * 2 ^ E = 2 ^ (53 + (E - 1)) * 2 ^ 3 := by rw [← Nat.pow_add, ← Nat.pow_add]; congr 1; omega
            have e2 : 2 ^ 54 * 2 ^ E = 2 ^ (52 + (E - 1)) * 2 ^ 3 := by rw [← Nat.pow_add, ← Nat.pow_add]; congr 1; omega
            have hkk : kk V = E - 1 := by apply kk_eq <;> omega
            unfold near
            rw [hkk]
            have r := rnd_stk hD 0
            have s1 : rnd (V * 2 ^ 3) (3 + (E - 1)) = rnd V (E - 1) := by
              have := rnd_scale V 3 (E - 1); exact this
            have s2 : rnd (B * 2 ^ 1) (1 + 2) = rnd B 2 := rnd_scale B 1 2
            rw [show E + (0 + 2) = 3 + (E - 1) from by omega, s1] at r
            rw [r]
            rw [show (1 + 2 : Nat) = 3 from rfl] at s2
            rw [s2]
      have hfin : min ((ex (sz x) - j) * 2 ^ 52 + rnd (B * 2 ^ j) 3) INF = fin (vl x - vl y) := by unfold fin vl; rw [hn]
      rw [hfin]
      change some (Go.bits .or .u64 (sg x) _) = _
      rw [sign_or sgo (Int.natCast_nonneg _) (fin_lt _)]

def finV (a b : Int) : Int := if sz a < sz b then sumV b a else sumV a b

theorem finite_f {k : Nat} {a b : Int} (ha : U a) (hb : U b) (hk : 2100 ≤ k) (fa : sz a < 9218868437227405312) (fb : sz b < 9218868437227405312) : fadd_finite.f k a b = some (finV a b) := by
  have ca := sz_cast ha; have cb := sz_cast hb
  unfold fadd_finite.f finV
  rw [andNot_sign ha.1 ha.2, andNot_sign hb.1 hb.2, ← ca, ← cb]
  by_cases c : sz a < sz b
  · rw [if_pos (by omega), if_pos c, pj0_f hb ha hk fb (by omega)]
  · rw [if_neg (by omega), if_neg c, pj0_f ha hb hk fa (by omega)]

/-! ### the sum of any two -/
def qt (x : Int) : Int := Go.bits .or .u64 x 2251799813685248
theorem quiet_f (x : Int) : fadd_Quiet.f x = some (qt x) := rfl
def addV (a b : Int) : Int :=
  if cls a = 4 then qt a else if cls b = 4 then qt b else if cls a = 3 then (if cls b = 3 then (if a = b then a else 9221120237041090560) else a) else if cls b = 3 then b else finV a b

theorem cls_range (x : Int) : 0 ≤ cls x ∧ cls x ≤ 4 := by unfold cls; repeat' split
                                                          all_goals omega
theorem cls_fin {x : Int} (h : U x) (h3 : cls x < 3) : sz x < 9218868437227405312 := by
  have := sz_cast h
  unfold cls at h3
  by_cases a : x % 9223372036854775808 > 9218868437227405312
  · rw [if_pos a] at h3; omega
  · rw [if_neg a] at h3
    by_cases b : x % 9223372036854775808 = 9218868437227405312
    · rw [if_pos b] at h3; omega
    · omega

theorem add_f {k : Nat} {a b : Int} (ha : U a) (hb : U b) (hk : 2200 ≤ k) : fadd_Add.f k a b = some (addV a b) := by
  obtain ⟨k, rfl⟩ : ∃ z, k = z + 2 := ⟨k - 2, by omega⟩
  unfold fadd_Add.f addV
  rw [class_f ha, class_f hb]
  have ra := cls_range a; have rb := cls_range b
  have fa := @cls_fin a ha; have fb := @cls_fin b hb
  simp only [Option.bind_some, quiet_f, fadd_Add.j0, fadd_Add.j1]
  generalize cls a = ca at *
  generalize cls b = cb at *
  by_cases b4 : cb = 4
  · rw [if_pos b4]
    by_cases a4 : ca = 4
    · rw [if_neg (by omega), if_neg (by omega), if_neg (by omega), if_pos a4, if_pos a4]
    · rw [if_pos (by omega), if_neg a4, if_pos b4]
  · rw [if_neg b4, if_neg b4]
    by_cases b3 : cb = 3
    · rw [if_pos b3, if_pos b3, if_pos b3]
      by_cases a4 : ca = 4
      · rw [if_neg (by omega), if_neg (by omega), if_pos a4, if_pos a4]
      · by_cases a3 : ca = 3
        · rw [if_neg (by omega), if_pos a3, if_neg a4, if_pos a3, if_neg a4, if_pos a3]
          split <;> rfl
        · rw [if_pos (by omega), if_neg a4, if_neg a3]
    · rw [if_neg b3, if_neg b3, if_neg b3]
      by_cases a4 : ca = 4
      · rw [if_pos a4, if_pos a4]
      · rw [if_neg a4, if_neg a4]
        by_cases a3 : ca = 3
        · rw [if_pos a3, if_pos a3]
        · rw [if_neg a3, if_neg a3, finite_f ha hb (by omega) (fa (by omega)) (fb (by omega))]
          rfl

theorem qt_U {x : Int} (h : U x) : U (qt x) := by
  have h1 := h.1; have h2 := h.2
  obtain ⟨o1, o2, _⟩ := or_size_zero h1 h2 (y := 2251799813685248) (by decide) (by decide)
  exact ⟨o1, o2⟩
theorem sumV_U {x y : Int} (hx : U x) : U (sumV x y) := by
  have s := sg_or hx
  have f1 := fin_lt (vl x + vl y); have f2 := fin_lt (vl x - vl y)
  unfold U sumV
  split
  · omega
  · split <;> omega
theorem addV_U {a b : Int} (ha : U a) (hb : U b) : U (addV a b) := by
  have q1 := qt_U ha; have q2 := qt_U hb; have s1 := sumV_U (y := b) ha; have s2 := sumV_U (y := a) hb
  unfold addV finV
  repeat' split
  all_goals first | assumption | (unfold U; omega)

theorem first7_at : hyglaw7_first.f 3000 = some true := by decide +kernel
theorem mono_up {f : Nat → Option Bool} (hm : ∀ k, LeO (f k) (f (k + 1))) {k0 : Nat} {r : Bool} (h : f k0 = some r) (d : Nat) : f (k0 + d) = some r := by
  induction d with
  | zero => exact h
  | succ d ih => exact hm _ _ ih
theorem first7_f {k : Nat} (h : 3000 ≤ k) : hyglaw7_first.f k = some true := by
  obtain ⟨d, rfl⟩ : ∃ d, k = 3000 + d := ⟨k - 3000, by omega⟩
  exact mono_up hyglaw7_first.mono first7_at d

/-! ### doubles as signed values; the sum as the rounding of the sum of values -/
def sv (x : Int) : Int := if x < 9223372036854775808 then ((vl x : Nat) : Int) else -((vl x : Nat) : Int)
def enc (Z : Int) : Int := if Z < 0 then 9223372036854775808 + ((fin Z.natAbs : Nat) : Int) else ((fin Z.natAbs : Nat) : Int)

theorem fin_zero : fin 0 = 0 := by decide
theorem enc_zero : enc 0 = 0 := by decide
theorem vl_zero {x : Int} : vl x = 0 ↔ sz x = 0 := val_eq_zero

theorem finV_enc {a b : Int} (ha : U a) (hb : U b) : finV a b = if a = 9223372036854775808 ∧ b = 9223372036854775808 then 9223372036854775808 else enc (sv a + sv b) := by
  have ca := sz_cast ha; have cb := sz_cast hb
  have h1 := ha.1; have h2 := ha.2; have h3 := hb.1; have h4 := hb.2
  have za := @vl_zero a; have zb := @vl_zero b
  have vlt : sz a < sz b → vl a < vl b := fun h => val_lt.2 h
  have vle : ¬ sz a < sz b → vl b ≤ vl a := fun h => val_le.2 (by omega)
  have f0 := fin_zero
  have hab : ∀ (z : Int) (n : Nat), z.natAbs = n → fin z.natAbs = fin n := fun z n h => by rw [h]
  unfold finV sumV enc sv sg
  by_cases c : sz a < sz b
  · have hv := vlt c
    rw [if_pos c]
    by_cases p : a < 9223372036854775808 <;> by_cases q : b < 9223372036854775808
    · rw [if_pos (show b / 9223372036854775808 * 9223372036854775808 = a / 9223372036854775808 * 9223372036854775808 by omega), if_neg (by omega), if_pos p, if_pos q, if_neg (by omega),
        hab _ (vl b + vl a) (by omega)]; omega
    · rw [if_neg (show ¬ b / 9223372036854775808 * 9223372036854775808 = a / 9223372036854775808 * 9223372036854775808 by omega), if_neg (by omega), if_neg (by omega), if_pos p, if_neg q, if_pos (by omega),
        hab _ (vl b - vl a) (by omega)]; omega
    · rw [if_neg (show ¬ b / 9223372036854775808 * 9223372036854775808 = a / 9223372036854775808 * 9223372036854775808 by omega), if_neg (by omega), if_neg (by omega), if_neg p, if_pos q, if_neg (by omega),
        hab _ (vl b - vl a) (by omega)]; omega
    · rw [if_pos (show b / 9223372036854775808 * 9223372036854775808 = a / 9223372036854775808 * 9223372036854775808 by omega), if_neg (by omega), if_neg p, if_neg q, if_pos (by omega),
        hab _ (vl b + vl a) (by omega)]; omega
  · have hv := vle c
    rw [if_neg c]
    by_cases p : a < 9223372036854775808 <;> by_cases q : b < 9223372036854775808
    · rw [if_pos (show a / 9223372036854775808 * 9223372036854775808 = b / 9223372036854775808 * 9223372036854775808 by omega), if_neg (by omega), if_pos p, if_pos q, if_neg (by omega),
        hab _ (vl a + vl b) (by omega)]; omega
    · rw [if_neg (show ¬ a / 9223372036854775808 * 9223372036854775808 = b / 9223372036854775808 * 9223372036854775808 by omega), if_neg (show ¬ (a = 9223372036854775808 ∧ b = 9223372036854775808) by omega), if_pos p, if_neg q]
      by_cases e : vl a = vl b
      · rw [if_pos e, if_neg (by omega), hab _ 0 (by omega), f0]; rfl
      · rw [if_neg e, if_neg (by omega), hab _ (vl a - vl b) (by omega)]; omega
    · rw [if_neg (show ¬ a / 9223372036854775808 * 9223372036854775808 = b / 9223372036854775808 * 9223372036854775808 by omega), if_neg (show ¬ (a = 9223372036854775808 ∧ b = 9223372036854775808) by omega), if_neg p, if_pos q]
      by_cases e : vl a = vl b
      · rw [if_pos e, if_neg (by omega), hab _ 0 (by omega), f0]; rfl
      · rw [if_neg e, if_pos (by omega), hab _ (vl a - vl b) (by omega)]; omega
    · rw [if_pos (show a / 9223372036854775808 * 9223372036854775808 = b / 9223372036854775808 * 9223372036854775808 by omega), if_neg p, if_neg q]
      by_cases e : vl a + vl b = 0
      · rw [e, f0, if_pos (by omega)]; omega
      · rw [if_neg (by omega), if_pos (by omega), hab _ (vl a + vl b) (by omega)]; omega

theorem fin_val {S : Nat} (h : S ≤ 9218868437227405312) : fin (val S) = S := by
  unfold fin; rw [near_val]; unfold INF; omega

/-- what a double is worth, rounded, is the double -/
theorem enc_sv {x : Int} (h : U x) (hs : sz x ≤ 9218868437227405312) : enc (sv x) = if x = 9223372036854775808 then 0 else x := by
  have cx := sz_cast h
  have h1 := h.1; have h2 := h.2
  have e : (sv x).natAbs = vl x := by unfold sv; split <;> omega
  have zx := @vl_zero x
  unfold enc
  rw [e]
  have hf : fin (vl x) = sz x := fin_val hs
  rw [hf]
  unfold sv
  by_cases p : x < 9223372036854775808
  · rw [if_pos p, if_neg (by omega), if_neg (by omega)]; omega
  · rw [if_neg p]
    by_cases z : sz x = 0
    · rw [if_neg (by omega), if_pos (by omega)]; omega
    · rw [if_pos (by omega), if_neg (by omega)]; omega

/-! ### FromInt: the nearest double, in the program and in the reference -/
theorem near_l0 : ∀ (d k x e : Nat), x < 2 ^ 64 → 2 ^ 63 ≤ x * 2 ^ d → x * 2 ^ d < 2 ^ 64 → d < k → d + 1 ≤ e → e ≤ 1086 → d ≤ 63 →
    flt_near.l0 k x e = some (((e - d - 1) * 2 ^ 52 + rnd (x * 2 ^ d) 11 : Nat) : Int) := by
  intro d
  induction d with
  | zero =>
    intro k x e hx h1 h2 hk he he2 _
    obtain ⟨k, rfl⟩ : ∃ m, k = m + 1 := ⟨k - 1, by omega⟩
    simp only [flt_near.l0]
    rw [Nat.pow_zero, Nat.mul_one] at h1 h2
    have a1 := and_2047 (x := (x : Int)) (by omega) (by omega)
    rw [if_neg (by omega), a1, wrap_in (n := (x : Int) / 2048 - 4503599627370496) (by omega) (by omega), wrap_in (n := (e : Int) * 4503599627370496) (by omega) (by omega),
      wrap_in (n := (e : Int) * 4503599627370496 + ((x : Int) / 2048 - 4503599627370496)) (by omega) (by omega),
      wrap_in (n := (e : Int) * 4503599627370496 + ((x : Int) / 2048 - 4503599627370496) + 1) (by omega) (by omega), and_1 (by omega) (by omega)]
    rw [Nat.pow_zero, Nat.mul_one]
    unfold rnd Fl.up
    have e11 : 2 ^ 11 = 2048 := by decide
    rw [e11]
    by_cases c1 : (x : Int) % 2048 > 1024
    · rw [if_pos c1, if_pos (by omega)]; congr 1; omega
    · rw [if_neg c1]
      by_cases c2 : (x : Int) % 2048 = 1024
      · rw [if_pos c2]
        by_cases c3 : ((e : Int) * 4503599627370496 + ((x : Int) / 2048 - 4503599627370496)) % 2 = 1
        · rw [if_pos c3, if_pos (by omega)]; congr 1; omega
        · rw [if_neg c3, if_neg (by omega)]; congr 1; omega
      · rw [if_neg c2, if_neg (by omega)]; congr 1; omega
  | succ d ih =>
    intro k x e hx h1 h2 hk he he2 hd
    obtain ⟨k, rfl⟩ : ∃ m, k = m + 1 := ⟨k - 1, by omega⟩
    simp only [flt_near.l0]
    have hp : x * 2 ^ (d + 1) = x * 2 * 2 ^ d := by rw [Nat.pow_succ, Nat.mul_assoc, Nat.mul_comm 2]
    have hx2 : x * 2 < 2 ^ 64 := by
      have : x * 2 * 1 ≤ x * 2 * 2 ^ d := Nat.mul_le_mul_left _ (Nat.two_pow_pos d)
      omega
    rw [if_pos (by omega), wrap_in (n := (x : Int) * 2) (by omega) (by omega), wrap_in (n := (e : Int) - 1) (by omega) (by omega)]
    rw [hp] at h1 h2 ⊢
    have := ih k (x * 2) (e - 1) hx2 h1 h2 (by omega) (by omega) (by omega) (by omega)
    have e1 : (x : Int) * 2 = ((x * 2 : Nat) : Int) := by omega
    have e2 : (e : Int) - 1 = ((e - 1 : Nat) : Int) := by omega
    rw [e1, e2, this, show e - 1 - d - 1 = e - (d + 1) - 1 from by omega]

/-- in units of 2^-1074: the value of a whole number -/
def K1074 : Nat := 1074
theorem K_is : K1074 = 1074 := rfl
attribute [irreducible] K1074
def un (n : Nat) : Nat := n * 2 ^ K1074

theorem near_un {n d : Nat} (h1 : 2 ^ 63 ≤ n * 2 ^ d) (h2 : n * 2 ^ d < 2 ^ 64) (hd : d ≤ 63) : near (un n) = (1085 - d) * 2 ^ 52 + rnd (n * 2 ^ d) 11 := by
  have hK := K_is
  have e0 : un n = n * 2 ^ d * 2 ^ (K1074 - d) := by
    unfold un; rw [Nat.mul_assoc, ← Nat.pow_add, show d + (K1074 - d) = K1074 from by omega]
  have hk : kk (un n) = 1085 - d := by
    apply kk_eq
    · rw [e0, show 52 + (1085 - d) = 63 + (K1074 - d) from by omega, Nat.pow_add]; exact Nat.mul_le_mul_right _ h1
    · rw [e0, show 53 + (1085 - d) = 64 + (K1074 - d) from by omega, Nat.pow_add]; exact (Nat.mul_lt_mul_right (Nat.two_pow_pos _)).2 h2
  unfold near
  rw [hk, e0, show 1085 - d = (K1074 - d) + 11 from by omega, rnd_scale]

theorem shift_of {n : Nat} (h0 : 0 < n) (h : n < 2 ^ 64) : ∃ d, d ≤ 63 ∧ 2 ^ 63 ≤ n * 2 ^ d ∧ n * 2 ^ d < 2 ^ 64 := by
  have h1 := Nat.log2_self_le (n := n) (by omega)
  have h2 := @Nat.lt_log2_self n
  have h3 : Nat.log2 n < 64 := (Nat.log2_lt (by omega)).2 h
  refine ⟨63 - Nat.log2 n, by omega, ?_, ?_⟩
  · have := Nat.mul_le_mul_right (2 ^ (63 - Nat.log2 n)) h1
    rw [← Nat.pow_add, show Nat.log2 n + (63 - Nat.log2 n) = 63 from by omega] at this
    exact this
  · have := (Nat.mul_lt_mul_right (Nat.two_pow_pos (63 - Nat.log2 n))).2 h2
    rw [← Nat.pow_add, show Nat.log2 n + 1 + (63 - Nat.log2 n) = 64 from by omega] at this
    exact this

theorem near_un_lt {n : Nat} (h0 : 0 < n) (h : n < 2 ^ 64) : near (un n) ≤ 1086 * 2 ^ 52 + 2 ^ 52 := by
  obtain ⟨d, hd, h1, h2⟩ := shift_of h0 h
  rw [near_un h1 h2 hd]
  have := up_le (n * 2 ^ d) 11
  unfold rnd
  have : n * 2 ^ d / 2 ^ 11 < 2 ^ 53 := by omega
  omega

theorem near_f {n k : Nat} (h0 : 0 < n) (h : n < 2 ^ 64) (hk : 65 ≤ k) : flt_near.f k n = some ((near (un n) : Nat) : Int) := by
  obtain ⟨d, hd, h1, h2⟩ := shift_of h0 h
  unfold flt_near.f
  have := near_l0 d k n 1086 h h1 h2 (by omega) (by omega) (by omega) hd
  rw [near_un h1 h2 hd]
  rw [show 1086 - d - 1 = 1085 - d from by omega] at this
  exact this

/-- the double of a whole number -/
def dbl (n : Int) : Int := if n < 0 then (near (un n.natAbs) : Nat) + 9223372036854775808 else (near (un n.natAbs) : Nat)
def I (n : Int) : Prop := -9223372036854775808 ≤ n ∧ n < 9223372036854775808
theorem I_of {x : Int} (h : (Lit.int .i64 x).wf = true) : I x := by
  simp [Lit.wf, IntKind.min, IntKind.max, IntKind.bits, IntKind.signed] at h
  unfold I; omega

theorem near_un_zero : near (un 0) = 0 := by
  have h : un 0 = 0 := Nat.zero_mul _
  rw [h]; decide

theorem fromInt_f {n : Int} {k : Nat} (h : I n) (hk : 65 ≤ k) : flt_FromInt.f k n = some (dbl n) := by
  have h1 := h.1; have h2 := h.2
  unfold flt_FromInt.f dbl
  by_cases c1 : n < 0
  · rw [if_pos c1, if_pos c1]
    have e : IntKind.u64.wrap (-(IntKind.u64.wrap n)) = (n.natAbs : Int) := by rw [wrap_u, wrap_u]; omega
    rw [e, near_f (by omega) (by omega) hk]
    simp only [Option.bind_some]
    have := near_un_lt (n := n.natAbs) (by omega) (by omega)
    rw [or_sign (by omega) (by omega)]
  · rw [if_neg c1, if_neg c1]
    by_cases c2 : n > 0
    · rw [if_pos c2]
      have e : IntKind.u64.wrap n = (n.natAbs : Int) := by rw [wrap_u]; omega
      rw [e, near_f (by omega) (by omega) hk]
      simp only [Option.bind_some]
    · rw [if_neg c2]
      have : n = 0 := by omega
      subst this
      rw [Int.natAbs_zero, near_un_zero]; rfl

/-! ### what a double is worth, in units of 2^-1074 -/
theorem val_of {k q : Nat} (h2 : q ≤ 2 ^ 53) (h3 : 0 < k → 2 ^ 52 ≤ q) : val (k * 2 ^ 52 + q) = q * 2 ^ k := by
  unfold val ex fr
  by_cases h : q = 2 ^ 53
  · subst h
    have e1 : (k * 2 ^ 52 + 2 ^ 53) / 2 ^ 52 = k + 2 := by omega
    have e2 : (k * 2 ^ 52 + 2 ^ 53) % 2 ^ 52 = 0 := by omega
    have hs : 2 ^ (k + 1) = 2 ^ k * 2 := Nat.pow_succ _ _
    have e3 : (2 : Nat) ^ 53 = 2 ^ 52 * 2 := by decide
    rw [e1, e2, if_neg (by omega), show k + 2 - 1 = k + 1 from by omega, hs, e3, Nat.zero_add, Nat.mul_assoc, Nat.mul_comm 2]
  · by_cases h4 : q < 2 ^ 52
    · have hk : k = 0 := by omega
      subst hk
      have e1 : (0 * 2 ^ 52 + q) / 2 ^ 52 = 0 := by omega
      rw [e1, if_pos rfl]; simp
    · have e1 : (k * 2 ^ 52 + q) / 2 ^ 52 = k + 1 := by omega
      have e2 : (k * 2 ^ 52 + q) % 2 ^ 52 = q - 2 ^ 52 := by omega
      rw [e1, e2, if_neg (by omega), show q - 2 ^ 52 + 2 ^ 52 = q from by omega, show k + 1 - 1 = k from by omega]

theorem rnd_high (V : Nat) : rnd V (kk V) ≤ 2 ^ 53 := by
  have a := q_high V
  have b := up_le V (kk V)
  unfold rnd; omega

theorem rnd_low {V : Nat} (h : 0 < kk V) : 2 ^ 52 ≤ rnd V (kk V) := by
  have a := q_low h
  unfold rnd; omega

theorem val_near (V : Nat) : val (near V) = rnd V (kk V) * 2 ^ kk V := by
  unfold near; exact val_of (rnd_high V) rnd_low

/-- rounding errs by a half at most -/
theorem rnd_err (X g : Nat) : 2 * (rnd X g * 2 ^ g) ≤ 2 * X + 2 ^ g ∧ 2 * X ≤ 2 * (rnd X g * 2 ^ g) + 2 ^ g := by
  have hB := Nat.div_add_mod X (2 ^ g)
  have hm := Nat.mod_lt X (Nat.two_pow_pos g)
  rw [Nat.mul_comm] at hB
  unfold rnd Fl.up
  split
  · rw [Nat.add_mul]; omega
  · rw [Nat.add_mul]; omega

/-! ### there and back -/
theorem near_un_exact {n : Nat} (h : n ≤ 2 ^ 53) : val (near (un n)) = un n := by
  have hK := K_is
  rcases Nat.eq_zero_or_pos n with h0 | h0
  · have e : un n = 0 := by rw [h0]; exact Nat.zero_mul _
    rw [e]; decide
  · obtain ⟨q, k, e, h2, h3⟩ : ∃ q k, un n = q * 2 ^ k ∧ q < 2 ^ 53 ∧ 2 ^ 52 ≤ q := by
      by_cases h53 : n = 2 ^ 53
      · refine ⟨2 ^ 52, K1074 + 1, ?_, by decide, Nat.le_refl _⟩
        have hs : 2 ^ (K1074 + 1) = 2 ^ K1074 * 2 := Nat.pow_succ _ _
        have e3 : (2 : Nat) ^ 53 = 2 ^ 52 * 2 := by decide
        unfold un; rw [h53, hs, e3, Nat.mul_assoc, Nat.mul_comm 2]
      · obtain ⟨d, hd, h1, h2⟩ := shift_of h0 (by omega)
        have hd11 : 11 ≤ d := by
          rcases Nat.lt_or_ge d 11 with c | c
          · have a : 2 ^ d ≤ 2 ^ 10 := Nat.pow_le_pow_right (by decide) (by omega)
            have b : n * 2 ^ d ≤ n * 2 ^ 10 := Nat.mul_le_mul_left _ a
            omega
          · exact c
        have e : n * 2 ^ d = n * 2 ^ (d - 11) * 2 ^ 11 := by rw [Nat.mul_assoc, ← Nat.pow_add]; congr 2; omega
        refine ⟨n * 2 ^ (d - 11), K1074 + 11 - d, ?_, by omega, by omega⟩
        unfold un; rw [Nat.mul_assoc, ← Nat.pow_add]; congr 2; omega
    rw [near_of e h2 (fun _ => h3), val_of (by omega) (fun _ => h3), e]

theorem near_un_close {n : Nat} (h1 : 2 ^ 53 < n) (h2 : n ≤ 2 ^ 63) : ∃ N, val (near (un n)) = un N ∧ N ≤ n + 512 ∧ n ≤ N + 512 ∧ N ≤ 2 ^ 63 := by
  have hK := K_is
  obtain ⟨d, hd, a1, a2⟩ := shift_of (n := n) (by omega) (by omega)
  have hd10 : d ≤ 10 := by
    rcases Nat.lt_or_ge 10 d with c | c
    · have a : 2 ^ 11 ≤ 2 ^ d := Nat.pow_le_pow_right (by decide) (by omega)
      have b : n * 2 ^ 11 ≤ n * 2 ^ d := Nat.mul_le_mul_left _ a
      omega
    · exact c
  obtain ⟨r, hr⟩ : ∃ r, r = rnd (n * 2 ^ d) 11 := ⟨_, rfl⟩
  have herr := rnd_err (n * 2 ^ d) 11
  rw [← hr] at herr
  have hrh : r ≤ 2 ^ 53 := by
    have := up_le (n * 2 ^ d) 11
    have q : n * 2 ^ d / 2 ^ 11 < 2 ^ 53 := by omega
    rw [hr]; unfold rnd; omega
  have hrl : 2 ^ 52 ≤ r := by
    have q : 2 ^ 52 ≤ n * 2 ^ d / 2 ^ 11 := by omega
    rw [hr]; unfold rnd; omega
  have hv : val (near (un n)) = un (r * 2 ^ (11 - d)) := by
    rw [near_un a1 a2 hd, ← hr, val_of hrh (fun _ => hrl)]
    unfold un
    rw [Nat.mul_assoc, ← Nat.pow_add]; congr 2; omega
  refine ⟨r * 2 ^ (11 - d), hv, ?_⟩
  have e11 : r * 2 ^ 11 = r * 2 ^ (11 - d) * 2 ^ d := by rw [Nat.mul_assoc, ← Nat.pow_add]; congr 2; omega
  generalize r * 2 ^ (11 - d) = N at e11
  rcases Nat.eq_zero_or_pos d with z | z
  · subst z
    rw [Nat.pow_zero, Nat.mul_one] at e11 a1 a2 herr
    have : n = 2 ^ 63 := by omega
    have hr2 : r = 2 ^ 52 := by
      rw [hr, this]; decide
    omega
  · obtain ⟨c, rfl⟩ : ∃ c, d = c + 1 := ⟨d - 1, by omega⟩
    have ep : ∀ y : Nat, y * 2 ^ (c + 1) = 2 * (y * 2 ^ c) := by intro y; rw [Nat.pow_succ, ← Nat.mul_assoc, Nat.mul_comm]
    rw [ep] at a1 a2 herr e11
    have hc := Nat.two_pow_pos c
    refine ⟨?_, ?_, ?_⟩
    · rcases Nat.lt_or_ge (n + 512) N with w | w
      · have : (n + 513) * 2 ^ c ≤ N * 2 ^ c := Nat.mul_le_mul_right _ w
        rw [Nat.add_mul] at this; omega
      · exact w
    · rcases Nat.lt_or_ge (N + 512) n with w | w
      · have : (N + 513) * 2 ^ c ≤ n * 2 ^ c := Nat.mul_le_mul_right _ w
        rw [Nat.add_mul] at this; omega
      · exact w
    · rcases Nat.lt_or_ge (2 ^ 63) N with w | w
      · have : (2 ^ 63 + 1) * 2 ^ c ≤ N * 2 ^ c := Nat.mul_le_mul_right _ w
        rw [Nat.add_mul] at this; omega
      · exact w

theorem near_un_pos {n : Nat} (h : 0 < n) : 0 < near (un n) := by
  have h1 : 1 ≤ un n := by unfold un; exact Nat.mul_pos h (Nat.two_pow_pos _)
  have h2 := near_mono h1
  have h3 : near 1 = 1 := by decide
  omega

theorem near_un_lt' {n : Nat} (h : n < 2 ^ 64) : near (un n) < 9218868437227405312 := by
  rcases Nat.eq_zero_or_pos n with h0 | h0
  · subst h0; rw [near_un_zero]; decide
  · have := near_un_lt h0 h; omega

theorem dbl_U {n : Int} (h : I n) : U (dbl n) := by
  have h1 := h.1; have h2 := h.2
  have := near_un_lt' (n := n.natAbs) (by omega)
  unfold U dbl; split <;> omega

theorem dbl_nan {n : Int} (h : I n) : ¬ isNan (dbl n) := by
  have h1 := h.1; have h2 := h.2
  have := near_un_lt' (n := n.natAbs) (by omega)
  unfold isNan dbl; split <;> omega

theorem ik_dbl {n : Int} (h : I n) : ik (dbl n) = if n < 0 then -((near (un n.natAbs) : Nat) : Int) else ((near (un n.natAbs) : Nat) : Int) := by
  have h1 := h.1; have h2 := h.2
  have := near_un_lt' (n := n.natAbs) (by omega)
  unfold ik dbl; split <;> (split <;> omega)

theorem un_mono {a b : Nat} (h : a ≤ b) : un a ≤ un b := Nat.mul_le_mul_right _ h

theorem dbl_mono {n m : Int} (hn : I n) (hm : I m) (h : n ≤ m) : ik (dbl n) ≤ ik (dbl m) := by
  rw [ik_dbl hn, ik_dbl hm]
  split <;> split
  · have := near_mono (un_mono (show m.natAbs ≤ n.natAbs by omega)); omega
  · omega
  · omega
  · have := near_mono (un_mono (show n.natAbs ≤ m.natAbs by omega)); omega

theorem dbl_size {n : Int} (h : I n) : (dbl n % 9223372036854775808).toNat = near (un n.natAbs) ∧ (9223372036854775808 ≤ dbl n ↔ n < 0) := by
  have h1 := h.1; have h2 := h.2
  have := near_un_lt' (n := n.natAbs) (by omega)
  unfold dbl; split
  · constructor <;> omega
  · constructor <;> omega


/-! ### integers -/
def P1074 : Int := ((2 ^ K1074 : Nat) : Int)

theorem sv_dbl {n : Int} (h : I n) (h53 : n.natAbs ≤ 2 ^ 53) : sv (dbl n) = n * P1074 := by
  obtain ⟨e1, e2⟩ := dbl_size h
  have e : vl (dbl n) = un n.natAbs := by unfold vl sz; rw [e1]; exact near_un_exact h53
  have hc : ((un n.natAbs : Nat) : Int) = (n.natAbs : Int) * P1074 := by unfold un P1074; rw [Int.natCast_mul]
  unfold sv
  rw [e, hc]
  by_cases c : n < 0
  · rw [if_neg (by have := e2.2 c; omega), show (n.natAbs : Int) = -n by omega, Int.neg_mul, Int.neg_neg]
  · rw [if_pos (by have : ¬ 9223372036854775808 ≤ dbl n := fun z => c (e2.1 z)
                   omega), show (n.natAbs : Int) = n by omega]

theorem enc_dbl {n : Int} (h : I n) : enc (n * P1074) = dbl n := by
  have h1 := h.1; have h2 := h.2
  have hp : (0 : Int) < P1074 := by
    unfold P1074; have := Nat.two_pow_pos K1074; omega
  have ea : (n * P1074).natAbs = un n.natAbs := by
    rw [Int.natAbs_mul]; unfold un P1074; rw [Int.natAbs_natCast]
  have hs : n * P1074 < 0 ↔ n < 0 := by
    constructor
    · intro z
      rcases (by omega : n < 0 ∨ 0 ≤ n) with c | c
      · exact c
      · have := Int.mul_nonneg c (Int.le_of_lt hp); omega
    · intro z
      exact Int.mul_neg_of_neg_of_pos z hp
  have hf : fin (un n.natAbs) = near (un n.natAbs) := by
    have := near_un_lt' (n := n.natAbs) (by omega)
    unfold fin INF; omega
  unfold enc dbl
  rw [ea, hf]
  by_cases c : n < 0
  · rw [if_pos (hs.2 c), if_pos c, Int.add_comm]
  · rw [if_neg (fun z => c (hs.1 z)), if_neg c]

theorem cls_small {x : Int} (h : U x) (hs : sz x < 9218868437227405312) : cls x ≤ 2 := by
  have := sz_cast h
  unfold cls; repeat' split
  all_goals omega

theorem dbl_cls {n : Int} (h : I n) : cls (dbl n) ≤ 2 := by
  obtain ⟨e1, _⟩ := dbl_size h
  have h1 := h.1; have h2 := h.2
  have := near_un_lt' (n := n.natAbs) (by omega)
  exact cls_small (dbl_U h) (by unfold sz; rw [e1]; exact this)

theorem addV_fin {a b : Int} (fa : cls a ≤ 2) (fb : cls b ≤ 2) : addV a b = finV a b := by
  unfold addV; rw [if_neg (by omega), if_neg (by omega), if_neg (by omega), if_neg (by omega)]

theorem dbl_nz {n : Int} (h : I n) : dbl n ≠ 9223372036854775808 := by
  have h1 := h.1; have h2 := h.2
  have := near_un_lt' (n := n.natAbs) (by omega)
  unfold dbl
  by_cases c : n < 0
  · rw [if_pos c]; have := near_un_pos (n := n.natAbs) (by omega); omega
  · rw [if_neg c]; omega

theorem whole_sum {n m : Int} (hn : -4503599627370496 ≤ n ∧ n ≤ 4503599627370496) (hm : -4503599627370496 ≤ m ∧ m ≤ 4503599627370496) : addV (dbl n) (dbl m) = dbl (n + m) := by
  have In : I n := by unfold I; omega
  have Im : I m := by unfold I; omega
  have Is : I (n + m) := by unfold I; omega
  rw [addV_fin (dbl_cls In) (dbl_cls Im), finV_enc (dbl_U In) (dbl_U Im), if_neg (fun h => dbl_nz In h.1), sv_dbl In (by omega), sv_dbl Im (by omega), ← Int.add_mul, enc_dbl Is]

/-! ### never less -/
theorem fin_mono {V W : Nat} (h : V ≤ W) : fin V ≤ fin W := by
  have := near_mono h
  unfold fin; omega

def ke (Z : Int) : Int := if Z < 0 then -((fin Z.natAbs : Nat) : Int) else ((fin Z.natAbs : Nat) : Int)
theorem ke_mono {Z W : Int} (h : Z ≤ W) : ke Z ≤ ke W := by
  unfold ke
  by_cases c : Z < 0 <;> by_cases d : W < 0
  · rw [if_pos c, if_pos d]; have := fin_mono (V := W.natAbs) (W := Z.natAbs) (by omega); omega
  · rw [if_pos c, if_neg d]; omega
  · omega
  · rw [if_neg c, if_neg d]; have := fin_mono (V := Z.natAbs) (W := W.natAbs) (by omega); omega

theorem ik_enc (Z : Int) : ik (enc Z) = ke Z := by
  have := fin_lt Z.natAbs
  unfold ik enc ke
  by_cases c : Z < 0
  · rw [if_pos c, if_pos c]; split <;> omega
  · rw [if_neg c, if_neg c, if_pos (by omega)]

theorem sv_nz : sv 9223372036854775808 = 0 := by decide +kernel

theorem ik_finV {a b : Int} (ha : U a) (hb : U b) : ik (finV a b) = ke (sv a + sv b) := by
  rw [finV_enc ha hb]
  by_cases c : a = 9223372036854775808 ∧ b = 9223372036854775808
  · rw [if_pos c, c.1, c.2, sv_nz]; decide
  · rw [if_neg c, ik_enc]

theorem sv_mono {a b : Int} (ha : U a) (hb : U b) (h : ik a < ik b) : sv a ≤ sv b := by
  have h1 := ha.1; have h2 := ha.2; have h3 := hb.1; have h4 := hb.2
  have ca := sz_cast ha; have cb := sz_cast hb
  have v1 : sz a ≤ sz b → vl a ≤ vl b := fun h => val_le.2 h
  have v2 : sz b ≤ sz a → vl b ≤ vl a := fun h => val_le.2 h
  unfold ik at h
  unfold sv
  by_cases p : a < 9223372036854775808 <;> by_cases q : b < 9223372036854775808
  · rw [if_pos p, if_pos q] at *
    have := v1 (by omega); omega
  · rw [if_pos p] at *; rw [if_neg q] at *; omega
  · rw [if_neg p] at *; rw [if_pos q] at *; omega
  · rw [if_neg p, if_neg q] at *
    have := v2 (by omega); omega

theorem not_less {a b c : Int} (ha : U a) (hb : U b) (hc : U c) (fa : cls a ≤ 2) (fb : cls b ≤ 2) (fc : cls c ≤ 2) (h : ik a < ik b) :
    ik (addV a c) ≤ ik (addV b c) ∧ ik (addV c a) ≤ ik (addV c b) := by
  have m := sv_mono ha hb h
  rw [addV_fin fa fc, addV_fin fb fc, addV_fin fc fa, addV_fin fc fb, ik_finV ha hc, ik_finV hb hc, ik_finV hc ha, ik_finV hc hb]
  exact ⟨ke_mono (by omega), ke_mono (by omega)⟩

theorem wj1 {k : Nat} {a b c : Int} (ha : U a) (hb : U b) (hc : U c) (hk : 3300 ≤ k) (fa : cls a ≤ 2) (fb : cls b ≤ 2) (fc : cls c ≤ 2) (h : ik a < ik b) : hyglaw7_FaddWhole.j1 k a b c false = some true := by
  obtain ⟨k, rfl⟩ : ∃ z, k = z + 1 := ⟨k - 1, by omega⟩
  obtain ⟨n1, n2⟩ := not_less ha hb hc fa fb fc h
  simp only [hyglaw7_FaddWhole.j1, Bool.false_eq_true, if_false]
  rw [first7_f (by omega)]
  simp only [Option.bind_some, if_true]
  rw [add_f hb hc (by omega), add_f ha hc (by omega), add_f hc hb (by omega), add_f hc ha (by omega)]
  simp only [Option.bind_some]
  rw [less_f (addV_U hb hc) (addV_U ha hc), less_f (addV_U hc hb) (addV_U hc ha)]
  simp only [Option.bind_some]
  rw [decide_eq_false (fun z => by have := z.2.2; omega), decide_eq_false (fun z => by have := z.2.2; omega)]
  simp

theorem wj0 {k : Nat} {a b c : Int} (ha : U a) (hb : U b) (hc : U c) (hk : 3400 ≤ k) : hyglaw7_FaddWhole.j0 k a b c false = some true := by
  obtain ⟨k, rfl⟩ : ∃ z, k = z + 1 := ⟨k - 1, by omega⟩
  have hout : hyglaw7_FaddWhole.j1 k a b c true = some true := by
    obtain ⟨k, rfl⟩ : ∃ z, k = z + 1 := ⟨k - 1, by omega⟩
    simp only [hyglaw7_FaddWhole.j1, if_true]
    rw [first7_f (by omega)]; rfl
  simp only [hyglaw7_FaddWhole.j0, Bool.false_eq_true, if_false]
  rw [class_f ha, class_f hb, class_f hc, less_f ha hb]
  simp only [Option.bind_some]
  by_cases c1 : cls a > 2
  · rw [if_pos c1]; exact hout
  rw [if_neg c1]
  by_cases c2 : cls b > 2
  · rw [if_pos c2]; exact hout
  rw [if_neg c2]
  by_cases c3 : cls c > 2
  · rw [if_pos c3]; exact hout
  rw [if_neg c3]
  by_cases c4 : ¬ isNan a ∧ ¬ isNan b ∧ ik a < ik b
  · rw [decide_eq_true c4]; exact wj1 ha hb hc (by omega) (by omega) (by omega) (by omega) c4.2.2
  · rw [decide_eq_false c4]; exact hout

theorem FaddWhole : hyglaw7_FaddWhole.Pure := by
  intro n m a b c hn hm ha hb hc
  have hn := I_of hn
  have hm := I_of hm
  have j0 := wj0 (k := 4000) (U_of ha) (U_of hb) (U_of hc) (by omega)
  refine ⟨4000, ?_⟩
  unfold hyglaw7_FaddWhole.f
  rw [first7_f (by omega)]
  simp only [Option.bind_some, if_true]
  by_cases c1 : n ≥ -4503599627370496
  case neg => rw [if_neg c1]; exact j0
  rw [if_pos c1]
  by_cases c2 : n ≤ 4503599627370496
  case neg => rw [if_neg c2]; exact j0
  rw [if_pos c2]
  by_cases c3 : m ≥ -4503599627370496
  case neg => rw [if_neg c3]; exact j0
  rw [if_pos c3]
  by_cases c4 : m ≤ 4503599627370496
  case neg => rw [if_neg c4]; exact j0
  rw [if_pos c4, fromInt_f hn (by omega), fromInt_f hm (by omega)]
  simp only [Option.bind_some]
  have Is : I (n + m) := by unfold I; omega
  rw [add_f (dbl_U hn) (dbl_U hm) (by omega), wrap64_in (by omega) (by omega), fromInt_f Is (by omega), whole_sum ⟨by omega, by omega⟩ ⟨by omega, by omega⟩]
  simp only [Option.bind_some, bne_self_eq_false]
  exact j0

end Go.Proofs.Ytmljncgglpckcaa.Pure
