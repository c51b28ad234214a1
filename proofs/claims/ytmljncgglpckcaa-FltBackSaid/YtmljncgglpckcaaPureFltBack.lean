/- FltBack: an int64 made a double comes back as itself up to 2^53, beyond it as one no further than 512 away (or as 2^63); the order stays. No condition. -/
import Derived.Test.YtmljncgglpckcaaPFltBackx2
import Derived.Test.YtmljncgglpckcaaFl0
import Derived.Test.YtmljncgglpckcaaFl1
namespace Go.Proofs.Ytmljncgglpckcaa.Pure
open Go.RowKit Go.Proofs.Ytmljncgglpckcaa.PFltBack Go.Proofs.YtmljncgglpckcaaW.PrintWords Go.Proofs.YtmljncgglpckcaaW.PrintLast Go.Proofs.YtmljncgglpckcaaW.PrintMore Go.Proofs.Ytmljncgglpckcaa.Fl

/-! ### flt: what each function tells, as arithmetic -/
def ik (x : Int) : Int := if x < 9223372036854775808 then x else 9223372036854775808 - x
def rk (x : Int) : Int := if x < 9223372036854775808 then x + 9223372036854775808 else 18446744073709551615 - x
def isNan (x : Int) : Prop := x % 9223372036854775808 > 9218868437227405312
instance (x : Int) : Decidable (isNan x) := by unfold isNan; infer_instance
def U (x : Int) : Prop := 0 ≤ x ∧ x < 18446744073709551616

theorem U_of {x : Int} (h : (Lit.int .u64 x).wf = true) : U x := by
  simp [Lit.wf, IntKind.min, IntKind.max, IntKind.bits, IntKind.signed] at h
  unfold U; omega

theorem size_f {x : Int} (h : U x) : flt_size.f x = some (x % 9223372036854775808) := by
  unfold flt_size.f; rw [andNot_sign h.1 h.2]

theorem nan_f {x : Int} (h : U x) : flt_nan.f x = some (decide (isNan x)) := by
  unfold flt_nan.f; rw [size_f h]; rfl

theorem rank_f {x : Int} (h : U x) : flt_rank.f x = some (rk x) := by
  have h1 := h.1; have h2 := h.2
  unfold flt_rank.f rk
  rw [and_sign h1 h2, xor_all h1 h2]
  by_cases hx : x < 9223372036854775808
  · rw [or_sign h1 hx, if_neg (by omega), if_pos hx]
  · rw [if_pos (by omega), if_neg hx]

theorem compare_f (a b : Int) : cmp_Compare_uint64.f a b = some (if a < b then -1 else if a > b then 1 else 0) := by
  unfold cmp_Compare_uint64.f cmp_isNaN_uint64.f
  simp
  split
  · rfl
  · split <;> rfl

theorem order_f {a b : Int} (ha : U a) (hb : U b) : flt_Order.f a b = some (if rk a < rk b then -1 else if rk a > rk b then 1 else 0) := by
  unfold flt_Order.f; rw [rank_f ha, rank_f hb]; simp only [Option.bind_some]; rw [compare_f]; rfl

theorem equal_f {a b : Int} (ha : U a) (hb : U b) : flt_Equal.f a b = some (decide (¬ isNan a ∧ ¬ isNan b ∧ ik a = ik b)) := by
  unfold flt_Equal.f
  rw [nan_f ha, nan_f hb]
  simp only [Option.bind_some]
  obtain ⟨o1, o2, o3⟩ := or_size_zero ha.1 ha.2 hb.1 hb.2
  rw [size_f ⟨o1, o2⟩]
  have a1 := ha.1; have a2 := ha.2; have b1 := hb.1; have b2 := hb.2
  by_cases na : isNan a
  · simp [na]
  · by_cases nb : isNan b
    · simp [na, nb]
    · by_cases e : a = b
      · subst e; simp [na]
      · simp only [na, nb, decide_false, Bool.false_eq_true, if_false, if_neg e, Option.bind_some]
        congr 1
        rw [Bool.eq_iff_iff, beq_iff_eq, o3, decide_eq_true_iff]
        simp only [not_false_iff, true_and]
        unfold ik
        split <;> split <;> omega

theorem less_f {a b : Int} (ha : U a) (hb : U b) : flt_Less.f a b = some (decide (¬ isNan a ∧ ¬ isNan b ∧ ik a < ik b)) := by
  unfold flt_Less.f
  rw [nan_f ha, nan_f hb, equal_f ha hb, order_f ha hb]
  simp only [Option.bind_some]
  have a1 := ha.1; have a2 := ha.2; have b1 := hb.1; have b2 := hb.2
  by_cases na : isNan a
  · simp [na]
  · by_cases nb : isNan b
    · simp [na, nb]
    · simp only [na, nb, decide_false, Bool.false_eq_true, if_false, not_false_iff, true_and, decide_eq_true_iff]
      by_cases e : ik a = ik b
      · rw [if_pos e]; simp [e]
      · rw [if_neg e]
        congr 1
        rw [Bool.eq_iff_iff, decide_eq_true_iff, decide_eq_true_iff]
        unfold ik at *
        unfold rk
        repeat' split
        all_goals (repeat' split at *)
        all_goals omega

def cls (x : Int) : Int := if x % 9223372036854775808 > 9218868437227405312 then 4 else if x % 9223372036854775808 = 9218868437227405312 then 3 else if x % 9223372036854775808 ≥ 4503599627370496 then 2 else if x % 9223372036854775808 > 0 then 1 else 0

theorem class_f {x : Int} (h : U x) : flt_Class.f x = some (cls x) := by
  unfold flt_Class.f cls; rw [size_f h]; simp only [Option.bind_some]
  repeat' split
  all_goals rfl

theorem cls_nan (x : Int) : cls x = 4 ↔ isNan x := by
  unfold cls isNan; repeat' split
  all_goals omega

theorem first_at : hyglaw6_first.f 80 = some true := by decide +kernel
theorem mono_up {f : Nat → Option Bool} (hm : ∀ k, LeO (f k) (f (k + 1))) {k0 : Nat} {r : Bool} (h : f k0 = some r) (d : Nat) : f (k0 + d) = some r := by
  induction d with
  | zero => exact h
  | succ d ih => exact hm _ _ ih
theorem first_f {k : Nat} (h : 80 ≤ k) : hyglaw6_first.f k = some true := by
  obtain ⟨d, rfl⟩ : ∃ d, k = 80 + d := ⟨k - 80, by omega⟩
  exact mono_up hyglaw6_first.mono first_at d

/-! ### shifts by a variable count -/
theorem two_pow_pos_int (n : Nat) : (0 : Int) < 2 ^ n := by
  have h : (0 : Int) < ((2 ^ n : Nat) : Int) := by have := Nat.two_pow_pos n; omega
  simpa using h
theorem cast_pow (n : Nat) : ((2 ^ n : Nat) : Int) = (2 : Int) ^ n := by simp
theorem pow_lt_64 {n : Nat} (h : n < 64) : 2 ^ n < 18446744073709551616 := by
  have := Nat.pow_lt_pow_right (a := 2) (by decide) h
  simpa using this
theorem shl_one {n : Nat} (h : n < 64) : shl .u64 1 (n : Int) = ((2 ^ n : Nat) : Int) := by
  unfold shl
  have h1 : min (n : Int).toNat IntKind.u64.bits = n := by have : IntKind.u64.bits = 64 := rfl; omega
  have h2 := pow_lt_64 h
  rw [h1, Int.one_mul, ← cast_pow]
  exact wrap_in (Int.natCast_nonneg _) (by omega)
theorem shl_nat {m n : Nat} (h : n < 64) (hm : m * 2 ^ n < 18446744073709551616) : shl .u64 (m : Int) (n : Int) = ((m * 2 ^ n : Nat) : Int) := by
  unfold shl
  have h1 : min (n : Int).toNat IntKind.u64.bits = n := by have : IntKind.u64.bits = 64 := rfl; omega
  rw [h1, ← cast_pow, ← Int.natCast_mul]
  exact wrap_in (Int.natCast_nonneg _) (by omega)
theorem shr_nat (m : Nat) {n : Nat} (h : n ≤ 64) : shr .u64 (m : Int) (n : Int) = ((m / 2 ^ n : Nat) : Int) := by
  unfold shr
  have h1 : min (n : Int).toNat IntKind.u64.bits = n := by have : IntKind.u64.bits = 64 := rfl; omega
  rw [h1, ← cast_pow]
  simp
theorem mask_nat {m n : Nat} (hm : m < 18446744073709551616) (h : n < 64) : Go.bits .and .u64 (m : Int) (IntKind.u64.wrap (shl .u64 1 (n : Int) - 1)) = ((m % 2 ^ n : Nat) : Int) := by
  have h2 := pow_lt_64 h
  have h3 := Nat.two_pow_pos n
  rw [shl_one h, wrap_in (by omega) (by omega), cast_pow, mask (by omega) (by omega) n (by omega), ← cast_pow]
  simp

/-! ### FromInt: the nearest double, in the program and in the reference -/
theorem near_l0 : ∀ (d k x e : Nat), x < 2 ^ 64 → 2 ^ 63 ≤ x * 2 ^ d → x * 2 ^ d < 2 ^ 64 → d < k → d + 1 ≤ e → e ≤ 1086 → d ≤ 63 →
    flt_near.l0 k x e = some (((e - d - 1) * 2 ^ 52 + rnd (x * 2 ^ d) 11 : Nat) : Int) := by
  intro d
  induction d with
  | zero =>
    intro k x e hx h1 h2 hk he he2 _
    obtain ⟨k, rfl⟩ : ∃ m, k = m + 1 := ⟨k - 1, by omega⟩
    simp only [flt_near.l0]
    rw [Nat.pow_zero, Nat.mul_one] at h1 h2
    have a1 := and_2047 (x := (x : Int)) (by omega) (by omega)
    rw [if_neg (by omega), a1, wrap_in (n := (x : Int) / 2048 - 4503599627370496) (by omega) (by omega), wrap_in (n := (e : Int) * 4503599627370496) (by omega) (by omega),
      wrap_in (n := (e : Int) * 4503599627370496 + ((x : Int) / 2048 - 4503599627370496)) (by omega) (by omega),
      wrap_in (n := (e : Int) * 4503599627370496 + ((x : Int) / 2048 - 4503599627370496) + 1) (by omega) (by omega), and_1 (by omega) (by omega)]
    rw [Nat.pow_zero, Nat.mul_one]
    unfold rnd Fl.up
    have e11 : 2 ^ 11 = 2048 := by decide
    rw [e11]
    by_cases c1 : (x : Int) % 2048 > 1024
    · rw [if_pos c1, if_pos (by omega)]; congr 1; omega
    · rw [if_neg c1]
      by_cases c2 : (x : Int) % 2048 = 1024
      · rw [if_pos c2]
        by_cases c3 : ((e : Int) * 4503599627370496 + ((x : Int) / 2048 - 4503599627370496)) % 2 = 1
        · rw [if_pos c3, if_pos (by omega)]; congr 1; omega
        · rw [if_neg c3, if_neg (by omega)]; congr 1; omega
      · rw [if_neg c2, if_neg (by omega)]; congr 1; omega
  | succ d ih =>
    intro k x e hx h1 h2 hk he he2 hd
    obtain ⟨k, rfl⟩ : ∃ m, k = m + 1 := ⟨k - 1, by omega⟩
    simp only [flt_near.l0]
    have hp : x * 2 ^ (d + 1) = x * 2 * 2 ^ d := by rw [Nat.pow_succ, Nat.mul_assoc, Nat.mul_comm 2]
    have hx2 : x * 2 < 2 ^ 64 := by
      have : x * 2 * 1 ≤ x * 2 * 2 ^ d := Nat.mul_le_mul_left _ (Nat.two_pow_pos d)
      omega
    rw [if_pos (by omega), wrap_in (n := (x : Int) * 2) (by omega) (by omega), wrap_in (n := (e : Int) - 1) (by omega) (by omega)]
    rw [hp] at h1 h2 ⊢
    have := ih k (x * 2) (e - 1) hx2 h1 h2 (by omega) (by omega) (by omega) (by omega)
    have e1 : (x : Int) * 2 = ((x * 2 : Nat) : Int) := by omega
    have e2 : (e : Int) - 1 = ((e - 1 : Nat) : Int) := by omega
    rw [e1, e2, this, show e - 1 - d - 1 = e - (d + 1) - 1 from by omega]

/-- in units of 2^-1074: the value of a whole number -/
def K1074 : Nat := 1074
theorem K_is : K1074 = 1074 := rfl
attribute [irreducible] K1074
def un (n : Nat) : Nat := n * 2 ^ K1074

theorem near_un {n d : Nat} (h1 : 2 ^ 63 ≤ n * 2 ^ d) (h2 : n * 2 ^ d < 2 ^ 64) (hd : d ≤ 63) : near (un n) = (1085 - d) * 2 ^ 52 + rnd (n * 2 ^ d) 11 := by
  have hK := K_is
  have e0 : un n = n * 2 ^ d * 2 ^ (K1074 - d) := by
    unfold un; rw [Nat.mul_assoc, ← Nat.pow_add, show d + (K1074 - d) = K1074 from by omega]
  have hk : kk (un n) = 1085 - d := by
    apply kk_eq
    · rw [e0, show 52 + (1085 - d) = 63 + (K1074 - d) from by omega, Nat.pow_add]; exact Nat.mul_le_mul_right _ h1
    · rw [e0, show 53 + (1085 - d) = 64 + (K1074 - d) from by omega, Nat.pow_add]; exact (Nat.mul_lt_mul_right (Nat.two_pow_pos _)).2 h2
  unfold near
  rw [hk, e0, show 1085 - d = (K1074 - d) + 11 from by omega, rnd_scale]

theorem shift_of {n : Nat} (h0 : 0 < n) (h : n < 2 ^ 64) : ∃ d, d ≤ 63 ∧ 2 ^ 63 ≤ n * 2 ^ d ∧ n * 2 ^ d < 2 ^ 64 := by
  have h1 := Nat.log2_self_le (n := n) (by omega)
  have h2 := @Nat.lt_log2_self n
  have h3 : Nat.log2 n < 64 := (Nat.log2_lt (by omega)).2 h
  refine ⟨63 - Nat.log2 n, by omega, ?_, ?_⟩
  · have := Nat.mul_le_mul_right (2 ^ (63 - Nat.log2 n)) h1
    rw [← Nat.pow_add, show Nat.log2 n + (63 - Nat.log2 n) = 63 from by omega] at this
    exact this
  · have := (Nat.mul_lt_mul_right (Nat.two_pow_pos (63 - Nat.log2 n))).2 h2
    rw [← Nat.pow_add, show Nat.log2 n + 1 + (63 - Nat.log2 n) = 64 from by omega] at this
    exact this

theorem near_un_lt {n : Nat} (h0 : 0 < n) (h : n < 2 ^ 64) : near (un n) ≤ 1086 * 2 ^ 52 + 2 ^ 52 := by
  obtain ⟨d, hd, h1, h2⟩ := shift_of h0 h
  rw [near_un h1 h2 hd]
  have := up_le (n * 2 ^ d) 11
  unfold rnd
  have : n * 2 ^ d / 2 ^ 11 < 2 ^ 53 := by omega
  omega

theorem near_f {n k : Nat} (h0 : 0 < n) (h : n < 2 ^ 64) (hk : 65 ≤ k) : flt_near.f k n = some ((near (un n) : Nat) : Int) := by
  obtain ⟨d, hd, h1, h2⟩ := shift_of h0 h
  unfold flt_near.f
  have := near_l0 d k n 1086 h h1 h2 (by omega) (by omega) (by omega) hd
  rw [near_un h1 h2 hd]
  rw [show 1086 - d - 1 = 1085 - d from by omega] at this
  exact this

/-- the double of a whole number -/
def dbl (n : Int) : Int := if n < 0 then (near (un n.natAbs) : Nat) + 9223372036854775808 else (near (un n.natAbs) : Nat)
def I (n : Int) : Prop := -9223372036854775808 ≤ n ∧ n < 9223372036854775808
theorem I_of {x : Int} (h : (Lit.int .i64 x).wf = true) : I x := by
  simp [Lit.wf, IntKind.min, IntKind.max, IntKind.bits, IntKind.signed] at h
  unfold I; omega

theorem near_un_zero : near (un 0) = 0 := by
  have h : un 0 = 0 := Nat.zero_mul _
  rw [h]; decide

theorem fromInt_f {n : Int} {k : Nat} (h : I n) (hk : 65 ≤ k) : flt_FromInt.f k n = some (dbl n) := by
  have h1 := h.1; have h2 := h.2
  unfold flt_FromInt.f dbl
  by_cases c1 : n < 0
  · rw [if_pos c1, if_pos c1]
    have e : IntKind.u64.wrap (-(IntKind.u64.wrap n)) = (n.natAbs : Int) := by rw [wrap_u, wrap_u]; omega
    rw [e, near_f (by omega) (by omega) hk]
    simp only [Option.bind_some]
    have := near_un_lt (n := n.natAbs) (by omega) (by omega)
    rw [or_sign (by omega) (by omega)]
  · rw [if_neg c1, if_neg c1]
    by_cases c2 : n > 0
    · rw [if_pos c2]
      have e : IntKind.u64.wrap n = (n.natAbs : Int) := by rw [wrap_u]; omega
      rw [e, near_f (by omega) (by omega) hk]
      simp only [Option.bind_some]
    · rw [if_neg c2]
      have : n = 0 := by omega
      subst this
      rw [Int.natAbs_zero, near_un_zero]; rfl

/-! ### ToInt: the whole number that a double is -/
def chk (neg : Bool) (m : Nat) : Int × Bool := if neg then (if m ≤ 9223372036854775808 then (-(m : Int), true) else (0, false)) else (if m < 9223372036854775808 then ((m : Int), true) else (0, false))
def toI (neg : Bool) (S : Nat) : Int × Bool :=
  if S = 0 then (0, true) else if ex S > 1085 then (0, false) else if ex S ≥ 1074 then chk neg (fr S * 2 ^ (ex S - 1074))
  else if fr S % 2 ^ (1074 - ex S) = 0 then chk neg (fr S / 2 ^ (1074 - ex S)) else (0, false)

theorem fr_pos {S : Nat} (h : S ≠ 0) : 0 < fr S := by unfold fr; split <;> omega

theorem tj1_f {k : Nat} {x : Int} (h : U x) (hk : 2 ≤ k) {m : Nat} (hm : m < 2 ^ 64) : flt_ToInt.j1 k x m = some (chk (decide (9223372036854775808 ≤ x)) m) := by
  obtain ⟨k, rfl⟩ : ∃ z, k = z + 2 := ⟨k - 2, by omega⟩
  have h1 := h.1; have h2 := h.2
  simp only [flt_ToInt.j1, flt_ToInt.j2]
  rw [and_sign h1 h2]
  unfold chk
  by_cases c1 : 9223372036854775808 ≤ x
  · rw [if_pos (by omega)]
    simp only [c1, decide_true, if_true]
    by_cases c2 : m ≤ 9223372036854775808
    · rw [if_pos (by simpa using (by omega : (m : Int) ≤ 9223372036854775808)), if_pos c2]
      congr 2
      unfold wrap64; omega
    · rw [if_neg (by simpa using (by omega : ¬ (m : Int) ≤ 9223372036854775808)), if_neg c2, if_neg (by omega)]
  · rw [if_neg (by omega)]
    simp only [c1, decide_false, Bool.false_eq_true, if_false]
    rw [if_pos (by omega)]
    by_cases c2 : m < 9223372036854775808
    · rw [if_pos (by omega), if_pos c2]
      congr 2
      unfold wrap64; omega
    · rw [if_neg (by omega), if_neg c2]

theorem toInt_f {k : Nat} {x : Int} (h : U x) (hk : 4 ≤ k) : flt_ToInt.f k x = some (toI (decide (9223372036854775808 ≤ x)) (x % 9223372036854775808).toNat) := by
  obtain ⟨k, rfl⟩ : ∃ z, k = z + 1 := ⟨k - 1, by omega⟩
  have h1 := h.1; have h2 := h.2
  unfold flt_ToInt.f
  rw [size_f h]
  simp only [Option.bind_some]
  obtain ⟨S, hS⟩ : ∃ S : Nat, (S : Int) = x % 9223372036854775808 := ⟨(x % 9223372036854775808).toNat, by omega⟩
  rw [← hS, show ((S : Int)).toNat = S from by omega]
  have hS2 : S < 9223372036854775808 := by omega
  unfold toI
  by_cases c0 : S = 0
  · rw [if_pos (by omega), if_pos c0]
  rw [if_neg (by omega), if_neg c0]
  rw [wrap64_in (n := (S : Int) / 4503599627370496) (by omega) (by omega), wrap64_in (n := (S : Int) / 4503599627370496 - 1075) (by omega) (by omega)]
  have hmm : Go.bits .or .u64 (Go.bits .and .u64 x 4503599627370495) 4503599627370496 = ((S % 4503599627370496 + 4503599627370496 : Nat) : Int) := by
    rw [and_frac h1 h2, or_hidden (by omega) (by omega)]; omega
  rw [hmm]
  have hex : ex S = S / 4503599627370496 - 1 := rfl
  have hfp := fr_pos c0
  have hfh := fr_high S
  by_cases c1 : (S : Int) / 4503599627370496 - 1075 > 11
  · rw [if_pos c1, if_pos (by omega)]
    simp only [flt_ToInt.j0, if_true]
  · rw [if_neg c1, if_neg (by omega)]
    simp only [flt_ToInt.j0]
    by_cases c2 : (S : Int) / 4503599627370496 - 1075 < -52
    · rw [if_pos (by simpa using c2), if_neg (by omega)]
      have : fr S % 2 ^ (1074 - ex S) = fr S := by
        apply Nat.mod_eq_of_lt
        have : 2 ^ 53 ≤ 2 ^ (1074 - ex S) := Nat.pow_le_pow_right (by decide) (by omega)
        omega
      rw [this, if_neg (by omega)]
    · rw [if_neg (by simpa using c2)]
      have hfr : fr S = S % 4503599627370496 + 4503599627370496 := by
        have e : (4503599627370496 : Nat) = 2 ^ 52 := by decide
        unfold fr; rw [← e, if_neg (by omega)]
      rw [← hfr]
      by_cases c3 : (S : Int) / 4503599627370496 - 1075 ≥ 0
      · rw [if_pos c3, if_pos c3, if_pos (by omega)]
        have e : (S : Int) / 4503599627370496 - 1075 = ((ex S - 1074 : Nat) : Int) := by omega
        have hb : fr S * 2 ^ (ex S - 1074) < 18446744073709551616 := by
          have a : 2 ^ (ex S - 1074) ≤ 2 ^ 11 := Nat.pow_le_pow_right (by decide) (by omega)
          have b : fr S * 2 ^ (ex S - 1074) ≤ fr S * 2 ^ 11 := Nat.mul_le_mul_left _ a
          omega
        rw [e, shl_nat (by omega) hb, tj1_f h (by omega) (by omega)]
      · rw [if_neg c3, wrap64_in (by omega) (by omega), if_pos (by omega), if_neg (show ¬ ex S ≥ 1074 from by omega)]
        have e : -((S : Int) / 4503599627370496 - 1075) = ((1074 - ex S : Nat) : Int) := by omega
        rw [e, mask_nat (by omega) (by omega), shr_nat _ (by omega)]
        have hle : fr S / 2 ^ (1074 - ex S) ≤ fr S := Nat.div_le_self _ _
        by_cases c4 : fr S % 2 ^ (1074 - ex S) = 0
        · rw [if_pos c4, c4, if_neg (by decide), tj1_f h (by omega) (by omega)]
        · rw [if_neg c4, if_pos (by have := Nat.pos_of_ne_zero c4; exact Int.ofNat_lt.2 this)]

/-! ### what a double is worth, in units of 2^-1074 -/
theorem val_of {k q : Nat} (h2 : q ≤ 2 ^ 53) (h3 : 0 < k → 2 ^ 52 ≤ q) : val (k * 2 ^ 52 + q) = q * 2 ^ k := by
  unfold val ex fr
  by_cases h : q = 2 ^ 53
  · subst h
    have e1 : (k * 2 ^ 52 + 2 ^ 53) / 2 ^ 52 = k + 2 := by omega
    have e2 : (k * 2 ^ 52 + 2 ^ 53) % 2 ^ 52 = 0 := by omega
    have hs : 2 ^ (k + 1) = 2 ^ k * 2 := Nat.pow_succ _ _
    have e3 : (2 : Nat) ^ 53 = 2 ^ 52 * 2 := by decide
    rw [e1, e2, if_neg (by omega), show k + 2 - 1 = k + 1 from by omega, hs, e3, Nat.zero_add, Nat.mul_assoc, Nat.mul_comm 2]
  · by_cases h4 : q < 2 ^ 52
    · have hk : k = 0 := by omega
      subst hk
      have e1 : (0 * 2 ^ 52 + q) / 2 ^ 52 = 0 := by omega
      rw [e1, if_pos rfl]; simp
    · have e1 : (k * 2 ^ 52 + q) / 2 ^ 52 = k + 1 := by omega
      have e2 : (k * 2 ^ 52 + q) % 2 ^ 52 = q - 2 ^ 52 := by omega
      rw [e1, e2, if_neg (by omega), show q - 2 ^ 52 + 2 ^ 52 = q from by omega, show k + 1 - 1 = k from by omega]

theorem rnd_high (V : Nat) : rnd V (kk V) ≤ 2 ^ 53 := by
  have a := q_high V
  have b := up_le V (kk V)
  unfold rnd; omega

theorem rnd_low {V : Nat} (h : 0 < kk V) : 2 ^ 52 ≤ rnd V (kk V) := by
  have a := q_low h
  unfold rnd; omega

theorem val_near (V : Nat) : val (near V) = rnd V (kk V) * 2 ^ kk V := by
  unfold near; exact val_of (rnd_high V) rnd_low

/-- rounding errs by a half at most -/
theorem rnd_err (X g : Nat) : 2 * (rnd X g * 2 ^ g) ≤ 2 * X + 2 ^ g ∧ 2 * X ≤ 2 * (rnd X g * 2 ^ g) + 2 ^ g := by
  have hB := Nat.div_add_mod X (2 ^ g)
  have hm := Nat.mod_lt X (Nat.two_pow_pos g)
  rw [Nat.mul_comm] at hB
  unfold rnd Fl.up
  split
  · rw [Nat.add_mul]; omega
  · rw [Nat.add_mul]; omega

/-! ### there and back -/
theorem near_un_exact {n : Nat} (h : n ≤ 2 ^ 53) : val (near (un n)) = un n := by
  have hK := K_is
  rcases Nat.eq_zero_or_pos n with h0 | h0
  · have e : un n = 0 := by rw [h0]; exact Nat.zero_mul _
    rw [e]; decide
  · obtain ⟨q, k, e, h2, h3⟩ : ∃ q k, un n = q * 2 ^ k ∧ q < 2 ^ 53 ∧ 2 ^ 52 ≤ q := by
      by_cases h53 : n = 2 ^ 53
      · refine ⟨2 ^ 52, K1074 + 1, ?_, by decide, Nat.le_refl _⟩
        have hs : 2 ^ (K1074 + 1) = 2 ^ K1074 * 2 := Nat.pow_succ _ _
        have e3 : (2 : Nat) ^ 53 = 2 ^ 52 * 2 := by decide
        unfold un; rw [h53, hs, e3, Nat.mul_assoc, Nat.mul_comm 2]
      · obtain ⟨d, hd, h1, h2⟩ := shift_of h0 (by omega)
        have hd11 : 11 ≤ d := by
          rcases Nat.lt_or_ge d 11 with c | c
          · have a : 2 ^ d ≤ 2 ^ 10 := Nat.pow_le_pow_right (by decide) (by omega)
            have b : n * 2 ^ d ≤ n * 2 ^ 10 := Nat.mul_le_mul_left _ a
            omega
          · exact c
        have e : n * 2 ^ d = n * 2 ^ (d - 11) * 2 ^ 11 := by rw [Nat.mul_assoc, ← Nat.pow_add]; congr 2; omega
        refine ⟨n * 2 ^ (d - 11), K1074 + 11 - d, ?_, by omega, by omega⟩
        unfold un; rw [Nat.mul_assoc, ← Nat.pow_add]; congr 2; omega
    rw [near_of e h2 (fun _ => h3), val_of (by omega) (fun _ => h3), e]

theorem near_un_close {n : Nat} (h1 : 2 ^ 53 < n) (h2 : n ≤ 2 ^ 63) : ∃ N, val (near (un n)) = un N ∧ N ≤ n + 512 ∧ n ≤ N + 512 ∧ N ≤ 2 ^ 63 := by
  have hK := K_is
  obtain ⟨d, hd, a1, a2⟩ := shift_of (n := n) (by omega) (by omega)
  have hd10 : d ≤ 10 := by
    rcases Nat.lt_or_ge 10 d with c | c
    · have a : 2 ^ 11 ≤ 2 ^ d := Nat.pow_le_pow_right (by decide) (by omega)
      have b : n * 2 ^ 11 ≤ n * 2 ^ d := Nat.mul_le_mul_left _ a
      omega
    · exact c
  obtain ⟨r, hr⟩ : ∃ r, r = rnd (n * 2 ^ d) 11 := ⟨_, rfl⟩
  have herr := rnd_err (n * 2 ^ d) 11
  rw [← hr] at herr
  have hrh : r ≤ 2 ^ 53 := by
    have := up_le (n * 2 ^ d) 11
    have q : n * 2 ^ d / 2 ^ 11 < 2 ^ 53 := by omega
    rw [hr]; unfold rnd; omega
  have hrl : 2 ^ 52 ≤ r := by
    have q : 2 ^ 52 ≤ n * 2 ^ d / 2 ^ 11 := by omega
    rw [hr]; unfold rnd; omega
  have hv : val (near (un n)) = un (r * 2 ^ (11 - d)) := by
    rw [near_un a1 a2 hd, ← hr, val_of hrh (fun _ => hrl)]
    unfold un
    rw [Nat.mul_assoc, ← Nat.pow_add]; congr 2; omega
  refine ⟨r * 2 ^ (11 - d), hv, ?_⟩
  have e11 : r * 2 ^ 11 = r * 2 ^ (11 - d) * 2 ^ d := by rw [Nat.mul_assoc, ← Nat.pow_add]; congr 2; omega
  generalize r * 2 ^ (11 - d) = N at e11
  rcases Nat.eq_zero_or_pos d with z | z
  · subst z
    rw [Nat.pow_zero, Nat.mul_one] at e11 a1 a2 herr
    have : n = 2 ^ 63 := by omega
    have hr2 : r = 2 ^ 52 := by
      rw [hr, this]; decide
    omega
  · obtain ⟨c, rfl⟩ : ∃ c, d = c + 1 := ⟨d - 1, by omega⟩
    have ep : ∀ y : Nat, y * 2 ^ (c + 1) = 2 * (y * 2 ^ c) := by intro y; rw [Nat.pow_succ, ← Nat.mul_assoc, Nat.mul_comm]
    rw [ep] at a1 a2 herr e11
    have hc := Nat.two_pow_pos c
    refine ⟨?_, ?_, ?_⟩
    · rcases Nat.lt_or_ge (n + 512) N with w | w
      · have : (n + 513) * 2 ^ c ≤ N * 2 ^ c := Nat.mul_le_mul_right _ w
        rw [Nat.add_mul] at this; omega
      · exact w
    · rcases Nat.lt_or_ge (N + 512) n with w | w
      · have : (N + 513) * 2 ^ c ≤ n * 2 ^ c := Nat.mul_le_mul_right _ w
        rw [Nat.add_mul] at this; omega
      · exact w
    · rcases Nat.lt_or_ge (2 ^ 63) N with w | w
      · have : (2 ^ 63 + 1) * 2 ^ c ≤ N * 2 ^ c := Nat.mul_le_mul_right _ w
        rw [Nat.add_mul] at this; omega
      · exact w

theorem un_inj {a b : Nat} (h : un a = un b) : a = b := Nat.eq_of_mul_eq_mul_right (Nat.two_pow_pos _) h

theorem toI_val {neg : Bool} {S N : Nat} (h : val S = un N) (hN : N ≤ 2 ^ 63) : toI neg S = chk neg N := by
  have hK := K_is
  unfold toI
  by_cases c0 : S = 0
  · rw [if_pos c0]
    have : N = 0 := by
      apply un_inj; rw [← h, c0, val_zero]; exact (Nat.zero_mul _).symm
    subst this
    unfold chk; cases neg <;> rfl
  · rw [if_neg c0]
    unfold val un at h
    by_cases c2 : ex S ≥ 1074
    · have e : fr S * 2 ^ (ex S - 1074) = N := by
        have : fr S * 2 ^ (ex S - 1074) * 2 ^ K1074 = N * 2 ^ K1074 := by
          rw [← h, Nat.mul_assoc, ← Nat.pow_add]; congr 2; omega
        exact Nat.eq_of_mul_eq_mul_right (Nat.two_pow_pos _) this
      have hf : 2 ^ 52 ≤ fr S := fr_low (by unfold ex at c2; omega)
      have c1 : ¬ ex S > 1085 := by
        intro c1
        have a : 2 ^ 12 ≤ 2 ^ (ex S - 1074) := Nat.pow_le_pow_right (by decide) (by omega)
        have b : 2 ^ 52 * 2 ^ 12 ≤ fr S * 2 ^ (ex S - 1074) := Nat.mul_le_mul hf a
        omega
      rw [if_neg c1, if_pos c2, e]
    · rw [if_neg (by omega), if_neg c2]
      have e : fr S = N * 2 ^ (1074 - ex S) := by
        have : fr S * 2 ^ ex S = N * 2 ^ (1074 - ex S) * 2 ^ ex S := by
          rw [h, Nat.mul_assoc, ← Nat.pow_add]; congr 2; omega
        exact Nat.eq_of_mul_eq_mul_right (Nat.two_pow_pos _) this
      rw [e, Nat.mul_mod_left, if_pos rfl, Nat.mul_div_cancel _ (Nat.two_pow_pos _)]

theorem near_un_pos {n : Nat} (h : 0 < n) : 0 < near (un n) := by
  have h1 : 1 ≤ un n := by unfold un; exact Nat.mul_pos h (Nat.two_pow_pos _)
  have h2 := near_mono h1
  have h3 : near 1 = 1 := by decide
  omega

theorem near_un_lt' {n : Nat} (h : n < 2 ^ 64) : near (un n) < 9218868437227405312 := by
  rcases Nat.eq_zero_or_pos n with h0 | h0
  · subst h0; rw [near_un_zero]; decide
  · have := near_un_lt h0 h; omega

theorem dbl_U {n : Int} (h : I n) : U (dbl n) := by
  have h1 := h.1; have h2 := h.2
  have := near_un_lt' (n := n.natAbs) (by omega)
  unfold U dbl; split <;> omega

theorem dbl_nan {n : Int} (h : I n) : ¬ isNan (dbl n) := by
  have h1 := h.1; have h2 := h.2
  have := near_un_lt' (n := n.natAbs) (by omega)
  unfold isNan dbl; split <;> omega

theorem ik_dbl {n : Int} (h : I n) : ik (dbl n) = if n < 0 then -((near (un n.natAbs) : Nat) : Int) else ((near (un n.natAbs) : Nat) : Int) := by
  have h1 := h.1; have h2 := h.2
  have := near_un_lt' (n := n.natAbs) (by omega)
  unfold ik dbl; split <;> (split <;> omega)

theorem un_mono {a b : Nat} (h : a ≤ b) : un a ≤ un b := Nat.mul_le_mul_right _ h

theorem dbl_mono {n m : Int} (hn : I n) (hm : I m) (h : n ≤ m) : ik (dbl n) ≤ ik (dbl m) := by
  rw [ik_dbl hn, ik_dbl hm]
  split <;> split
  · have := near_mono (un_mono (show m.natAbs ≤ n.natAbs by omega)); omega
  · omega
  · omega
  · have := near_mono (un_mono (show n.natAbs ≤ m.natAbs by omega)); omega

theorem dbl_size {n : Int} (h : I n) : (dbl n % 9223372036854775808).toNat = near (un n.natAbs) ∧ (9223372036854775808 ≤ dbl n ↔ n < 0) := by
  have h1 := h.1; have h2 := h.2
  have := near_un_lt' (n := n.natAbs) (by omega)
  unfold dbl; split
  · constructor <;> omega
  · constructor <;> omega

theorem dbl_back {n : Int} (h : I n) (h53 : n.natAbs ≤ 2 ^ 53) : toI (decide (9223372036854775808 ≤ dbl n)) (dbl n % 9223372036854775808).toNat = (n, true) := by
  obtain ⟨e1, e2⟩ := dbl_size h
  rw [e1, toI_val (near_un_exact h53) (by omega)]
  have h1 := h.1; have h2 := h.2
  unfold chk
  by_cases c : n < 0
  · rw [if_pos (by simpa using e2.2 c), if_pos (by omega)]
    congr 1; omega
  · rw [if_neg (by simpa using (fun z => c (e2.1 z))), if_pos (by omega)]
    congr 1; omega

theorem dbl_close {n : Int} (h : I n) (h53 : 2 ^ 53 < n.natAbs) :
    (∃ z : Int, toI (decide (9223372036854775808 ≤ dbl n)) (dbl n % 9223372036854775808).toNat = (z, true) ∧ I z ∧ z ≤ n + 512 ∧ n ≤ z + 512) ∨
      ((toI (decide (9223372036854775808 ≤ dbl n)) (dbl n % 9223372036854775808).toNat).2 = false ∧ dbl n = 4890909195324358656) := by
  obtain ⟨e1, e2⟩ := dbl_size h
  have h1 := h.1; have h2 := h.2
  obtain ⟨N, hN, a, b, c63⟩ := near_un_close h53 (by omega)
  rw [e1, toI_val hN c63]
  unfold chk
  by_cases c : n < 0
  · left
    rw [if_pos (by simpa using e2.2 c), if_pos (by omega)]
    exact ⟨-(N : Int), rfl, by unfold I; omega, by omega, by omega⟩
  · rw [if_neg (by simpa using (fun z => c (e2.1 z)))]
    by_cases d : N < 9223372036854775808
    · left
      rw [if_pos d]
      exact ⟨N, rfl, by unfold I; omega, by omega, by omega⟩
    · right
      rw [if_neg d]
      refine ⟨rfl, ?_⟩
      have hN63 : N = 2 ^ 63 := by omega
      have e3 : near (un n.natAbs) = 4890909195324358656 := by
        apply val_inj
        rw [hN, hN63]
        have hK := K_is
        obtain ⟨kx, hkx⟩ : ∃ kx, kx = K1074 + 11 := ⟨_, rfl⟩
        have e4 : (4890909195324358656 : Nat) = kx * 2 ^ 52 + 2 ^ 52 := by omega
        rw [e4, val_of (by decide) (fun _ => Nat.le_refl _)]
        unfold un
        rw [← Nat.pow_add, ← Nat.pow_add]; congr 1; omega
      unfold dbl
      rw [if_neg c, e3]; rfl

theorem FltBack : hyglaw6_FltBack.Pure := by
  intro n m hn hm
  have hn := I_of hn
  have hm := I_of hm
  have Un := dbl_U hn
  have Um := dbl_U hm
  have U0 : U 0 := by unfold U; omega
  refine ⟨200, ?_⟩
  have hjoin : ∀ b : Bool, b = false → hyglaw6_FltBack.j0 200 n m (dbl n) (dbl m) b = some true := by
    intro b hb
    subst hb
    simp only [hyglaw6_FltBack.j0, Bool.false_eq_true, if_false]
    rw [toInt_f Un (by omega)]
    simp only [Option.bind_some]
    have h1 := hn.1; have h2 := hn.2
    by_cases c : n.natAbs ≤ 2 ^ 53
    · rw [dbl_back hn c, if_pos (by omega)]
      simp only [hyglaw6_FltBack.j1]
      rw [if_pos (by simpa using (by omega : n ≤ 9007199254740992)), first_f (by omega)]
      simp only [Option.bind_some, if_true]
      by_cases d1 : m < -9007199254740992
      · rw [if_pos d1]
      · rw [if_neg d1]
        by_cases d2 : m > 9007199254740992
        · rw [if_pos d2]
        · rw [if_neg d2]
          congr 1
          rw [beq_iff_eq, Bool.eq_iff_iff, beq_iff_eq, beq_iff_eq]
          constructor
          · intro e; rw [e]
          · intro e
            have a := dbl_back hn c
            have b := dbl_back hm (by omega)
            rw [e, b] at a
            simpa using congrArg Prod.fst a.symm
    · have key : ∀ X : Int × Bool, X = toI (decide (9223372036854775808 ≤ dbl n)) (dbl n % 9223372036854775808).toNat → hyglaw6_FltBack.j1 199 n m (dbl n) (dbl m) X.1 X.2 false = some true := by
        intro X hX
        simp only [hyglaw6_FltBack.j1, Bool.false_eq_true, if_false]
        rw [first_f (by omega)]
        simp only [Option.bind_some, if_true]
        rcases dbl_close hn (by omega) with ⟨z, e, hz, a, b⟩ | ⟨e1, e2⟩
        · rw [hX, e]
          simp only [if_true]
          have z1 := hz.1; have z2 := hz.2
          have w1 : IntKind.u64.wrap (IntKind.u64.wrap n - IntKind.u64.wrap z) = (n - z) % 18446744073709551616 := by simp only [wrap_u]; omega
          have w2 : IntKind.u64.wrap (IntKind.u64.wrap z - IntKind.u64.wrap n) = (z - n) % 18446744073709551616 := by simp only [wrap_u]; omega
          rw [w1, w2]
          by_cases lt : z < n
          · rw [if_pos lt]; congr 1; rw [decide_eq_true_iff]; omega
          · rw [if_neg lt]; congr 1; rw [decide_eq_true_iff]; omega
        · rw [hX, e1, e2]; rfl
      by_cases c2 : n ≥ -9007199254740992
      · rw [if_pos c2]
        have : decide (n ≤ 9007199254740992) = false := by rw [decide_eq_false_iff_not]; omega
        rw [this]; exact key _ rfl
      · rw [if_neg c2]; exact key _ rfl
  have hless0 : flt_Less.f (dbl n) 0 = some (decide (n < 0)) := by
    rw [less_f Un U0]
    have n0 : ¬ isNan 0 := by unfold isNan; omega
    have hi : ik 0 = 0 := by decide
    rw [hi, ik_dbl hn]
    congr 1
    rw [Bool.eq_iff_iff, decide_eq_true_iff, decide_eq_true_iff]
    simp only [dbl_nan hn, n0, not_false_iff, true_and]
    split
    · have := near_un_pos (n := n.natAbs) (by omega); omega
    · omega
  unfold hyglaw6_FltBack.f
  rw [first_f (by omega), fromInt_f hn (by omega), fromInt_f hm (by omega)]
  simp only [Option.bind_some, if_true]
  rw [hless0, less_f Um Un]
  simp only [Option.bind_some, bne_self_eq_false]
  rw [hjoin false rfl]
  by_cases c1 : n < m
  · rw [if_pos c1]
    have hm2 := dbl_mono hn hm (by omega)
    have : decide (¬ isNan (dbl m) ∧ ¬ isNan (dbl n) ∧ ik (dbl m) < ik (dbl n)) = false := by
      rw [decide_eq_false_iff_not]; rintro ⟨_, _, z⟩; omega
    rw [this]
    simp only [Bool.false_eq_true, if_false]
    rw [if_neg (by omega)]
  · rw [if_neg c1]
    by_cases c2 : n = m
    · subst c2; simp
    · rw [if_neg c2]

end Go.Proofs.Ytmljncgglpckcaa.Pure
