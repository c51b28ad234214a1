/- Plain facts on the bit operations of 64-bit words, each as arithmetic on whole numbers: no program in sight. -/
import Derived.WalkKit
import Derived.Laws.BitsLemmas
namespace Go.Proofs.Ytmljncgglpckcaa.Fl
open Go.RowKit

theorem wrap_u (n : Int) : IntKind.u64.wrap n = n % 18446744073709551616 := by simp [IntKind.wrap, IntKind.bits, IntKind.signed]
theorem wrap_in {n : Int} (h0 : 0 ≤ n) (h1 : n < 18446744073709551616) : IntKind.u64.wrap n = n := by rw [wrap_u]; omega
theorem wraps_u64 (n : Int) (h₀ : 0 ≤ n) (h₁ : n < 2 ^ 64) : IntKind.u64.wrap n = n := wrap_in h₀ (by omega)
theorem wrap64_in {n : Int} (h0 : -9223372036854775808 ≤ n) (h1 : n < 9223372036854775808) : wrap64 n = n := by unfold wrap64; omega

theorem and_nat {a b : Nat} (ha : a < 2 ^ 64) (hb : b < 2 ^ 64) : Go.bits .and .u64 (a : Int) (b : Int) = ((a &&& b : Nat) : Int) :=
  (bits_nat .u64 64 (by decide) wraps_u64 a b ha hb).1
theorem or_nat {a b : Nat} (ha : a < 2 ^ 64) (hb : b < 2 ^ 64) : Go.bits .or .u64 (a : Int) (b : Int) = ((a ||| b : Nat) : Int) :=
  (bits_nat .u64 64 (by decide) wraps_u64 a b ha hb).2

theorem xor_nat {a b : Nat} (ha : a < 2 ^ 64) (hb : b < 2 ^ 64) : Go.bits .xor .u64 (a : Int) (b : Int) = ((a ^^^ b : Nat) : Int) := by
  have hx : a ^^^ b < 2 ^ 64 := Nat.xor_lt_two_pow ha hb
  have ha' : a % 2 ^ IntKind.u64.bits = a := Nat.mod_eq_of_lt ha
  have hb' : b % 2 ^ IntKind.u64.bits = b := Nat.mod_eq_of_lt hb
  simp only [Go.bits, BitVec.ofInt_natCast, BitVec.toNat_xor, BitVec.toNat_ofNat, ha', hb']
  exact wrap_in (Int.natCast_nonneg _) (by omega)

theorem mask {x : Int} (h0 : 0 ≤ x) (h1 : x < 18446744073709551616) (i : Nat) (hi : i ≤ 64) : Go.bits .and .u64 x (2 ^ i - 1) = x % 2 ^ i :=
  bits_mask .u64 64 (by decide) wraps_u64 i hi x h0 (by omega)

section
variable {x : Int} (h0 : 0 ≤ x) (h1 : x < 18446744073709551616)
include h0 h1
theorem and_frac : Go.bits .and .u64 x 4503599627370495 = x % 4503599627370496 := mask h0 h1 52 (by decide)
theorem and_size : Go.bits .and .u64 x 9223372036854775807 = x % 9223372036854775808 := mask h0 h1 63 (by decide)
theorem and_2047 : Go.bits .and .u64 x 2047 = x % 2048 := mask h0 h1 11 (by decide)
theorem and_7 : Go.bits .and .u64 x 7 = x % 8 := mask h0 h1 3 (by decide)
theorem and_1 : Go.bits .and .u64 x 1 = x % 2 := mask h0 h1 1 (by decide)

theorem and_sign : Go.bits .and .u64 x 9223372036854775808 = x / 9223372036854775808 * 9223372036854775808 := by
  obtain ⟨n, rfl⟩ := Int.eq_ofNat_of_zero_le h0
  have hn : n < 2 ^ 64 := by omega
  have e : (9223372036854775808 : Int) = ((2 ^ 63 : Nat) : Int) := by omega
  have h := and_nat (a := n) (b := 2 ^ 63) hn (by decide)
  rw [← e] at h
  rw [h]
  have key : n &&& 2 ^ 63 = n / 2 ^ 63 * 2 ^ 63 := by
    apply Nat.eq_of_testBit_eq
    intro i
    rw [Nat.testBit_and, Nat.testBit_two_pow]
    by_cases hi : 63 = i
    · subst hi
      rw [Nat.testBit_mul_two_pow, Nat.testBit_eq_decide_div_mod_eq]
      simp
    · rcases Nat.lt_or_ge i 63 with hl | hl
      · rw [Nat.testBit_mul_two_pow]; simp [hi]; omega
      · have : n.testBit i = false := Nat.testBit_lt_two_pow (Nat.lt_of_lt_of_le hn (Nat.pow_le_pow_right (by decide) (by omega)))
        have h2 : (n / 2 ^ 63 * 2 ^ 63) ≤ n := Nat.div_mul_le_self _ _
        have h3 : (n / 2 ^ 63 * 2 ^ 63).testBit i = false := Nat.testBit_lt_two_pow (Nat.lt_of_le_of_lt h2 (Nat.lt_of_lt_of_le hn (Nat.pow_le_pow_right (by decide) (by omega))))
        simp [this, h3]
  rw [key]
  omega

theorem andNot_sign : Go.bits .andNot .u64 x 9223372036854775808 = x % 9223372036854775808 := by
  have e : Go.bits .andNot .u64 x 9223372036854775808 = Go.bits .and .u64 x 9223372036854775807 := by
    unfold Go.bits
    have : (~~~ (BitVec.ofInt IntKind.u64.bits 9223372036854775808)) = BitVec.ofInt IntKind.u64.bits 9223372036854775807 := by decide +kernel
    simp only [this]
  rw [e]; exact and_size h0 h1

theorem xor_sign : Go.bits .xor .u64 x 9223372036854775808 = if x < 9223372036854775808 then x + 9223372036854775808 else x - 9223372036854775808 := by
  obtain ⟨n, rfl⟩ := Int.eq_ofNat_of_zero_le h0
  have hn : n < 2 ^ 64 := by omega
  have e : (9223372036854775808 : Int) = ((2 ^ 63 : Nat) : Int) := by omega
  have h := xor_nat (a := n) (b := 2 ^ 63) hn (by decide)
  rw [← e] at h
  rw [h]
  have low : ∀ m : Nat, m < 2 ^ 63 → m ^^^ 2 ^ 63 = m + 2 ^ 63 := by
    intro m hm
    have h1 := Nat.two_pow_add_eq_or_of_lt hm 1
    rw [Nat.mul_one] at h1
    rw [Nat.add_comm, h1]
    apply Nat.eq_of_testBit_eq
    intro i
    rw [Nat.testBit_xor, Nat.testBit_or, Nat.testBit_two_pow]
    by_cases hi : 63 = i
    · subst hi; rw [Nat.testBit_lt_two_pow hm]; simp
    · simp [hi]
  split
  · rw [low n (by omega)]; omega
  · have e2 : n = (n - 2 ^ 63) ^^^ 2 ^ 63 := by rw [low _ (by omega)]; omega
    have h3 : n ^^^ 2 ^ 63 = n - 2 ^ 63 := by
      have h4 : ((n - 2 ^ 63) ^^^ 2 ^ 63) ^^^ 2 ^ 63 = n - 2 ^ 63 := by rw [Nat.xor_assoc, Nat.xor_self, Nat.xor_zero]
      rw [← e2] at h4; exact h4
    rw [h3]; omega

theorem xor_all : Go.bits .xor .u64 18446744073709551615 x = 18446744073709551615 - x := by
  obtain ⟨n, rfl⟩ := Int.eq_ofNat_of_zero_le h0
  have hn : n < 2 ^ 64 := by omega
  have e : (18446744073709551615 : Int) = ((2 ^ 64 - 1 : Nat) : Int) := by omega
  have h := xor_nat (a := 2 ^ 64 - 1) (b := n) (by decide) hn
  rw [← e] at h
  rw [h]
  have key : (2 ^ 64 - 1) ^^^ n = 2 ^ 64 - (n + 1) := by
    apply Nat.eq_of_testBit_eq
    intro i
    rw [Nat.testBit_xor, Nat.testBit_two_pow_sub_one, Nat.testBit_two_pow_sub_succ hn]
    by_cases hi : i < 64
    · simp [hi]
    · simp [hi, Nat.testBit_lt_two_pow (Nat.lt_of_lt_of_le hn (Nat.pow_le_pow_right (by decide) (by omega : 64 ≤ i)))]
  rw [key]; omega
end

theorem or_join {x y : Int} (i : Nat) (hx0 : 0 ≤ x) (hx : x % 2 ^ i = 0) (hx1 : x < 18446744073709551616) (hy0 : 0 ≤ y) (hy : y < 2 ^ i) (hy1 : y < 18446744073709551616) :
    Go.bits .or .u64 x y = x + y := bits_join .u64 64 (by decide) wraps_u64 i x y hx0 hx (by omega) hy0 hy (by omega)

theorem or_comm (x y : Int) : Go.bits .or .u64 x y = Go.bits .or .u64 y x := by
  unfold Go.bits; simp only [BitVec.or_comm]

theorem or_hidden {x : Int} (h0 : 0 ≤ x) (h1 : x < 4503599627370496) : Go.bits .or .u64 x 4503599627370496 = x + 4503599627370496 := by
  rw [or_comm, or_join 52 (by decide) (by decide) (by decide) h0 (by omega) (by omega)]; omega

theorem or_sign {x : Int} (h0 : 0 ≤ x) (h1 : x < 9223372036854775808) : Go.bits .or .u64 x 9223372036854775808 = x + 9223372036854775808 := by
  rw [or_comm, or_join 63 (by decide) (by decide) (by decide) h0 (by omega) (by omega)]; omega

theorem sign_or {s x : Int} (hs : s = 0 ∨ s = 9223372036854775808) (h0 : 0 ≤ x) (h1 : x < 9223372036854775808) : Go.bits .or .u64 s x = s + x := by
  rcases hs with rfl | rfl
  · exact or_join 63 (by decide) (by decide) (by decide) h0 (by omega) (by omega)
  · exact or_join 63 (by decide) (by decide) (by decide) h0 (by omega) (by omega)

theorem or_one {x : Int} (h0 : 0 ≤ x) (h1 : x < 18446744073709551616) : Go.bits .or .u64 x 1 = if x % 2 = 1 then x else x + 1 := by
  split
  · rename_i h
    obtain ⟨n, rfl⟩ := Int.eq_ofNat_of_zero_le h0
    have hn : n < 2 ^ 64 := by omega
    have e : n = (n - 1) ||| 1 := by
      have h2 := Nat.two_pow_add_eq_or_of_lt (i := 1) (b := 1) (by decide) ((n - 1) / 2)
      have h3 : 2 ^ 1 * ((n - 1) / 2) = n - 1 := by omega
      rw [h3] at h2; omega
    refine (or_nat (a := n) (b := 1) hn (by decide)).trans ?_
    have : n ||| 1 = n := by
      conv => lhs; rw [e, Nat.or_assoc, Nat.or_self]
      exact e.symm
    rw [this]
  · exact or_join 1 h0 (by omega) h1 (by decide) (by decide) (by decide)

/-- where both are without size but for the sign, so is what is joined, and the other way about -/
theorem or_size_zero {x y : Int} (h0 : 0 ≤ x) (h1 : x < 18446744073709551616) (h2 : 0 ≤ y) (h3 : y < 18446744073709551616) :
    0 ≤ Go.bits .or .u64 x y ∧ Go.bits .or .u64 x y < 18446744073709551616 ∧ (Go.bits .or .u64 x y % 9223372036854775808 = 0 ↔ x % 9223372036854775808 = 0 ∧ y % 9223372036854775808 = 0) := by
  obtain ⟨a, rfl⟩ := Int.eq_ofNat_of_zero_le h0
  obtain ⟨b, rfl⟩ := Int.eq_ofNat_of_zero_le h2
  have ha : a < 2 ^ 64 := by omega
  have hb : b < 2 ^ 64 := by omega
  have ho : a ||| b < 2 ^ 64 := Nat.or_lt_two_pow ha hb
  rw [or_nat ha hb]
  refine ⟨Int.natCast_nonneg _, by omega, ?_⟩
  have e : (a ||| b) % 2 ^ 63 = a % 2 ^ 63 ||| b % 2 ^ 63 := Nat.or_mod_two_pow
  have z : (a % 2 ^ 63 ||| b % 2 ^ 63) = 0 ↔ a % 2 ^ 63 = 0 ∧ b % 2 ^ 63 = 0 := Nat.or_eq_zero_iff
  rw [← e] at z
  omega

end Go.Proofs.Ytmljncgglpckcaa.Fl
