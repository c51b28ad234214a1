/- FltInts: for any int64 and any 64-bit word the program's FromInt and ToInt of package flt answer as the reference does. No condition. -/
import Derived.Test.YtmljncgglpckcaaPFltIntsx3
import Derived.Test.YtmljncgglpckcaaFl0
import Derived.Test.YtmljncgglpckcaaFl1
namespace Go.Proofs.Ytmljncgglpckcaa.Pure
open Go.RowKit Go.Proofs.Ytmljncgglpckcaa.PFltInts Go.Proofs.YtmljncgglpckcaaW.PrintWords Go.Proofs.YtmljncgglpckcaaW.PrintLast Go.Proofs.YtmljncgglpckcaaW.PrintMore Go.Proofs.Ytmljncgglpckcaa.Fl

/-! ### flt: what each function tells, as arithmetic -/
def ik (x : Int) : Int := if x < 9223372036854775808 then x else 9223372036854775808 - x
def rk (x : Int) : Int := if x < 9223372036854775808 then x + 9223372036854775808 else 18446744073709551615 - x
def isNan (x : Int) : Prop := x % 9223372036854775808 > 9218868437227405312
instance (x : Int) : Decidable (isNan x) := by unfold isNan; infer_instance
def U (x : Int) : Prop := 0 ≤ x ∧ x < 18446744073709551616

theorem U_of {x : Int} (h : (Lit.int .u64 x).wf = true) : U x := by
  simp [Lit.wf, IntKind.min, IntKind.max, IntKind.bits, IntKind.signed] at h
  unfold U; omega

theorem size_f {x : Int} (h : U x) : flt_size.f x = some (x % 9223372036854775808) := by
  unfold flt_size.f; rw [andNot_sign h.1 h.2]

theorem nan_f {x : Int} (h : U x) : flt_nan.f x = some (decide (isNan x)) := by
  unfold flt_nan.f; rw [size_f h]; rfl

theorem rank_f {x : Int} (h : U x) : flt_rank.f x = some (rk x) := by
  have h1 := h.1; have h2 := h.2
  unfold flt_rank.f rk
  rw [and_sign h1 h2, xor_all h1 h2]
  by_cases hx : x < 9223372036854775808
  · rw [or_sign h1 hx, if_neg (by omega), if_pos hx]
  · rw [if_pos (by omega), if_neg hx]

theorem compare_f (a b : Int) : cmp_Compare_uint64.f a b = some (if a < b then -1 else if a > b then 1 else 0) := by
  unfold cmp_Compare_uint64.f cmp_isNaN_uint64.f
  simp
  split
  · rfl
  · split <;> rfl

theorem order_f {a b : Int} (ha : U a) (hb : U b) : flt_Order.f a b = some (if rk a < rk b then -1 else if rk a > rk b then 1 else 0) := by
  unfold flt_Order.f; rw [rank_f ha, rank_f hb]; simp only [Option.bind_some]; rw [compare_f]; rfl

theorem equal_f {a b : Int} (ha : U a) (hb : U b) : flt_Equal.f a b = some (decide (¬ isNan a ∧ ¬ isNan b ∧ ik a = ik b)) := by
  unfold flt_Equal.f
  rw [nan_f ha, nan_f hb]
  simp only [Option.bind_some]
  obtain ⟨o1, o2, o3⟩ := or_size_zero ha.1 ha.2 hb.1 hb.2
  rw [size_f ⟨o1, o2⟩]
  have a1 := ha.1; have a2 := ha.2; have b1 := hb.1; have b2 := hb.2
  by_cases na : isNan a
  · simp [na]
  · by_cases nb : isNan b
    · simp [na, nb]
    · by_cases e : a = b
      · subst e; simp [na]
      · simp only [na, nb, decide_false, Bool.false_eq_true, if_false, if_neg e, Option.bind_some]
        congr 1
        rw [Bool.eq_iff_iff, beq_iff_eq, o3, decide_eq_true_iff]
        simp only [not_false_iff, true_and]
        unfold ik
        split <;> split <;> omega

theorem less_f {a b : Int} (ha : U a) (hb : U b) : flt_Less.f a b = some (decide (¬ isNan a ∧ ¬ isNan b ∧ ik a < ik b)) := by
  unfold flt_Less.f
  rw [nan_f ha, nan_f hb, equal_f ha hb, order_f ha hb]
  simp only [Option.bind_some]
  have a1 := ha.1; have a2 := ha.2; have b1 := hb.1; have b2 := hb.2
  by_cases na : isNan a
  · simp [na]
  · by_cases nb : isNan b
    · simp [na, nb]
    · simp only [na, nb, decide_false, Bool.false_eq_true, if_false, not_false_iff, true_and, decide_eq_true_iff]
      by_cases e : ik a = ik b
      · rw [if_pos e]; simp [e]
      · rw [if_neg e]
        congr 1
        rw [Bool.eq_iff_iff, decide_eq_true_iff, decide_eq_true_iff]
        unfold ik at *
        unfold rk
        repeat' split
        all_goals (repeat' split at *)
        all_goals omega

def cls (x : Int) : Int := if x % 9223372036854775808 > 9218868437227405312 then 4 else if x % 9223372036854775808 = 9218868437227405312 then 3 else if x % 9223372036854775808 ≥ 4503599627370496 then 2 else if x % 9223372036854775808 > 0 then 1 else 0

theorem class_f {x : Int} (h : U x) : flt_Class.f x = some (cls x) := by
  unfold flt_Class.f cls; rw [size_f h]; simp only [Option.bind_some]
  repeat' split
  all_goals rfl

theorem cls_nan (x : Int) : cls x = 4 ↔ isNan x := by
  unfold cls isNan; repeat' split
  all_goals omega

theorem first_at : hyglaw6_first.f 80 = some true := by decide +kernel
theorem mono_up {f : Nat → Option Bool} (hm : ∀ k, LeO (f k) (f (k + 1))) {k0 : Nat} {r : Bool} (h : f k0 = some r) (d : Nat) : f (k0 + d) = some r := by
  induction d with
  | zero => exact h
  | succ d ih => exact hm _ _ ih
theorem first_f {k : Nat} (h : 80 ≤ k) : hyglaw6_first.f k = some true := by
  obtain ⟨d, rfl⟩ : ∃ d, k = 80 + d := ⟨k - 80, by omega⟩
  exact mono_up hyglaw6_first.mono first_at d

/-! ### the reference: what each function tells -/
theorem rclass_f {k : Nat} {x : Int} (h : U x) (hk : 1 ≤ k) : hygref6_Class.f k x = some (cls x) := by
  obtain ⟨k, rfl⟩ : ∃ m, k = m + 1 := ⟨k - 1, by omega⟩
  have h1 := h.1; have h2 := h.2
  unfold hygref6_Class.f hygref6_Class.j0 cls
  rw [and_2047 (x := x / 4503599627370496) (by omega) (by omega), and_frac h1 h2]
  have e1 : x % 9223372036854775808 = x / 4503599627370496 % 2048 * 4503599627370496 + x % 4503599627370496 := by omega
  by_cases c1 : x / 4503599627370496 % 2048 = 2047
  · rw [if_pos c1]
    by_cases c2 : x % 4503599627370496 > 0
    · simp only [c2, decide_true, if_true]; rw [if_pos (by omega)]
    · simp only [c2, decide_false, Bool.false_eq_true, if_false]; rw [if_pos c1, if_neg (by omega), if_pos (by omega)]
  · rw [if_neg c1]
    simp only [Bool.false_eq_true, if_false]
    rw [if_neg c1]
    by_cases c2 : x / 4503599627370496 % 2048 > 0
    · rw [if_pos c2, if_neg (by omega), if_neg (by omega), if_pos (by omega)]
    · rw [if_neg c2]
      by_cases c3 : x % 4503599627370496 > 0
      · rw [if_pos c3, if_neg (by omega), if_neg (by omega), if_neg (by omega), if_pos (by omega)]
      · rw [if_neg c3, if_neg (by omega), if_neg (by omega), if_neg (by omega), if_neg (by omega)]

theorem rneg_f {x : Int} (h : U x) : hygref6_neg.f x = some (decide (9223372036854775808 ≤ x)) := by
  have h1 := h.1; have h2 := h.2
  unfold hygref6_neg.f
  congr 1
  rw [Bool.eq_iff_iff, beq_iff_eq, decide_eq_true_iff]
  omega

/-! ### shifts by a variable count -/
theorem two_pow_pos_int (n : Nat) : (0 : Int) < 2 ^ n := by
  have h : (0 : Int) < ((2 ^ n : Nat) : Int) := by have := Nat.two_pow_pos n; omega
  simpa using h
theorem cast_pow (n : Nat) : ((2 ^ n : Nat) : Int) = (2 : Int) ^ n := by simp
theorem pow_lt_64 {n : Nat} (h : n < 64) : 2 ^ n < 18446744073709551616 := by
  have := Nat.pow_lt_pow_right (a := 2) (by decide) h
  simpa using this
theorem shl_one {n : Nat} (h : n < 64) : shl .u64 1 (n : Int) = ((2 ^ n : Nat) : Int) := by
  unfold shl
  have h1 : min (n : Int).toNat IntKind.u64.bits = n := by have : IntKind.u64.bits = 64 := rfl; omega
  have h2 := pow_lt_64 h
  rw [h1, Int.one_mul, ← cast_pow]
  exact wrap_in (Int.natCast_nonneg _) (by omega)
theorem shl_nat {m n : Nat} (h : n < 64) (hm : m * 2 ^ n < 18446744073709551616) : shl .u64 (m : Int) (n : Int) = ((m * 2 ^ n : Nat) : Int) := by
  unfold shl
  have h1 : min (n : Int).toNat IntKind.u64.bits = n := by have : IntKind.u64.bits = 64 := rfl; omega
  rw [h1, ← cast_pow, ← Int.natCast_mul]
  exact wrap_in (Int.natCast_nonneg _) (by omega)
theorem shr_nat (m : Nat) {n : Nat} (h : n ≤ 64) : shr .u64 (m : Int) (n : Int) = ((m / 2 ^ n : Nat) : Int) := by
  unfold shr
  have h1 : min (n : Int).toNat IntKind.u64.bits = n := by have : IntKind.u64.bits = 64 := rfl; omega
  rw [h1, ← cast_pow]
  simp
theorem mask_nat {m n : Nat} (hm : m < 18446744073709551616) (h : n < 64) : Go.bits .and .u64 (m : Int) (IntKind.u64.wrap (shl .u64 1 (n : Int) - 1)) = ((m % 2 ^ n : Nat) : Int) := by
  have h2 := pow_lt_64 h
  have h3 := Nat.two_pow_pos n
  rw [shl_one h, wrap_in (by omega) (by omega), cast_pow, mask (by omega) (by omega) n (by omega), ← cast_pow]
  simp

/-! ### the reference's rounding: to the nearest double -/
def INF : Nat := 9218868437227405312
def fin (V : Nat) : Nat := min (near V) INF

theorem j3_f {k : Nat} {s : Int} (hs : s = 0 ∨ s = 9223372036854775808) {kf q : Nat} (hk : 1 ≤ k) (hq : q < 2 ^ 53) (hl : 0 < kf → 2 ^ 52 ≤ q) (hkf : kf < 10000) :
    hygref6_round.j3 k s ((kf : Int) - 1074) q = some (s + (min (kf * 2 ^ 52 + q) INF : Nat)) := by
  obtain ⟨k, rfl⟩ : ∃ m, k = m + 1 := ⟨k - 1, by omega⟩
  simp only [hygref6_round.j3]
  rw [wrap64_in (n := (kf : Int) - 1074 + 1075) (by omega) (by omega)]
  by_cases h1 : q < 2 ^ 52
  · have hkf0 : kf = 0 := by omega
    subst hkf0
    rw [if_pos (by omega), sign_or hs (by omega) (by omega)]
    have : min (0 * 2 ^ 52 + q) INF = q := by unfold INF; omega
    rw [this]
  · rw [if_neg (by omega)]
    by_cases h2 : kf ≥ 2046
    · rw [if_pos (by omega), sign_or hs (by omega) (by omega)]
      have : min (kf * 2 ^ 52 + q) INF = 9218868437227405312 := by unfold INF; omega
      rw [this]; rfl
    · rw [if_neg (by omega)]
      rw [wrap_in (n := (kf : Int) - 1074 + 1075) (by omega) (by omega), wrap_in (by omega) (by omega), and_frac (by omega) (by omega), sign_or hs (by omega) (by omega)]
      rw [or_join 52 (by rcases hs with rfl | rfl <;> omega) (by rcases hs with rfl | rfl <;> omega) (by rcases hs with rfl | rfl <;> omega) (by omega) (by omega) (by omega)]
      have : min (kf * 2 ^ 52 + q) INF = kf * 2 ^ 52 + q := by unfold INF; omega
      rw [this]
      congr 1
      omega

theorem j2_f {k : Nat} {s : Int} (hs : s = 0 ∨ s = 9223372036854775808) {kf q : Nat} (hk : 2 ≤ k) (hq : q ≤ 2 ^ 53) (hl : 0 < kf → 2 ^ 52 ≤ q) (hkf : kf < 9000) :
    hygref6_round.j2 k s ((kf : Int) - 1074) q = some (s + (min (kf * 2 ^ 52 + q) INF : Nat)) := by
  obtain ⟨k, rfl⟩ : ∃ m, k = m + 1 := ⟨k - 1, by omega⟩
  simp only [hygref6_round.j2]
  by_cases h : q = 2 ^ 53
  · rw [if_pos (by omega), wrap64_in (by omega) (by omega)]
    have e : (q : Int) / 2 = ((2 ^ 52 : Nat) : Int) := by omega
    have e2 : (kf : Int) - 1074 + 1 = ((kf + 1 : Nat) : Int) - 1074 := by omega
    rw [e, e2, j3_f hs (by omega) (by decide) (fun _ => Nat.le_refl _) (by omega)]
    have : min ((kf + 1) * 2 ^ 52 + 2 ^ 52) INF = min (kf * 2 ^ 52 + q) INF := by omega
    rw [this]
  · rw [if_neg (by omega), j3_f hs (by omega) (by omega) hl (by omega)]

/-- the loop stops at the highest bit -/
theorem l0_top {m : Nat} (hm0 : 0 < m) (hm : m < 2 ^ 64) (e s : Int) : ∀ d k i : Nat, i + d = Nat.log2 m → hygref6_round.l0 (k + d) m e s (i : Int) = hygref6_round.l0 k m e s (Nat.log2 m : Int) := by
  have ht : Nat.log2 m < 64 := (Nat.log2_lt (by omega)).2 hm
  intro d
  induction d with
  | zero => intro k i h; rw [show i = Nat.log2 m from by omega]; rfl
  | succ d ih =>
    intro k i h
    rw [show k + (d + 1) = (k + d) + 1 from by omega]
    simp only [hygref6_round.l0]
    rw [wrap_in (n := (i : Int)) (by omega) (by omega), if_pos (by omega), shr_nat m (by omega)]
    have h1 : 2 ^ (i + 1) ≤ m := Nat.le_trans (Nat.pow_le_pow_right (by decide) (by omega)) (Nat.log2_self_le (by omega))
    have h2 : 2 ≤ m / 2 ^ i := by
      rw [Nat.le_div_iff_mul_le (Nat.two_pow_pos i)]
      rw [Nat.pow_succ] at h1; omega
    rw [if_pos (by omega), wrap64_in (by omega) (by omega)]
    have := ih k (i + 1) (by omega)
    rw [← this]; rfl

theorem mx_of {a b : Int} : mx a b = max a b := by unfold mx; omega

theorem round_l0 {k : Nat} (hk : 80 ≤ k) {s : Int} (hs : s = 0 ∨ s = 9223372036854775808) {m k0 V : Nat} (hm0 : 0 < m) (hm : m < 2 ^ 64) (hk0 : k0 < 3000)
    (hV : Stk (V * 2 ^ 10) k0 m) (hex : m * 2 ^ k0 = V * 2 ^ 10 ∨ 2 ^ 54 ≤ m) :
    hygref6_round.l0 k m ((k0 : Int) - 1084) s 0 = some (s + (fin V : Nat)) := by
  have ht : Nat.log2 m < 64 := (Nat.log2_lt (by omega)).2 hm
  have htl := Nat.log2_self_le (n := m) (by omega)
  have hth := @Nat.lt_log2_self m
  generalize hT : Nat.log2 m = T at *
  have h0 := l0_top hm0 hm ((k0 : Int) - 1084) s T (k - T) 0 (by rw [hT]; omega)
  rw [hT, show k - T + T = k from by omega] at h0
  have h00 : ((0 : Nat) : Int) = 0 := rfl
  rw [h00] at h0
  rw [h0]
  clear h0 h00
  -- what V is worth
  have hT54 : 2 ^ 54 ≤ m → 54 ≤ T := by
    intro h
    rcases Nat.lt_or_ge T 54 with h1 | h1
    · have : 2 ^ (T + 1) ≤ 2 ^ 54 := Nat.pow_le_pow_right (by decide) (by omega)
      omega
    · exact h1
  have hA : 2 ^ (T + k0) ≤ V * 2 ^ 10 ∧ V * 2 ^ 10 < 2 ^ (T + 1 + k0) := by
    have p1 : 2 ^ (T + k0) = 2 ^ T * 2 ^ k0 := Nat.pow_add _ _ _
    have p2 : 2 ^ (T + 1 + k0) = 2 ^ (T + 1) * 2 ^ k0 := Nat.pow_add _ _ _
    rcases hex with he | he
    · rw [p1, p2, ← he]
      exact ⟨Nat.mul_le_mul_right _ htl, (Nat.mul_lt_mul_right (Nat.two_pow_pos k0)).2 hth⟩
    · have hT1 := hT54 he
      have ev : ∀ n, 1 ≤ n → 2 ^ n % 2 = 0 := by
        intro n hn
        obtain ⟨n, rfl⟩ : ∃ z, n = z + 1 := ⟨n - 1, by omega⟩
        rw [Nat.pow_succ]; omega
      rw [p1, p2]
      have a := @stk_gt _ _ _ hV (2 ^ T) (ev T (by omega))
      have b := @stk_gt _ _ _ hV (2 ^ (T + 1)) (ev (T + 1) (by omega))
      exact ⟨by omega, by omega⟩
  obtain ⟨kf, hkf⟩ : ∃ kf : Nat, kf = k0 + T - 62 := ⟨_, rfl⟩
  have hkk : kk V = kf := by
    rcases Nat.lt_or_ge (k0 + T) 62 with h | h
    · have hl : 2 ^ (T + 1 + k0) ≤ 2 ^ 62 := Nat.pow_le_pow_right (by decide) (by omega)
      rw [hkf, show k0 + T - 62 = 0 from by omega]
      apply kk_zero; omega
    · apply kk_eq
      · have : 2 ^ (T + k0) = 2 ^ (52 + kf) * 2 ^ 10 := by rw [← Nat.pow_add]; congr 1; omega
        omega
      · have : 2 ^ (T + 1 + k0) = 2 ^ (53 + kf) * 2 ^ 10 := by rw [← Nat.pow_add]; congr 1; omega
        omega
  have hqh : rnd V kf ≤ 2 ^ 53 := by
    have a := q_high V; rw [hkk] at a
    have b := up_le V kf
    unfold rnd; omega
  have hql : 0 < kf → 2 ^ 52 ≤ rnd V kf := by
    intro h
    have a := q_low (V := V) (by omega); rw [hkk] at a
    unfold rnd; omega
  have hfin : fin V = min (kf * 2 ^ 52 + rnd V kf) INF := by unfold fin near; rw [hkk]
  -- the body at the top
  obtain ⟨k, rfl⟩ : ∃ z, k = T + 3 + z := ⟨k - T - 3, by omega⟩
  rw [show T + 3 + k - T = (k + 2) + 1 from by omega]
  simp only [hygref6_round.l0]
  have htop : m / 2 ^ T < 2 := by
    rw [Nat.div_lt_iff_lt_mul (Nat.two_pow_pos T)]; rw [Nat.pow_succ] at hth; omega
  rw [wrap_in (n := (T : Int)) (by omega) (by omega), if_pos (by omega), shr_nat m (by omega), if_neg (by omega)]
  rw [wrap64_in (n := (k0 : Int) - 1084 + (T : Int)) (by omega) (by omega), wrap64_in (n := (k0 : Int) - 1084 + (T : Int) - 52) (by omega) (by omega)]
  have hlo : mx ((k0 : Int) - 1084 + (T : Int) - 52) (-1074) = (kf : Int) - 1074 := by rw [mx_of]; omega
  rw [hlo]
  by_cases hsh : (kf : Int) - 1074 - ((k0 : Int) - 1084) > 0
  · -- some bits are cut off
    obtain ⟨sh, hshn⟩ : ∃ sh : Nat, (sh : Int) = (kf : Int) - 1074 - ((k0 : Int) - 1084) := ⟨((kf : Int) - 1074 - ((k0 : Int) - 1084)).toNat, by omega⟩
    rw [wrap64_in (n := (kf : Int) - 1074 - ((k0 : Int) - 1084)) (by omega) (by omega), ← hshn]
    have hs1 : 1 ≤ sh := by omega
    have hs2 : sh ≤ 11 := by omega
    rw [if_pos (by omega), if_neg (by omega), if_pos (by omega), wrap_in (n := (sh : Int)) (by omega) (by omega), if_pos (by omega), wrap64_in (n := (sh : Int) - 1) (by omega) (by omega),
      wrap_in (n := (sh : Int) - 1) (by omega) (by omega), if_pos (by omega), mask_nat (by omega) (by omega), shr_nat m (by omega)]
    have e1 : (sh : Int) - 1 = ((sh - 1 : Nat) : Int) := by omega
    rw [e1, shl_one (by omega)]
    have hq53 : m / 2 ^ sh ≤ m := Nat.div_le_self _ _
    have hq0 : (0 : Int) ≤ ((m / 2 ^ sh : Nat) : Int) := Int.natCast_nonneg _
    have hq1 : ((m / 2 ^ sh : Nat) : Int) ≤ (m : Int) := Int.ofNat_le.2 hq53
    have hq2 : ((m / 2 ^ sh : Nat) : Int) < 18446744073709551615 := by
      have : m / 2 ^ sh ≤ m / 2 ^ 1 := Nat.div_le_div_left (Nat.pow_le_pow_right (by decide) hs1) (by decide)
      have h3 : m / 2 ^ sh < 18446744073709551615 := by omega
      exact Int.ofNat_lt.2 h3
    rw [and_1 (x := ((m / 2 ^ sh : Nat) : Int)) (by omega) (by omega)]
    have hpw : 2 ^ sh = 2 * 2 ^ (sh - 1) := by
      obtain ⟨n, rfl⟩ : ∃ z, sh = z + 1 := ⟨sh - 1, by omega⟩
      rw [Nat.pow_succ]; simp; omega
    have hr : rnd V kf = rnd m sh := by
      have a : rnd (V * 2 ^ 10) (10 + kf) = rnd V kf := by rw [← rnd_scale V 10 kf]
      rw [← a, show 10 + kf = k0 + sh from by omega]
      rcases Nat.lt_or_ge sh 2 with h2 | h2
      · rcases hex with he | he
        · rw [← he, rnd_scale]
        · have := hT54 he; omega
      · have := rnd_stk hV (sh - 2)
        rw [show sh - 2 + 2 = sh from by omega] at this
        exact this
    rw [wrap_in (n := ((m / 2 ^ sh : Nat) : Int) + 1) (by omega) (by omega)]
    rw [hr] at hqh hql hfin
    rw [hfin]
    unfold rnd Fl.up at *
    have key : ∀ q : Nat, q = m / 2 ^ sh + (if 2 ^ sh < 2 * (m % 2 ^ sh) ∨ 2 * (m % 2 ^ sh) = 2 ^ sh ∧ m / 2 ^ sh % 2 = 1 then 1 else 0) →
        hygref6_round.j2 (k + 2) s ((kf : Int) - 1074) (q : Int) = some (s + (min (kf * 2 ^ 52 + (m / 2 ^ sh + if 2 ^ sh < 2 * (m % 2 ^ sh) ∨ 2 * (m % 2 ^ sh) = 2 ^ sh ∧ m / 2 ^ sh % 2 = 1 then 1 else 0)) INF : Nat)) := by
      intro q hq
      rw [← hq] at hqh hql ⊢
      exact j2_f hs (by omega) hqh hql (by omega)
    by_cases c1 : ((m % 2 ^ sh : Nat) : Int) > ((2 ^ (sh - 1) : Nat) : Int)
    · rw [if_pos c1]
      have := key (m / 2 ^ sh + 1) (by rw [if_pos (by omega)])
      rw [← this]; rfl
    · rw [if_neg c1]
      by_cases c2 : ((m % 2 ^ sh : Nat) : Int) = ((2 ^ (sh - 1) : Nat) : Int)
      · rw [if_pos c2]
        by_cases c3 : ((m / 2 ^ sh : Nat) : Int) % 2 = 1
        · rw [if_pos c3]
          have := key (m / 2 ^ sh + 1) (by rw [if_pos (by omega)])
          rw [← this]; rfl
        · rw [if_neg c3]
          have := key (m / 2 ^ sh) (by rw [if_neg (by omega), Nat.add_zero])
          rw [← this]
      · rw [if_neg c2]
        have := key (m / 2 ^ sh) (by rw [if_neg (by omega), Nat.add_zero])
        rw [← this]
  · obtain ⟨sh, hshn⟩ : ∃ sh : Nat, (sh : Int) = -((kf : Int) - 1074 - ((k0 : Int) - 1084)) := ⟨(-((kf : Int) - 1074 - ((k0 : Int) - 1084))).toNat, by omega⟩
    rw [wrap64_in (n := (kf : Int) - 1074 - ((k0 : Int) - 1084)) (by omega) (by omega), if_neg (by omega)]
    rw [wrap64_in (n := -((kf : Int) - 1074 - ((k0 : Int) - 1084))) (by omega) (by omega), ← hshn, wrap_in (n := (sh : Int)) (by omega) (by omega), if_pos (by omega)]
    have hTsh : T + sh ≤ 52 := by omega
    have hmb : m * 2 ^ sh < 2 ^ 53 := by
      have a : m * 2 ^ sh < 2 ^ (T + 1) * 2 ^ sh := (Nat.mul_lt_mul_right (Nat.two_pow_pos sh)).2 hth
      have b : 2 ^ (T + 1) * 2 ^ sh ≤ 2 ^ 53 := by rw [← Nat.pow_add]; exact Nat.pow_le_pow_right (by decide) (by omega)
      omega
    rw [shl_nat (by omega) (by omega)]
    have he : m * 2 ^ k0 = V * 2 ^ 10 := by
      rcases hex with he | he
      · exact he
      · have := hT54 he; omega
    have hr : rnd V kf = m * 2 ^ sh := by
      have e : V * 2 ^ 10 = (m * 2 ^ sh * 2 ^ kf) * 2 ^ 10 := by
        rw [← he]
        simp only [Nat.mul_assoc, ← Nat.pow_add]
        rw [show sh + kf + 10 = k0 from by omega]
      have e2 : V = m * 2 ^ sh * 2 ^ kf := Nat.eq_of_mul_eq_mul_right (by decide) e
      rw [e2, rnd_exact]
    rw [hr] at hqh hql hfin
    rw [hfin]
    exact j2_f hs (by omega) hqh hql (by omega)

theorem round_f {k : Nat} (hk : 90 ≤ k) (b : Bool) {m k0 V : Nat} (hm0 : 0 < m) (hm : m < 2 ^ 64) (hk0 : k0 < 3000) (hV : Stk (V * 2 ^ 10) k0 m) (hex : m * 2 ^ k0 = V * 2 ^ 10 ∨ 2 ^ 54 ≤ m) :
    hygref6_round.f k b m ((k0 : Int) - 1084) = some ((if b then (9223372036854775808 : Int) else 0) + ((fin V : Nat) : Int)) := by
  obtain ⟨k, rfl⟩ : ∃ z, k = z + 1 := ⟨k - 1, by omega⟩
  unfold hygref6_round.f
  simp only [hygref6_round.j0]
  have hne : ¬ ((m : Int) = 0) := by omega
  rw [if_neg hne, if_neg hne]
  cases b with
  | true => exact round_l0 (by omega) (Or.inr rfl) hm0 hm hk0 hV hex
  | false => exact round_l0 (by omega) (Or.inl rfl) hm0 hm hk0 hV hex

/-! ### FromInt: the nearest double, in the program and in the reference -/
theorem near_l0 : ∀ (d k x e : Nat), x < 2 ^ 64 → 2 ^ 63 ≤ x * 2 ^ d → x * 2 ^ d < 2 ^ 64 → d < k → d + 1 ≤ e → e ≤ 1086 → d ≤ 63 →
    flt_near.l0 k x e = some (((e - d - 1) * 2 ^ 52 + rnd (x * 2 ^ d) 11 : Nat) : Int) := by
  intro d
  induction d with
  | zero =>
    intro k x e hx h1 h2 hk he he2 _
    obtain ⟨k, rfl⟩ : ∃ m, k = m + 1 := ⟨k - 1, by omega⟩
    simp only [flt_near.l0]
    rw [Nat.pow_zero, Nat.mul_one] at h1 h2
    have a1 := and_2047 (x := (x : Int)) (by omega) (by omega)
    rw [if_neg (by omega), a1, wrap_in (n := (x : Int) / 2048 - 4503599627370496) (by omega) (by omega), wrap_in (n := (e : Int) * 4503599627370496) (by omega) (by omega),
      wrap_in (n := (e : Int) * 4503599627370496 + ((x : Int) / 2048 - 4503599627370496)) (by omega) (by omega),
      wrap_in (n := (e : Int) * 4503599627370496 + ((x : Int) / 2048 - 4503599627370496) + 1) (by omega) (by omega), and_1 (by omega) (by omega)]
    rw [Nat.pow_zero, Nat.mul_one]
    unfold rnd Fl.up
    have e11 : 2 ^ 11 = 2048 := by decide
    rw [e11]
    by_cases c1 : (x : Int) % 2048 > 1024
    · rw [if_pos c1, if_pos (by omega)]; congr 1; omega
    · rw [if_neg c1]
      by_cases c2 : (x : Int) % 2048 = 1024
      · rw [if_pos c2]
        by_cases c3 : ((e : Int) * 4503599627370496 + ((x : Int) / 2048 - 4503599627370496)) % 2 = 1
        · rw [if_pos c3, if_pos (by omega)]; congr 1; omega
        · rw [if_neg c3, if_neg (by omega)]; congr 1; omega
      · rw [if_neg c2, if_neg (by omega)]; congr 1; omega
  | succ d ih =>
    intro k x e hx h1 h2 hk he he2 hd
    obtain ⟨k, rfl⟩ : ∃ m, k = m + 1 := ⟨k - 1, by omega⟩
    simp only [flt_near.l0]
    have hp : x * 2 ^ (d + 1) = x * 2 * 2 ^ d := by rw [Nat.pow_succ, Nat.mul_assoc, Nat.mul_comm 2]
    have hx2 : x * 2 < 2 ^ 64 := by
      have : x * 2 * 1 ≤ x * 2 * 2 ^ d := Nat.mul_le_mul_left _ (Nat.two_pow_pos d)
      omega
    rw [if_pos (by omega), wrap_in (n := (x : Int) * 2) (by omega) (by omega), wrap_in (n := (e : Int) - 1) (by omega) (by omega)]
    rw [hp] at h1 h2 ⊢
    have := ih k (x * 2) (e - 1) hx2 h1 h2 (by omega) (by omega) (by omega) (by omega)
    have e1 : (x : Int) * 2 = ((x * 2 : Nat) : Int) := by omega
    have e2 : (e : Int) - 1 = ((e - 1 : Nat) : Int) := by omega
    rw [e1, e2, this, show e - 1 - d - 1 = e - (d + 1) - 1 from by omega]

/-- in units of 2^-1074: the value of a whole number -/
def K1074 : Nat := 1074
theorem K_is : K1074 = 1074 := rfl
attribute [irreducible] K1074
def un (n : Nat) : Nat := n * 2 ^ K1074

theorem near_un {n d : Nat} (h1 : 2 ^ 63 ≤ n * 2 ^ d) (h2 : n * 2 ^ d < 2 ^ 64) (hd : d ≤ 63) : near (un n) = (1085 - d) * 2 ^ 52 + rnd (n * 2 ^ d) 11 := by
  have hK := K_is
  have e0 : un n = n * 2 ^ d * 2 ^ (K1074 - d) := by
    unfold un; rw [Nat.mul_assoc, ← Nat.pow_add, show d + (K1074 - d) = K1074 from by omega]
  have hk : kk (un n) = 1085 - d := by
    apply kk_eq
    · rw [e0, show 52 + (1085 - d) = 63 + (K1074 - d) from by omega, Nat.pow_add]; exact Nat.mul_le_mul_right _ h1
    · rw [e0, show 53 + (1085 - d) = 64 + (K1074 - d) from by omega, Nat.pow_add]; exact (Nat.mul_lt_mul_right (Nat.two_pow_pos _)).2 h2
  unfold near
  rw [hk, e0, show 1085 - d = (K1074 - d) + 11 from by omega, rnd_scale]

theorem shift_of {n : Nat} (h0 : 0 < n) (h : n < 2 ^ 64) : ∃ d, d ≤ 63 ∧ 2 ^ 63 ≤ n * 2 ^ d ∧ n * 2 ^ d < 2 ^ 64 := by
  have h1 := Nat.log2_self_le (n := n) (by omega)
  have h2 := @Nat.lt_log2_self n
  have h3 : Nat.log2 n < 64 := (Nat.log2_lt (by omega)).2 h
  refine ⟨63 - Nat.log2 n, by omega, ?_, ?_⟩
  · have := Nat.mul_le_mul_right (2 ^ (63 - Nat.log2 n)) h1
    rw [← Nat.pow_add, show Nat.log2 n + (63 - Nat.log2 n) = 63 from by omega] at this
    exact this
  · have := (Nat.mul_lt_mul_right (Nat.two_pow_pos (63 - Nat.log2 n))).2 h2
    rw [← Nat.pow_add, show Nat.log2 n + 1 + (63 - Nat.log2 n) = 64 from by omega] at this
    exact this

theorem near_un_lt {n : Nat} (h0 : 0 < n) (h : n < 2 ^ 64) : near (un n) ≤ 1086 * 2 ^ 52 + 2 ^ 52 := by
  obtain ⟨d, hd, h1, h2⟩ := shift_of h0 h
  rw [near_un h1 h2 hd]
  have := up_le (n * 2 ^ d) 11
  unfold rnd
  have : n * 2 ^ d / 2 ^ 11 < 2 ^ 53 := by omega
  omega

theorem near_f {n k : Nat} (h0 : 0 < n) (h : n < 2 ^ 64) (hk : 65 ≤ k) : flt_near.f k n = some ((near (un n) : Nat) : Int) := by
  obtain ⟨d, hd, h1, h2⟩ := shift_of h0 h
  unfold flt_near.f
  have := near_l0 d k n 1086 h h1 h2 (by omega) (by omega) (by omega) hd
  rw [near_un h1 h2 hd]
  rw [show 1086 - d - 1 = 1085 - d from by omega] at this
  exact this

/-- the double of a whole number -/
def dbl (n : Int) : Int := if n < 0 then (near (un n.natAbs) : Nat) + 9223372036854775808 else (near (un n.natAbs) : Nat)
def I (n : Int) : Prop := -9223372036854775808 ≤ n ∧ n < 9223372036854775808
theorem I_of {x : Int} (h : (Lit.int .i64 x).wf = true) : I x := by
  simp [Lit.wf, IntKind.min, IntKind.max, IntKind.bits, IntKind.signed] at h
  unfold I; omega

theorem near_un_zero : near (un 0) = 0 := by
  have h : un 0 = 0 := Nat.zero_mul _
  rw [h]; decide

theorem fromInt_f {n : Int} {k : Nat} (h : I n) (hk : 65 ≤ k) : flt_FromInt.f k n = some (dbl n) := by
  have h1 := h.1; have h2 := h.2
  unfold flt_FromInt.f dbl
  by_cases c1 : n < 0
  · rw [if_pos c1, if_pos c1]
    have e : IntKind.u64.wrap (-(IntKind.u64.wrap n)) = (n.natAbs : Int) := by rw [wrap_u, wrap_u]; omega
    rw [e, near_f (by omega) (by omega) hk]
    simp only [Option.bind_some]
    have := near_un_lt (n := n.natAbs) (by omega) (by omega)
    rw [or_sign (by omega) (by omega)]
  · rw [if_neg c1, if_neg c1]
    by_cases c2 : n > 0
    · rw [if_pos c2]
      have e : IntKind.u64.wrap n = (n.natAbs : Int) := by rw [wrap_u]; omega
      rw [e, near_f (by omega) (by omega) hk]
      simp only [Option.bind_some]
    · rw [if_neg c2]
      have : n = 0 := by omega
      subst this
      rw [Int.natAbs_zero, near_un_zero]; rfl

theorem rfromInt_f {n : Int} {k : Nat} (h : I n) (hk : 100 ≤ k) : hygref6_FromInt.f k n = some (dbl n) := by
  have h1 := h.1; have h2 := h.2
  unfold hygref6_FromInt.f dbl
  have key : ∀ (b : Bool) (m : Nat), 0 < m → m < 2 ^ 64 → hygref6_round.f k b m 0 = some ((if b then (9223372036854775808 : Int) else 0) + ((near (un m) : Nat) : Int)) := by
    intro b m h0 hm
    have hK := K_is
    have e : un m * 2 ^ 10 = m * 2 ^ (K1074 + 10) := by unfold un; rw [Nat.mul_assoc, ← Nat.pow_add]
    have := round_f (k := k) (by omega) b (m := m) (k0 := K1074 + 10) (V := un m) h0 hm (by omega) (by rw [e]; exact stk_exact m _) (Or.inl e.symm)
    have hf : fin (un m) = near (un m) := by
      have := near_un_lt h0 hm
      unfold fin INF; omega
    rw [hf, show ((K1074 + 10 : Nat) : Int) - 1084 = 0 from by omega] at this
    exact this
  by_cases c0 : n = 0
  · rw [if_pos c0]; subst c0; rw [if_neg (by decide), Int.natAbs_zero, near_un_zero]; rfl
  · rw [if_neg c0]
    by_cases c1 : n < 0
    · rw [if_pos c1, if_pos c1]
      have e : IntKind.u64.wrap (IntKind.u64.wrap (wrap64 (-(wrap64 (n + 1)))) + 1) = (n.natAbs : Int) := by
        rw [wrap64_in (n := n + 1) (by omega) (by omega), wrap64_in (n := -(n + 1)) (by omega) (by omega), wrap_u, wrap_u]; omega
      rw [e, key true n.natAbs (by omega) (by omega)]
      simp only [Option.bind_some, if_true]
      congr 1; omega
    · rw [if_neg c1, if_neg c1]
      have e : IntKind.u64.wrap n = (n.natAbs : Int) := by rw [wrap_u]; omega
      rw [e, key false n.natAbs (by omega) (by omega)]
      simp

/-! ### ToInt: the whole number that a double is -/
def chk (neg : Bool) (m : Nat) : Int × Bool := if neg then (if m ≤ 9223372036854775808 then (-(m : Int), true) else (0, false)) else (if m < 9223372036854775808 then ((m : Int), true) else (0, false))
def toI (neg : Bool) (S : Nat) : Int × Bool :=
  if S = 0 then (0, true) else if ex S > 1085 then (0, false) else if ex S ≥ 1074 then chk neg (fr S * 2 ^ (ex S - 1074))
  else if fr S % 2 ^ (1074 - ex S) = 0 then chk neg (fr S / 2 ^ (1074 - ex S)) else (0, false)

theorem fr_pos {S : Nat} (h : S ≠ 0) : 0 < fr S := by unfold fr; split <;> omega

theorem tj1_f {k : Nat} {x : Int} (h : U x) (hk : 2 ≤ k) {m : Nat} (hm : m < 2 ^ 64) : flt_ToInt.j1 k x m = some (chk (decide (9223372036854775808 ≤ x)) m) := by
  obtain ⟨k, rfl⟩ : ∃ z, k = z + 2 := ⟨k - 2, by omega⟩
  have h1 := h.1; have h2 := h.2
  simp only [flt_ToInt.j1, flt_ToInt.j2]
  rw [and_sign h1 h2]
  unfold chk
  by_cases c1 : 9223372036854775808 ≤ x
  · rw [if_pos (by omega)]
    simp only [c1, decide_true, if_true]
    by_cases c2 : m ≤ 9223372036854775808
    · rw [if_pos (by simpa using (by omega : (m : Int) ≤ 9223372036854775808)), if_pos c2]
      congr 2
      unfold wrap64; omega
    · rw [if_neg (by simpa using (by omega : ¬ (m : Int) ≤ 9223372036854775808)), if_neg c2, if_neg (by omega)]
  · rw [if_neg (by omega)]
    simp only [c1, decide_false, Bool.false_eq_true, if_false]
    rw [if_pos (by omega)]
    by_cases c2 : m < 9223372036854775808
    · rw [if_pos (by omega), if_pos c2]
      congr 2
      unfold wrap64; omega
    · rw [if_neg (by omega), if_neg c2]

theorem toInt_f {k : Nat} {x : Int} (h : U x) (hk : 4 ≤ k) : flt_ToInt.f k x = some (toI (decide (9223372036854775808 ≤ x)) (x % 9223372036854775808).toNat) := by
  obtain ⟨k, rfl⟩ : ∃ z, k = z + 1 := ⟨k - 1, by omega⟩
  have h1 := h.1; have h2 := h.2
  unfold flt_ToInt.f
  rw [size_f h]
  simp only [Option.bind_some]
  obtain ⟨S, hS⟩ : ∃ S : Nat, (S : Int) = x % 9223372036854775808 := ⟨(x % 9223372036854775808).toNat, by omega⟩
  rw [← hS, show ((S : Int)).toNat = S from by omega]
  have hS2 : S < 9223372036854775808 := by omega
  unfold toI
  by_cases c0 : S = 0
  · rw [if_pos (by omega), if_pos c0]
  rw [if_neg (by omega), if_neg c0]
  rw [wrap64_in (n := (S : Int) / 4503599627370496) (by omega) (by omega), wrap64_in (n := (S : Int) / 4503599627370496 - 1075) (by omega) (by omega)]
  have hmm : Go.bits .or .u64 (Go.bits .and .u64 x 4503599627370495) 4503599627370496 = ((S % 4503599627370496 + 4503599627370496 : Nat) : Int) := by
    rw [and_frac h1 h2, or_hidden (by omega) (by omega)]; omega
  rw [hmm]
  have hex : ex S = S / 4503599627370496 - 1 := rfl
  have hfp := fr_pos c0
  have hfh := fr_high S
  by_cases c1 : (S : Int) / 4503599627370496 - 1075 > 11
  · rw [if_pos c1, if_pos (by omega)]
    simp only [flt_ToInt.j0, if_true]
  · rw [if_neg c1, if_neg (by omega)]
    simp only [flt_ToInt.j0]
    by_cases c2 : (S : Int) / 4503599627370496 - 1075 < -52
    · rw [if_pos (by simpa using c2), if_neg (by omega)]
      have : fr S % 2 ^ (1074 - ex S) = fr S := by
        apply Nat.mod_eq_of_lt
        have : 2 ^ 53 ≤ 2 ^ (1074 - ex S) := Nat.pow_le_pow_right (by decide) (by omega)
        omega
      rw [this, if_neg (by omega)]
    · rw [if_neg (by simpa using c2)]
      have hfr : fr S = S % 4503599627370496 + 4503599627370496 := by
        have e : (4503599627370496 : Nat) = 2 ^ 52 := by decide
        unfold fr; rw [← e, if_neg (by omega)]
      rw [← hfr]
      by_cases c3 : (S : Int) / 4503599627370496 - 1075 ≥ 0
      · rw [if_pos c3, if_pos c3, if_pos (by omega)]
        have e : (S : Int) / 4503599627370496 - 1075 = ((ex S - 1074 : Nat) : Int) := by omega
        have hb : fr S * 2 ^ (ex S - 1074) < 18446744073709551616 := by
          have a : 2 ^ (ex S - 1074) ≤ 2 ^ 11 := Nat.pow_le_pow_right (by decide) (by omega)
          have b : fr S * 2 ^ (ex S - 1074) ≤ fr S * 2 ^ 11 := Nat.mul_le_mul_left _ a
          omega
        rw [e, shl_nat (by omega) hb, tj1_f h (by omega) (by omega)]
      · rw [if_neg c3, wrap64_in (by omega) (by omega), if_pos (by omega), if_neg (show ¬ ex S ≥ 1074 from by omega)]
        have e : -((S : Int) / 4503599627370496 - 1075) = ((1074 - ex S : Nat) : Int) := by omega
        rw [e, mask_nat (by omega) (by omega), shr_nat _ (by omega)]
        have hle : fr S / 2 ^ (1074 - ex S) ≤ fr S := Nat.div_le_self _ _
        by_cases c4 : fr S % 2 ^ (1074 - ex S) = 0
        · rw [if_pos c4, c4, if_neg (by decide), tj1_f h (by omega) (by omega)]
        · rw [if_neg c4, if_pos (by have := Nat.pos_of_ne_zero c4; exact Int.ofNat_lt.2 this)]

theorem rparts_f {x : Int} (h : U x) {S : Nat} (hS : (S : Int) = x % 9223372036854775808) : hygref6_parts.f x = some (((fr S : Nat) : Int), (ex S : Int) - 1074) := by
  have h1 := h.1; have h2 := h.2
  unfold hygref6_parts.f
  rw [and_2047 (x := x / 4503599627370496) (by omega) (by omega), and_frac h1 h2, wrap64_in (by omega) (by omega), or_hidden (by omega) (by omega)]
  have e : x / 4503599627370496 % 2048 = ((S / 4503599627370496 : Nat) : Int) := by omega
  have hex : ex S = S / 4503599627370496 - 1 := rfl
  have hfr : fr S = if S / 4503599627370496 = 0 then S else S % 4503599627370496 + 4503599627370496 := rfl
  rw [e]
  by_cases c : S / 4503599627370496 = 0
  · rw [if_pos (by omega), hfr, if_pos c]
    congr 2 <;> omega
  · rw [if_neg (by omega), hfr, if_neg c, wrap64_in (by omega) (by omega)]
    congr 2 <;> omega

theorem rj2_f {k : Nat} {x : Int} (h : U x) (hk : 1 ≤ k) {m : Nat} (hm0 : 0 < m) (hm : m < 2 ^ 64) :
    ((hygref6_neg.f x).bind fun t129 => (if t129 = true then (hygref6_ToInt.j2 k x m (decide ((m : Int) ≤ 9223372036854775808))) else (hygref6_ToInt.j2 k x m false))) = some (chk (decide (9223372036854775808 ≤ x)) m) := by
  obtain ⟨k, rfl⟩ : ∃ z, k = z + 1 := ⟨k - 1, by omega⟩
  rw [rneg_f h]
  simp only [Option.bind_some, hygref6_ToInt.j2]
  rw [rneg_f h]
  simp only [Option.bind_some]
  unfold chk
  by_cases c1 : 9223372036854775808 ≤ x
  · simp only [c1, decide_true, if_true]
    by_cases c2 : m ≤ 9223372036854775808
    · rw [if_pos (by simpa using (by omega : (m : Int) ≤ 9223372036854775808)), if_pos c2]
      congr 2
      rw [wrap_in (by omega) (by omega)]
      unfold wrap64; omega
    · rw [if_neg (by simpa using (by omega : ¬ (m : Int) ≤ 9223372036854775808)), if_neg c2]
  · simp only [c1, decide_false, Bool.false_eq_true, if_false]
    by_cases c2 : m < 9223372036854775808
    · rw [if_pos (by omega), if_pos c2]
      congr 2
      unfold wrap64; omega
    · rw [if_neg (by omega), if_neg c2]

theorem rl1_f {x : Int} (h : U x) : ∀ (d k m : Nat), d + 1 < k → 0 < m → m < 2 ^ 64 → d < 10000 → m * 2 ^ d < 2 ^ 64 →
    hygref6_ToInt.l1 k x m d = some (chk (decide (9223372036854775808 ≤ x)) (m * 2 ^ d)) := by
  intro d
  induction d with
  | zero =>
    intro k m hk h0 hm _ _
    obtain ⟨k, rfl⟩ : ∃ z, k = z + 1 := ⟨k - 1, by omega⟩
    simp only [hygref6_ToInt.l1]
    rw [if_neg (by omega), rj2_f h (by omega) h0 hm, Nat.pow_zero, Nat.mul_one]
  | succ d ih =>
    intro k m hk h0 hm hd hlt
    obtain ⟨k, rfl⟩ : ∃ z, k = z + 1 := ⟨k - 1, by omega⟩
    have hp : m * 2 ^ (d + 1) = m * 2 * 2 ^ d := by rw [Nat.pow_succ, Nat.mul_assoc, Nat.mul_comm 2]
    rw [hp] at hlt ⊢
    have hm2 : m * 2 < 2 ^ 64 := by
      have : m * 2 * 1 ≤ m * 2 * 2 ^ d := Nat.mul_le_mul_left _ (Nat.two_pow_pos d)
      omega
    simp only [hygref6_ToInt.l1]
    rw [if_pos (by omega), if_neg (by omega), wrap_in (by omega) (by omega), wrap64_in (by omega) (by omega)]
    have e1 : (m : Int) * 2 = ((m * 2 : Nat) : Int) := by omega
    have e2 : ((d + 1 : Nat) : Int) - 1 = (d : Int) := by omega
    rw [e1, e2]
    exact ih k (m * 2) (by omega) (by omega) hm2 (by omega) hlt

theorem rl1_far {x : Int} : ∀ (d k m : Nat), d < k → m < 2 ^ 64 → d < 10000 → 2 ^ 63 < m * 2 ^ d → 0 < d → 2 ^ 64 ≤ m * 2 ^ d → hygref6_ToInt.l1 k x m d = some (0, false) := by
  intro d
  induction d with
  | zero => intro k m _ _ _ _ h _; omega
  | succ d ih =>
    intro k m hk hm hd h1 _ h2
    obtain ⟨k, rfl⟩ : ∃ z, k = z + 1 := ⟨k - 1, by omega⟩
    simp only [hygref6_ToInt.l1]
    rw [if_pos (by omega)]
    by_cases c : m ≥ 2 ^ 63
    · rw [if_pos (by omega)]
    · rw [if_neg (by omega), wrap_in (by omega) (by omega), wrap64_in (by omega) (by omega)]
      have hp : m * 2 ^ (d + 1) = m * 2 * 2 ^ d := by rw [Nat.pow_succ, Nat.mul_assoc, Nat.mul_comm 2]
      rw [hp] at h1 h2
      have e1 : (m : Int) * 2 = ((m * 2 : Nat) : Int) := by omega
      have e2 : ((d + 1 : Nat) : Int) - 1 = (d : Int) := by omega
      have hd0 : 0 < d := by
        rcases Nat.eq_zero_or_pos d with z | z
        · subst z; omega
        · exact z
      rw [e1, e2]
      exact ih k (m * 2) (by omega) (by omega) (by omega) h1 hd0 h2

theorem rl0_f {x : Int} : ∀ (d k m : Nat), m < 2 ^ 64 → d < 10000 → hygref6_ToInt.l0 (k + d + 1) x m (-(d : Int)) = if m % 2 ^ d = 0 then hygref6_ToInt.l1 k x (m / 2 ^ d : Nat) 0 else some (0, false) := by
  intro d
  induction d with
  | zero =>
    intro k m _ _
    simp only [hygref6_ToInt.l0]
    rw [Nat.pow_zero, Nat.mod_one, Nat.div_one, if_neg (by omega), if_pos rfl]
    rfl
  | succ d ih =>
    intro k m hm hd
    rw [show k + (d + 1) + 1 = (k + d + 1) + 1 from by omega]
    rw [hygref6_ToInt.l0]
    rw [if_pos (by omega), and_1 (x := (m : Int)) (by omega) (by omega)]
    have hp : 2 ^ (d + 1) = 2 * 2 ^ d := by rw [Nat.pow_succ, Nat.mul_comm]
    by_cases c : m % 2 = 1
    · rw [if_pos (by omega), if_neg]
      intro hz
      have h2 : 2 ∣ m := Nat.dvd_trans ⟨2 ^ d, hp⟩ (Nat.dvd_of_mod_eq_zero hz)
      omega
    · rw [if_neg (by omega), wrap64_in (by omega) (by omega)]
      have e1 : (m : Int) / 2 = ((m / 2 : Nat) : Int) := by omega
      have e2 : -((d + 1 : Nat) : Int) + 1 = -(d : Int) := by omega
      rw [e1, e2, ih k (m / 2) (by omega) (by omega)]
      have q : m / 2 / 2 ^ d = m / 2 ^ (d + 1) := by rw [Nat.div_div_eq_div_mul, hp]
      have r : (m / 2 % 2 ^ d = 0) ↔ (m % 2 ^ (d + 1) = 0) := by
        rw [hp, Nat.mod_mul]; omega
      rw [q]
      by_cases c2 : m / 2 % 2 ^ d = 0
      · rw [if_pos c2, if_pos (r.1 c2)]
      · rw [if_neg c2, if_neg (fun z => c2 (r.2 z))]

theorem rtoInt_f {k : Nat} {x : Int} (h : U x) (hk : 3000 ≤ k) : hygref6_ToInt.f k x = some (toI (decide (9223372036854775808 ≤ x)) (x % 9223372036854775808).toNat) := by
  have h1 := h.1; have h2 := h.2
  obtain ⟨S, hS⟩ : ∃ S : Nat, (S : Int) = x % 9223372036854775808 := ⟨(x % 9223372036854775808).toNat, by omega⟩
  have hS2 : S < 9223372036854775808 := by omega
  unfold hygref6_ToInt.f
  rw [rclass_f h (by omega), rparts_f h hS]
  simp only [Option.bind_some]
  rw [← hS, show ((S : Int)).toNat = S from by omega]
  have hex : ex S = S / 4503599627370496 - 1 := rfl
  have hfh := fr_high S
  unfold toI
  by_cases c0 : S = 0
  · subst c0
    rw [if_neg (by unfold cls; rw [← hS]; decide), if_pos (by decide), if_pos rfl]
  rw [if_neg c0]
  have hfp := fr_pos c0
  by_cases c1 : cls x > 2
  · rw [if_pos c1]
    have : S ≥ 9218868437227405312 := by
      unfold cls at c1; rw [← hS] at c1
      by_cases a : (S : Int) > 9218868437227405312
      · omega
      · rw [if_neg a] at c1
        by_cases b : (S : Int) = 9218868437227405312
        · omega
        · rw [if_neg b] at c1
          by_cases d : (S : Int) ≥ 4503599627370496
          · rw [if_pos d] at c1; omega
          · rw [if_neg d] at c1
            by_cases e : (S : Int) > 0
            · rw [if_pos e] at c1; omega
            · rw [if_neg e] at c1; omega
    rw [if_pos (by omega)]
  · rw [if_neg c1, if_neg (by omega)]
    have hfr : ex S > 0 → 2 ^ 52 ≤ fr S := by
      intro hx
      exact fr_low (by have : (2 : Nat) ^ 52 = 4503599627370496 := by decide
                       omega)
    by_cases c2 : ex S ≥ 1074
    · obtain ⟨d, hd⟩ : ∃ d : Nat, d = ex S - 1074 := ⟨_, rfl⟩
      have e : (ex S : Int) - 1074 = (d : Int) := by omega
      rw [e]
      obtain ⟨k, rfl⟩ : ∃ z, k = z + 1 := ⟨k - 1, by omega⟩
      simp only [hygref6_ToInt.l0]
      rw [if_neg (by omega)]
      have hf52 := hfr (by omega)
      by_cases c3 : ex S > 1085
      · rw [if_pos c3]
        have a : 2 ^ 12 ≤ 2 ^ d := Nat.pow_le_pow_right (by decide) (by omega)
        have b : 2 ^ 52 * 2 ^ 12 ≤ fr S * 2 ^ d := Nat.mul_le_mul hf52 a
        exact rl1_far d k (fr S) (by omega) (by omega) (by omega) (by omega) (by omega) (by omega)
      · rw [if_neg c3, if_pos c2, ← hd]
        have a : 2 ^ d ≤ 2 ^ 11 := Nat.pow_le_pow_right (by decide) (by omega)
        have b : fr S * 2 ^ d ≤ fr S * 2 ^ 11 := Nat.mul_le_mul_left _ a
        exact rl1_f h d k (fr S) (by omega) hfp (by omega) (by omega) (by omega)
    · obtain ⟨d, hd⟩ : ∃ d : Nat, d = 1074 - ex S := ⟨_, rfl⟩
      have e : (ex S : Int) - 1074 = -(d : Int) := by omega
      obtain ⟨k, rfl⟩ : ∃ z, k = z + d + 1 := ⟨k - d - 1, by omega⟩
      rw [e, rl0_f d k (fr S) (by omega) (by omega), if_neg (show ¬ ex S > 1085 from by omega), if_neg c2, ← hd]
      by_cases c4 : fr S % 2 ^ d = 0
      · rw [if_pos c4, if_pos c4]
        have hpos : 0 < fr S / 2 ^ d := Nat.div_pos (Nat.le_of_dvd hfp (Nat.dvd_of_mod_eq_zero c4)) (Nat.two_pow_pos d)
        have hle : fr S / 2 ^ d ≤ fr S := Nat.div_le_self _ _
        have := rl1_f h 0 k (fr S / 2 ^ d) (by omega) hpos (by omega) (by omega) (by rw [Nat.pow_zero]; omega)
        rw [Nat.pow_zero, Nat.mul_one] at this
        exact this
      · rw [if_neg c4, if_neg c4]

theorem FltInts : hyglaw6_FltInts.Pure := by
  intro n x hn hx
  have hn := I_of hn
  have hx := U_of hx
  refine ⟨4000, ?_⟩
  unfold hyglaw6_FltInts.f
  rw [first_f (by omega), toInt_f hx (by omega), rtoInt_f hx (by omega), fromInt_f hn (by omega), rfromInt_f hn (by omega)]
  simp

end Go.Proofs.Ytmljncgglpckcaa.Pure
