/- Part of the proof: a machine of states for walks, and contracts of functions over it. Conditions: those that each theorem names. -/
import Derived.Test.YtcjdbimojffggaaGreatDoorC16
import Derived.WalkKit
import Derived.Laws.BitsLemmas
set_option linter.unusedVariables false
set_option linter.unusedSimpArgs false
/- Plain facts on rounding a whole number to so many bits, to nearest, ties to even: no program and no memory in sight. -/
namespace Go.Proofs.SxFl
def up (V k : Nat) : Nat:=if 2 ^ k < 2 * (V % 2 ^ k) ∨ (2 * (V % 2 ^ k) = 2 ^ k ∧ V / 2 ^ k % 2 = 1) then 1 else 0
def rnd (V k : Nat) : Nat:=V / 2 ^ k + up V k
def kk (V : Nat) : Nat:=Nat.log2 V - 52
def near (V : Nat) : Nat:=kk V * 2 ^ 52 + rnd V (kk V)
theorem up_le (V k : Nat) : up V k ≤ 1:=by unfold up; split <;> omega
theorem rnd_mono {V W : Nat} (k : Nat) (h : V ≤ W) : rnd V k ≤ rnd W k:=by
 have hq : V / 2 ^ k ≤ W / 2 ^ k:=Nat.div_le_div_right h
 have u1:=up_le V k
 rcases Nat.lt_or_ge (V / 2 ^ k) (W / 2 ^ k) with h1 | h1
 ·unfold rnd; omega
 have e : V / 2 ^ k = W / 2 ^ k:=by omega
 have a:=Nat.div_add_mod V (2 ^ k)
 have b:=Nat.div_add_mod W (2 ^ k)
 rw [e] at a
 have hr : V % 2 ^ k ≤ W % 2 ^ k:=by omega
 unfold rnd up
 rw [e]
 split <;> split <;> omega
theorem kk_eq {V k : Nat} (h1 : 2 ^ (52 + k) ≤ V) (h2 : V < 2 ^ (53 + k)) : kk V = k:=by
 have h0 : V ≠ 0:=by have:=Nat.two_pow_pos (52 + k); omega
 have : Nat.log2 V = 52 + k:=(Nat.log2_eq_iff h0).2 ⟨h1,by rw [show 52 + k + 1 = 53 + k from by omega]; exact h2⟩
 unfold kk; omega
theorem kk_zero {V : Nat} (h : V < 2 ^ 53) : kk V = 0:=by
 rcases Nat.eq_zero_or_pos V with h0 | h0
 ·subst h0; decide
 have : Nat.log2 V < 53:=(Nat.log2_lt (by omega)).2 h
 unfold kk; omega
theorem kk_low {V : Nat} (h : 0 < kk V) : 2 ^ (52 + kk V) ≤ V:=by
 have h0 : V ≠ 0:=by intro e; subst e; simp [kk] at h
 have:=Nat.log2_self_le h0
 have e : 52 + kk V = Nat.log2 V:=by unfold kk at *; omega
 rw [e]; exact this
theorem kk_high (V : Nat) : V < 2 ^ (53 + kk V):=by
 have h:=@Nat.lt_log2_self V
 refine Nat.lt_of_lt_of_le h (Nat.pow_le_pow_right (by decide) ?_)
 unfold kk; omega
theorem q_low {V : Nat} (h : 0 < kk V) : 2 ^ 52 ≤ V / 2 ^ kk V:=by
 rw [Nat.le_div_iff_mul_le (Nat.two_pow_pos _),← Nat.pow_add]; exact kk_low h
theorem q_high (V : Nat) : V / 2 ^ kk V < 2 ^ 53:=by
 rw [Nat.div_lt_iff_lt_mul (Nat.two_pow_pos _),← Nat.pow_add]; exact kk_high V
theorem kk_mono {V W : Nat} (h : V ≤ W) : kk V ≤ kk W:=by
 rcases Nat.lt_or_ge (kk W) (kk V) with h1 | h1
 ·have a:=kk_low (V:=V) (by omega)
  have b:=kk_high W
  have c : 2 ^ (53 + kk W) ≤ 2 ^ (52 + kk V):=Nat.pow_le_pow_right (by decide) (by omega)
  omega
 exact h1
theorem near_mono {V W : Nat} (h : V ≤ W) : near V ≤ near W:=by
 have h1:=kk_mono h
 unfold near
 rcases Nat.lt_or_ge (kk V) (kk W) with h2 | h2
 ·have a:=q_high V
  have b:=q_low (V:=W) (by omega)
  have c:=up_le V (kk V)
  unfold rnd
  omega
 have e : kk V = kk W:=by omega
 rw [e]
 have:=rnd_mono (kk W) h
 omega
theorem rnd_scale (X a b : Nat) : rnd (X * 2 ^ a) (a + b) = rnd X b:=by
 have hp : 0 < 2 ^ a:=Nat.two_pow_pos a
 have e : 2 ^ (a + b) = 2 ^ b * 2 ^ a:=by rw [Nat.pow_add,Nat.mul_comm]
 have q : X * 2 ^ a / (2 ^ b * 2 ^ a) = X / 2 ^ b:=Nat.mul_div_mul_right _ _ hp
 have r : X * 2 ^ a % (2 ^ b * 2 ^ a) = X % 2 ^ b * 2 ^ a:=Nat.mul_mod_mul_right _ _ _
 unfold rnd up
 rw [e,q,r]
 have h1 : (2 ^ b * 2 ^ a < 2 * (X % 2 ^ b * 2 ^ a)) ↔ (2 ^ b < 2 * (X % 2 ^ b)):=by
  rw [← Nat.mul_assoc]; exact Nat.mul_lt_mul_right hp
 have h2 : (2 * (X % 2 ^ b * 2 ^ a) = 2 ^ b * 2 ^ a) ↔ (2 * (X % 2 ^ b) = 2 ^ b):=by
  rw [← Nat.mul_assoc]; exact Nat.mul_right_cancel_iff hp
 simp only [h1,h2]
theorem rnd_zero (X : Nat) : rnd X 0 = X:=by
 unfold rnd up
 simp [Nat.mod_one]
theorem rnd_exact (X a : Nat) : rnd (X * 2 ^ a) a = X:=by
 have:=rnd_scale X a 0
 rw [Nat.add_zero] at this
 rw [this,rnd_zero]
def ex (s : Nat) : Nat:=s / 2 ^ 52 - 1
def fr (s : Nat) : Nat:=if s / 2 ^ 52 = 0 then s else s % 2 ^ 52 + 2 ^ 52
def val (s : Nat) : Nat:=fr s * 2 ^ ex s
theorem fr_high (s : Nat) : fr s < 2 ^ 53:=by unfold fr; split <;> omega
theorem fr_low {s : Nat} (h : 2 ^ 52 ≤ s) : 2 ^ 52 ≤ fr s:=by unfold fr; split <;> omega
theorem ex_fr (s : Nat) : ex s * 2 ^ 52 + fr s = s:=by unfold ex fr; split <;> omega
theorem near_of {V k q : Nat} (h1 : V = q * 2 ^ k) (h2 : q < 2 ^ 53) (h3 : 0 < k → 2 ^ 52 ≤ q) : near V = k * 2 ^ 52 + q:=by
 have hk : kk V = k:=by
  rcases Nat.eq_zero_or_pos k with h0 | h0
  ·subst h0; apply kk_zero; omega
  have h:=h3 h0
  apply kk_eq
  ·rw [h1,Nat.pow_add]; exact Nat.mul_le_mul_right _ h
  rw [h1,Nat.pow_add]; exact (Nat.mul_lt_mul_right (Nat.two_pow_pos k)).2 h2
 unfold near
 rw [hk,h1,rnd_exact]
theorem near_val (s : Nat) : near (val s) = s:=by
 have h:=near_of (V:=val s) (q:=fr s) (k:=ex s) rfl (fr_high s) (fun h=>fr_low (by unfold ex at h; omega))
 rw [h]
 exact ex_fr s
theorem val_lt {s t : Nat} : val s < val t ↔ s < t:=by
 constructor
 ·intro h
  rcases Nat.lt_or_ge s t with h1 | h1
  ·exact h1
  have h3:=near_mono (Nat.le_of_lt h)
  rw [near_val,near_val] at h3
  have : s = t:=by omega
  subst this; omega
 intro h
 rcases Nat.lt_or_ge (val s) (val t) with h1 | h1
 ·exact h1
 have:=near_mono h1
 rw [near_val,near_val] at this; omega
theorem val_le {s t : Nat} : val s ≤ val t ↔ s ≤ t:=by
 have:=@val_lt t s; omega
def Stk (N d B : Nat) : Prop:=B * 2 ^ d = N ∨ (B % 2 = 1 ∧ (B - 1) * 2 ^ d < N ∧ N < (B + 1) * 2 ^ d)
theorem stk_lt {N d B : Nat} (h : Stk N d B) {T : Nat} (hT : T % 2 = 0) : T * 2 ^ d < N ↔ T < B:=by
 have hp : 0 < 2 ^ d:=Nat.two_pow_pos d
 rcases h with h | ⟨h1,h2,h3⟩
 ·rw [← h]; exact Nat.mul_lt_mul_right hp
 constructor
 ·intro h4
  have h5 : T * 2 ^ d < (B + 1) * 2 ^ d:=by omega
  have h6:=(Nat.mul_lt_mul_right hp).1 h5
  omega
 intro h4
 have h5 : T * 2 ^ d ≤ (B - 1) * 2 ^ d:=Nat.mul_le_mul_right _ (by omega)
 omega
theorem stk_gt {N d B : Nat} (h : Stk N d B) {T : Nat} (hT : T % 2 = 0) : N < T * 2 ^ d ↔ B < T:=by
 have hp : 0 < 2 ^ d:=Nat.two_pow_pos d
 rcases h with h | ⟨h1,h2,h3⟩
 ·rw [← h]; exact Nat.mul_lt_mul_right hp
 constructor
 ·intro h4
  have h5 : (B - 1) * 2 ^ d < T * 2 ^ d:=by omega
  have h6:=(Nat.mul_lt_mul_right hp).1 h5
  omega
 intro h4
 have h5 : (B + 1) * 2 ^ d ≤ T * 2 ^ d:=Nat.mul_le_mul_right _ (by omega)
 omega
theorem rnd_stk {N d B : Nat} (h : Stk N d B) (g : Nat) : rnd N (d + (g + 2)) = rnd B (g + 2):=by
 have hG : 2 ^ (g + 2) = 4 * 2 ^ g:=by rw [Nat.pow_add]; omega
 have hg : 0 < 2 ^ g:=Nat.two_pow_pos g
 have hp : 0 < 2 ^ d:=Nat.two_pow_pos d
 have hD : 2 ^ (d + (g + 2)) = 2 ^ (g + 2) * 2 ^ d:=by rw [Nat.pow_add,Nat.mul_comm]
 have hB:=Nat.div_add_mod B (2 ^ (g + 2))
 have hBm:=Nat.mod_lt B (Nat.two_pow_pos (g + 2))
 have hN:=Nat.div_add_mod N (2 ^ (g + 2) * 2 ^ d)
 have hNm:=Nat.mod_lt N (Nat.mul_pos (Nat.two_pow_pos (g + 2)) hp)
 -- the quotients
 have hq : N / (2 ^ (g + 2) * 2 ^ d) = B / 2 ^ (g + 2):=by
  have a : (2 ^ (g + 2) * (B / 2 ^ (g + 2))) * 2 ^ d ≤ N:=by
   have:=(@stk_gt N d B h (2 ^ (g + 2) * (B / 2 ^ (g + 2))) (by rw [hG,Nat.mul_assoc]; omega))
   omega
  have b : N < (2 ^ (g + 2) * (B / 2 ^ (g + 2) + 1)) * 2 ^ d:=by
   rw [@stk_gt N d B h (2 ^ (g + 2) * (B / 2 ^ (g + 2) + 1)) (by rw [hG,Nat.mul_assoc]; omega)]
   rw [Nat.mul_add]; omega
  apply Nat.div_eq_of_lt_le
  ·rw [Nat.mul_comm,Nat.mul_assoc,Nat.mul_comm (2 ^ d),← Nat.mul_assoc]; exact a
  rw [Nat.mul_comm,Nat.mul_assoc,Nat.mul_comm (2 ^ d),← Nat.mul_assoc]; exact b
 rw [hq] at hN
 have hT : (2 ^ (g + 2) * (B / 2 ^ (g + 2)) + 2 * 2 ^ g) % 2 = 0:=by
  rw [hG,Nat.mul_assoc]; omega
 have l1:=@stk_lt N d B h _ hT
 have l2:=@stk_gt N d B h _ hT
 have e1 : (2 ^ (g + 2) * (B / 2 ^ (g + 2)) + 2 * 2 ^ g) * 2 ^ d = 2 ^ (g + 2) * 2 ^ d * (B / 2 ^ (g + 2)) + 2 * (2 ^ g * 2 ^ d):=by
  rw [Nat.add_mul,Nat.mul_assoc,Nat.mul_comm (B / 2 ^ (g + 2)),← Nat.mul_assoc,Nat.mul_assoc 2]
 rw [e1] at l1 l2
 have e2 : 2 ^ (g + 2) * 2 ^ d = 4 * (2 ^ g * 2 ^ d):=by rw [hG,Nat.mul_assoc]
 unfold rnd up
 rw [hD,hq]
 have c1 : (2 ^ (g + 2) * 2 ^ d < 2 * (N % (2 ^ (g + 2) * 2 ^ d))) ↔ (2 ^ (g + 2) < 2 * (B % 2 ^ (g + 2))):=by omega
 have c2 : (2 * (N % (2 ^ (g + 2) * 2 ^ d)) = 2 ^ (g + 2) * 2 ^ d) ↔ (2 * (B % 2 ^ (g + 2)) = 2 ^ (g + 2)):=by omega
 simp only [c1,c2]
theorem stk_add {N d B : Nat} (h : Stk N d B) {C : Nat} (hC : C % 2 = 0) : Stk (C * 2 ^ d + N) d (C + B):=by
 rcases h with h | ⟨h1,h2,h3⟩
 ·left; rw [Nat.add_mul,h]
 right
 refine ⟨by omega,?_,?_⟩
 ·rw [show C + B - 1 = C + (B - 1) from by omega,Nat.add_mul]; omega
 rw [show C + B + 1 = C + (B + 1) from by omega,Nat.add_mul]; omega
theorem stk_sub {N d B : Nat} (h : Stk N d B) {C : Nat} (hC : C % 2 = 0) (hB : B ≤ C) : Stk (C * 2 ^ d - N) d (C - B):=by
 rcases h with h | ⟨h1,h2,h3⟩
 ·left; rw [Nat.sub_mul,h]
 right
 have a : (B + 1) * 2 ^ d ≤ C * 2 ^ d:=Nat.mul_le_mul_right _ (by omega)
 refine ⟨by omega,?_,?_⟩
 ·rw [show C - B - 1 = C - (B + 1) from by omega,Nat.sub_mul]; omega
 rw [show C - B + 1 = C - (B - 1) from by omega,Nat.sub_mul]; omega
def stick (B e : Nat) : Nat:=if B % 2 ^ e = 0 then B / 2 ^ e else if B / 2 ^ e % 2 = 1 then B / 2 ^ e else B / 2 ^ e + 1
theorem stk_exact (B d : Nat) : Stk (B * 2 ^ d) d B:=Or.inl rfl
theorem stick_stk (B e : Nat) : Stk B e (stick B e):=by
 have hp : 0 < 2 ^ e:=Nat.two_pow_pos e
 have hB:=Nat.div_add_mod B (2 ^ e)
 have hm:=Nat.mod_lt B hp
 rw [Nat.mul_comm] at hB
 unfold stick
 split
 ·left; omega
 right
 split
 ·refine ⟨by assumption,?_,?_⟩
  ·have : (B / 2 ^ e - 1) * 2 ^ e ≤ (B / 2 ^ e) * 2 ^ e:=Nat.mul_le_mul_right _ (Nat.sub_le _ _)
   omega
  rw [Nat.add_mul]; omega
 refine ⟨by omega,?_,?_⟩
 ·rw [Nat.add_sub_cancel]; omega
 rw [show B / 2 ^ e + 1 + 1 = B / 2 ^ e + 2 from rfl,Nat.add_mul]; omega
theorem stk_trans {N d B e C : Nat} (h1 : Stk N d B) (h2 : Stk B e C) : Stk N (d + e) C:=by
 have hd : 0 < 2 ^ d:=Nat.two_pow_pos d
 have hpe : 2 ^ (d + e) = 2 ^ e * 2 ^ d:=by rw [Nat.pow_add,Nat.mul_comm]
 unfold Stk
 rw [hpe,← Nat.mul_assoc,← Nat.mul_assoc,← Nat.mul_assoc]
 rcases Nat.eq_zero_or_pos e with h0 | h0
 ·subst h0
  simp only [Nat.pow_zero,Nat.mul_one]
  rcases h2 with h2 | ⟨a,b,c⟩
  ·rw [Nat.pow_zero,Nat.mul_one] at h2; subst h2; exact h1
  rw [Nat.pow_zero,Nat.mul_one] at b c
  have : C = B:=by omega
  subst this; exact h1
 have he : 2 ^ e % 2 = 0:=by
  obtain ⟨n,rfl⟩ : ∃ n,e = n + 1:=⟨e - 1,by omega⟩
  rw [Nat.pow_succ]; omega
 have even : ∀ x : Nat,(x * 2 ^ e) % 2 = 0:=fun x=>by rw [Nat.mul_mod,he]; simp
 rcases h2 with h2 | ⟨a,b,c⟩
 ·-- just so: B is even
  have hB : B % 2 = 0:=by rw [← h2]; exact even C
  rcases h1 with h1 | ⟨a,_,_⟩
  ·left; rw [h2,h1]
  omega
 right
 exact ⟨a,(stk_lt h1 (even _)).2 b,(stk_gt h1 (even _)).2 c⟩
end Go.Proofs.SxFl
/- Plain facts on the bit operations of 64-bit words, each as arithmetic on whole numbers: no program in sight. -/
namespace Go.Proofs.SxFl
open Go.RowKit
theorem wrap_u (n : Int) : IntKind.u64.wrap n = n % 18446744073709551616:=by simp [IntKind.wrap,IntKind.bits,IntKind.signed]
theorem wrap_in {n : Int} (h0 : 0 ≤ n) (h1 : n < 18446744073709551616) : IntKind.u64.wrap n = n:=by rw [wrap_u]; omega
theorem wraps_u64 (n : Int) (h₀ : 0 ≤ n) (h₁ : n < 2 ^ 64) : IntKind.u64.wrap n = n:=wrap_in h₀ (by omega)
theorem wrap64_in {n : Int} (h0 : -9223372036854775808 ≤ n) (h1 : n < 9223372036854775808) : wrap64 n = n:=by unfold wrap64; omega
theorem and_nat {a b : Nat} (ha : a < 2 ^ 64) (hb : b < 2 ^ 64) : Go.bits .and .u64 (a : Int) (b : Int) = ((a &&& b : Nat) : Int) :=
 (bits_nat .u64 64 (by decide) wraps_u64 a b ha hb).1
theorem or_nat {a b : Nat} (ha : a < 2 ^ 64) (hb : b < 2 ^ 64) : Go.bits .or .u64 (a : Int) (b : Int) = ((a ||| b : Nat) : Int) :=
 (bits_nat .u64 64 (by decide) wraps_u64 a b ha hb).2
theorem xor_nat {a b : Nat} (ha : a < 2 ^ 64) (hb : b < 2 ^ 64) : Go.bits .xor .u64 (a : Int) (b : Int) = ((a ^^^ b : Nat) : Int):=by
 have hx : a ^^^ b < 2 ^ 64:=Nat.xor_lt_two_pow ha hb
 have ha' : a % 2 ^ IntKind.u64.bits = a:=Nat.mod_eq_of_lt ha
 have hb' : b % 2 ^ IntKind.u64.bits = b:=Nat.mod_eq_of_lt hb
 simp only [Go.bits,BitVec.ofInt_natCast,BitVec.toNat_xor,BitVec.toNat_ofNat,ha',hb']
 exact wrap_in (Int.natCast_nonneg _) (by omega)
theorem mask {x : Int} (h0 : 0 ≤ x) (h1 : x < 18446744073709551616) (i : Nat) (hi : i ≤ 64) : Go.bits .and .u64 x (2 ^ i - 1) = x % 2 ^ i :=
 bits_mask .u64 64 (by decide) wraps_u64 i hi x h0 (by omega)
section
variable {x : Int} (h0 : 0 ≤ x) (h1 : x < 18446744073709551616)
include h0 h1
theorem and_frac : Go.bits .and .u64 x 4503599627370495 = x % 4503599627370496:=mask h0 h1 52 (by decide)
theorem and_size : Go.bits .and .u64 x 9223372036854775807 = x % 9223372036854775808:=mask h0 h1 63 (by decide)
theorem and_2047 : Go.bits .and .u64 x 2047 = x % 2048:=mask h0 h1 11 (by decide)
theorem and_7 : Go.bits .and .u64 x 7 = x % 8:=mask h0 h1 3 (by decide)
theorem and_1 : Go.bits .and .u64 x 1 = x % 2:=mask h0 h1 1 (by decide)
theorem and_sign : Go.bits .and .u64 x 9223372036854775808 = x / 9223372036854775808 * 9223372036854775808:=by
 obtain ⟨n,rfl⟩:=Int.eq_ofNat_of_zero_le h0
 have hn : n < 2 ^ 64:=by omega
 have e : (9223372036854775808 : Int) = ((2 ^ 63 : Nat) : Int):=by omega
 have h:=and_nat (a:=n) (b:=2 ^ 63) hn (by decide)
 rw [← e] at h
 rw [h]
 have key : n &&& 2 ^ 63 = n / 2 ^ 63 * 2 ^ 63:=by
  apply Nat.eq_of_testBit_eq
  intro i
  rw [Nat.testBit_and,Nat.testBit_two_pow]
  by_cases hi : 63 = i
  ·subst hi
   rw [Nat.testBit_mul_two_pow,Nat.testBit_eq_decide_div_mod_eq]
   simp
  rcases Nat.lt_or_ge i 63 with hl | hl
  ·rw [Nat.testBit_mul_two_pow]; simp [hi]; omega
  have : n.testBit i = false:=Nat.testBit_lt_two_pow (Nat.lt_of_lt_of_le hn (Nat.pow_le_pow_right (by decide) (by omega)))
  have h2 : (n / 2 ^ 63 * 2 ^ 63) ≤ n:=Nat.div_mul_le_self _ _
  have h3 : (n / 2 ^ 63 * 2 ^ 63).testBit i = false:=Nat.testBit_lt_two_pow (Nat.lt_of_le_of_lt h2 (Nat.lt_of_lt_of_le hn (Nat.pow_le_pow_right (by decide) (by omega))))
  simp [this,h3]
 rw [key]
 omega
theorem andNot_sign : Go.bits .andNot .u64 x 9223372036854775808 = x % 9223372036854775808:=by
 have e : Go.bits .andNot .u64 x 9223372036854775808 = Go.bits .and .u64 x 9223372036854775807:=by
  unfold Go.bits
  have : (~~~ (BitVec.ofInt IntKind.u64.bits 9223372036854775808)) = BitVec.ofInt IntKind.u64.bits 9223372036854775807:=by decide +kernel
  simp only [this]
 rw [e]; exact and_size h0 h1
theorem xor_sign : Go.bits .xor .u64 x 9223372036854775808 = if x < 9223372036854775808 then x + 9223372036854775808 else x - 9223372036854775808:=by
 obtain ⟨n,rfl⟩:=Int.eq_ofNat_of_zero_le h0
 have hn : n < 2 ^ 64:=by omega
 have e : (9223372036854775808 : Int) = ((2 ^ 63 : Nat) : Int):=by omega
 have h:=xor_nat (a:=n) (b:=2 ^ 63) hn (by decide)
 rw [← e] at h
 rw [h]
 have low : ∀ m : Nat,m < 2 ^ 63 → m ^^^ 2 ^ 63 = m + 2 ^ 63:=by
  intro m hm
  have h1:=Nat.two_pow_add_eq_or_of_lt hm 1
  rw [Nat.mul_one] at h1
  rw [Nat.add_comm,h1]
  apply Nat.eq_of_testBit_eq
  intro i
  rw [Nat.testBit_xor,Nat.testBit_or,Nat.testBit_two_pow]
  by_cases hi : 63 = i
  ·subst hi; rw [Nat.testBit_lt_two_pow hm]; simp
  simp [hi]
 split
 ·rw [low n (by omega)]; omega
 have e2 : n = (n - 2 ^ 63) ^^^ 2 ^ 63:=by rw [low _ (by omega)]; omega
 have h3 : n ^^^ 2 ^ 63 = n - 2 ^ 63:=by
  have h4 : ((n - 2 ^ 63) ^^^ 2 ^ 63) ^^^ 2 ^ 63 = n - 2 ^ 63:=by rw [Nat.xor_assoc,Nat.xor_self,Nat.xor_zero]
  rw [← e2] at h4; exact h4
 rw [h3]; omega
theorem xor_all : Go.bits .xor .u64 18446744073709551615 x = 18446744073709551615 - x:=by
 obtain ⟨n,rfl⟩:=Int.eq_ofNat_of_zero_le h0
 have hn : n < 2 ^ 64:=by omega
 have e : (18446744073709551615 : Int) = ((2 ^ 64 - 1 : Nat) : Int):=by omega
 have h:=xor_nat (a:=2 ^ 64 - 1) (b:=n) (by decide) hn
 rw [← e] at h
 rw [h]
 have key : (2 ^ 64 - 1) ^^^ n = 2 ^ 64 - (n + 1):=by
  apply Nat.eq_of_testBit_eq
  intro i
  rw [Nat.testBit_xor,Nat.testBit_two_pow_sub_one,Nat.testBit_two_pow_sub_succ hn]
  by_cases hi : i < 64
  ·simp [hi]
  simp [hi,Nat.testBit_lt_two_pow (Nat.lt_of_lt_of_le hn (Nat.pow_le_pow_right (by decide) (by omega : 64 ≤ i)))]
 rw [key]; omega
end
theorem or_join {x y : Int} (i : Nat) (hx0 : 0 ≤ x) (hx : x % 2 ^ i = 0) (hx1 : x < 18446744073709551616) (hy0 : 0 ≤ y) (hy : y < 2 ^ i) (hy1 : y < 18446744073709551616) :
  Go.bits .or .u64 x y = x + y:=bits_join .u64 64 (by decide) wraps_u64 i x y hx0 hx (by omega) hy0 hy (by omega)
theorem or_comm (x y : Int) : Go.bits .or .u64 x y = Go.bits .or .u64 y x:=by
 unfold Go.bits; simp only [BitVec.or_comm]
theorem or_hidden {x : Int} (h0 : 0 ≤ x) (h1 : x < 4503599627370496) : Go.bits .or .u64 x 4503599627370496 = x + 4503599627370496:=by
 rw [or_comm,or_join 52 (by decide) (by decide) (by decide) h0 (by omega) (by omega)]; omega
theorem or_sign {x : Int} (h0 : 0 ≤ x) (h1 : x < 9223372036854775808) : Go.bits .or .u64 x 9223372036854775808 = x + 9223372036854775808:=by
 rw [or_comm,or_join 63 (by decide) (by decide) (by decide) h0 (by omega) (by omega)]; omega
theorem sign_or {s x : Int} (hs : s = 0 ∨ s = 9223372036854775808) (h0 : 0 ≤ x) (h1 : x < 9223372036854775808) : Go.bits .or .u64 s x = s + x:=by
 rcases hs with rfl | rfl
 ·exact or_join 63 (by decide) (by decide) (by decide) h0 (by omega) (by omega)
 exact or_join 63 (by decide) (by decide) (by decide) h0 (by omega) (by omega)
theorem or_one {x : Int} (h0 : 0 ≤ x) (h1 : x < 18446744073709551616) : Go.bits .or .u64 x 1 = if x % 2 = 1 then x else x + 1:=by
 split
 ·rename_i h
  obtain ⟨n,rfl⟩:=Int.eq_ofNat_of_zero_le h0
  have hn : n < 2 ^ 64:=by omega
  have e : n = (n - 1) ||| 1:=by
   have h2:=Nat.two_pow_add_eq_or_of_lt (i:=1) (b:=1) (by decide) ((n - 1) / 2)
   have h3 : 2 ^ 1 * ((n - 1) / 2) = n - 1:=by omega
   rw [h3] at h2; omega
  refine (or_nat (a:=n) (b:=1) hn (by decide)).trans ?_
  have : n ||| 1 = n:=by
   conv=>lhs; rw [e,Nat.or_assoc,Nat.or_self]
   exact e.symm
  rw [this]
 exact or_join 1 h0 (by omega) h1 (by decide) (by decide) (by decide)
theorem or_size_zero {x y : Int} (h0 : 0 ≤ x) (h1 : x < 18446744073709551616) (h2 : 0 ≤ y) (h3 : y < 18446744073709551616) :
  0 ≤ Go.bits .or .u64 x y ∧ Go.bits .or .u64 x y < 18446744073709551616 ∧ (Go.bits .or .u64 x y % 9223372036854775808 = 0 ↔ x % 9223372036854775808 = 0 ∧ y % 9223372036854775808 = 0):=by
 obtain ⟨a,rfl⟩:=Int.eq_ofNat_of_zero_le h0
 obtain ⟨b,rfl⟩:=Int.eq_ofNat_of_zero_le h2
 have ha : a < 2 ^ 64:=by omega
 have hb : b < 2 ^ 64:=by omega
 have ho : a ||| b < 2 ^ 64:=Nat.or_lt_two_pow ha hb
 rw [or_nat ha hb]
 refine ⟨Int.natCast_nonneg _,by omega,?_⟩
 have e : (a ||| b) % 2 ^ 63 = a % 2 ^ 63 ||| b % 2 ^ 63:=Nat.or_mod_two_pow
 have z : (a % 2 ^ 63 ||| b % 2 ^ 63) = 0 ↔ a % 2 ^ 63 = 0 ∧ b % 2 ^ 63 = 0:=Nat.or_eq_zero_iff
 rw [← e] at z
 omega
end Go.Proofs.SxFl
/- FaddAdds: for any two 64-bit words the program's Add, Sub and Quiet of package fadd answer as the reference does. No condition. -/
namespace Go.Proofs.SxPu
open Go Go.RowKit Sx.Pf Go.Proofs.SxFl
def isNan (x : Int) : Prop:=x % 9223372036854775808 > 9218868437227405312
instance (x : Int) : Decidable (isNan x):=by unfold isNan; infer_instance
def U (x : Int) : Prop:=0 ≤ x ∧ x < 18446744073709551616
def cls (x : Int) : Int:=if x % 9223372036854775808 > 9218868437227405312 then 4 else if x % 9223372036854775808 = 9218868437227405312 then 3 else if x % 9223372036854775808 ≥ 4503599627370496 then 2 else if x % 9223372036854775808 > 0 then 1 else 0
theorem cls_nan (x : Int) : cls x = 4 ↔ isNan x:=by
 unfold cls isNan; repeat' split
 all_goals omega
def INF : Nat:=9218868437227405312
def fin (V : Nat) : Nat:=min (near V) INF
theorem cast_pow (n : Nat) : ((2 ^ n : Nat) : Int) = (2 : Int) ^ n:=by simp
theorem pow_lt_64 {n : Nat} (h : n < 64) : 2 ^ n < 18446744073709551616:=by
 have:=Nat.pow_lt_pow_right (a:=2) (by decide) h
 simpa using this
theorem shl_one {n : Nat} (h : n < 64) : shl .u64 1 (n : Int) = ((2 ^ n : Nat) : Int):=by
 unfold shl
 have h1 : min (n : Int).toNat IntKind.u64.bits = n:=by have : IntKind.u64.bits = 64:=rfl; omega
 have h2:=pow_lt_64 h
 rw [h1,Int.one_mul,← cast_pow]
 exact wrap_in (Int.natCast_nonneg _) (by omega)
theorem shl_nat {m n : Nat} (h : n < 64) (hm : m * 2 ^ n < 18446744073709551616) : shl .u64 (m : Int) (n : Int) = ((m * 2 ^ n : Nat) : Int):=by
 unfold shl
 have h1 : min (n : Int).toNat IntKind.u64.bits = n:=by have : IntKind.u64.bits = 64:=rfl; omega
 rw [h1,← cast_pow,← Int.natCast_mul]
 exact wrap_in (Int.natCast_nonneg _) (by omega)
theorem shr_nat (m : Nat) {n : Nat} (h : n ≤ 64) : shr .u64 (m : Int) (n : Int) = ((m / 2 ^ n : Nat) : Int):=by
 unfold shr
 have h1 : min (n : Int).toNat IntKind.u64.bits = n:=by have : IntKind.u64.bits = 64:=rfl; omega
 rw [h1,← cast_pow]
 simp
theorem mask_nat {m n : Nat} (hm : m < 18446744073709551616) (h : n < 64) : Go.bits .and .u64 (m : Int) (IntKind.u64.wrap (shl .u64 1 (n : Int) - 1)) = ((m % 2 ^ n : Nat) : Int):=by
 have h2:=pow_lt_64 h
 have h3:=Nat.two_pow_pos n
 rw [shl_one h,wrap_in (by omega) (by omega),cast_pow,mask (by omega) (by omega) n (by omega),← cast_pow]
 simp
theorem parted_f {x : Int} (h : U x) {S : Nat} (hS : (S : Int) = x % 9223372036854775808) : fadd_parted.f x = some (((ex S + 1 : Nat) : Int),((fr S * 8 : Nat) : Int)):=by
 have h1:=h.1; have h2:=h.2
 unfold fadd_parted.f
 rw [andNot_sign h1 h2,← hS,wrap64_in (n:=(S : Int) / 4503599627370496) (by omega) (by omega),and_frac h1 h2,or_hidden (by omega) (by omega)]
 have hex : ex S = S / 4503599627370496 - 1:=rfl
 have hfr : fr S = if S / 4503599627370496 = 0 then S else S % 4503599627370496 + 4503599627370496:=rfl
 by_cases c : S / 4503599627370496 = 0
 ·rw [if_neg (by omega),hfr,if_pos c,wrap_in (by omega) (by omega)]
  have e : mx ((S : Int) / 4503599627370496) 1 = ((ex S + 1 : Nat) : Int):=by unfold mx; split <;> omega
  rw [e]; congr 2; omega
 rw [if_pos (by omega),hfr,if_neg c,wrap_in (by omega) (by omega)]
 have e : mx ((S : Int) / 4503599627370496) 1 = ((ex S + 1 : Nat) : Int):=by unfold mx; split <;> omega
 rw [e]; congr 2; omega
theorem lower_near {e B d : Nat} (he : e < 100000) (hB : B < 2 ^ 63) (hd : d ≤ 63) : fadd_part_lower.f e B d = some (((e + d : Nat) : Int),((stick B d : Nat) : Int)):=by
 unfold fadd_part_lower.f
 rw [if_neg (by omega),if_pos (by omega),mask_nat (by omega) (by omega),shr_nat B (by omega),wrap64_in (by omega) (by omega)]
 have hq : B / 2 ^ d ≤ B:=Nat.div_le_self _ _
 have hq0 : (0 : Int) ≤ ((B / 2 ^ d : Nat) : Int):=Int.natCast_nonneg _
 have hq1 : ((B / 2 ^ d : Nat) : Int) ≤ (B : Int):=Int.ofNat_le.2 hq
 have hm0 : (0 : Int) ≤ ((B % 2 ^ d : Nat) : Int):=Int.natCast_nonneg _
 have e1 : (e : Int) + (d : Int) = ((e + d : Nat) : Int):=by omega
 rw [e1]
 unfold stick
 by_cases c : B % 2 ^ d = 0
 ·rw [if_neg (by rw [c]; decide),if_pos c]
 rw [if_pos (by omega),if_neg c,or_one hq0 (by omega)]
 by_cases c2 : B / 2 ^ d % 2 = 1
 ·rw [if_pos c2,if_pos (by omega)]
 rw [if_neg c2,if_neg (by omega)]; rfl
theorem lower_far {e B : Nat} {d : Int} (he : e < 100000) (hB : B < 2 ^ 63) (hd : 63 < d) : fadd_part_lower.f e B d = some (((e + 63 : Nat) : Int),((stick B 63 : Nat) : Int)):=by
 have h:=lower_near he hB (Nat.le_refl 63)
 rw [← h]
 have e63 : ((63 : Nat) : Int) = 63:=rfl
 unfold fadd_part_lower.f
 rw [if_pos hd,e63,if_neg (show ¬ ((63 : Int) > 63) from by decide),if_pos (show (0 : Int) ≤ 63 from by decide),← e63,mask_nat (by omega) (by omega),shr_nat B (by omega),e63]
 have e2 : (1 * 9223372036854775808 - 1 : Int) = 9223372036854775807:=by decide
 rw [e2,and_size (by omega) (by omega)]
 have e3 : (B : Int) % 9223372036854775808 = ((B % 2 ^ 63 : Nat) : Int):=by omega
 have e4 : (B : Int) / 9223372036854775808 = ((B / 2 ^ 63 : Nat) : Int):=by omega
 rw [e3,e4]
theorem stick_far {B d : Nat} (hB : B < 2 ^ 63) (hd : 63 ≤ d) : stick B d = stick B 63:=by
 have a : 2 ^ 63 ≤ 2 ^ d:=Nat.pow_le_pow_right (by decide) hd
 have q : ∀ c,63 ≤ c → stick B c = if B = 0 then 0 else 1:=by
  intro c hc
  have a : 2 ^ 63 ≤ 2 ^ c:=Nat.pow_le_pow_right (by decide) hc
  unfold stick
  rw [Nat.mod_eq_of_lt (by omega),Nat.div_eq_of_lt (by omega)]
  split
  ·rfl
  rfl
 rw [q d hd,q 63 (Nat.le_refl _)]
theorem lower_bits {e B d : Nat} (he : e < 100000) (hB : B < 2 ^ 63) (hd : d < 100000) : ∃ z : Int,fadd_part_lower.f e B d = some (z,((stick B d : Nat) : Int)):=by
 rcases Nat.lt_or_ge 63 d with h | h
 ·exact ⟨((e + 63 : Nat) : Int),by rw [lower_far he hB (by omega),stick_far (d:=d) hB (by omega)]⟩
 exact ⟨_,lower_near he hB h⟩
theorem pround_f {k B : Nat} (hk : k ≤ 2100) (hB : B < 2 ^ 57) : fadd_part_round.f ((k + 1 : Nat) : Int) B = some ((min (k * 2 ^ 52 + rnd B 3) INF : Nat) : Int):=by
 unfold fadd_part_round.f
 have e1 : IntKind.u64.wrap (IntKind.u64.wrap (wrap64 (((k + 1 : Nat) : Int) - 1)) * 4503599627370496) = (k : Int) * 4503599627370496:=by
  rw [wrap64_in (by omega) (by omega),wrap_in (n:=((k + 1 : Nat) : Int) - 1) (by omega) (by omega),wrap_in (by omega) (by omega)]; omega
 have e2 : IntKind.u64.wrap ((k : Int) * 4503599627370496 + (B : Int) / 8) = (k : Int) * 4503599627370496 + (B : Int) / 8:=wrap_in (by omega) (by omega)
 have e3 : IntKind.u64.wrap ((k : Int) * 4503599627370496 + (B : Int) / 8 + 1) = (k : Int) * 4503599627370496 + (B : Int) / 8 + 1:=wrap_in (by omega) (by omega)
 rw [e1,e2,e3,and_7 (by omega) (by omega),and_1 (by omega) (by omega)]
 have hmn : ∀ a b : Nat,mn (a : Int) (b : Int) = ((min a b : Nat) : Int):=by intro a b; unfold mn; split <;> omega
 have hI : (9218868437227405312 : Int) = ((INF : Nat) : Int):=rfl
 have x0 : (k : Int) * 4503599627370496 + (B : Int) / 8 = ((k * 2 ^ 52 + B / 8 : Nat) : Int):=by omega
 have x1 : (k : Int) * 4503599627370496 + (B : Int) / 8 + 1 = ((k * 2 ^ 52 + (B / 8 + 1) : Nat) : Int):=by omega
 have e8 : (2 : Nat) ^ 3 = 8:=by decide
 have r : rnd B 3 = if 4 < B % 8 ∨ (B % 8 = 4 ∧ B / 8 % 2 = 1) then B / 8 + 1 else B / 8:=by
  unfold rnd Go.Proofs.SxFl.up; rw [e8]; split <;> split <;> omega
 rw [r,hI]
 by_cases c1 : (B : Int) % 8 > 4
 ·rw [if_pos c1,if_pos (by omega),x1,hmn]
 rw [if_neg c1]
 by_cases c2 : (B : Int) % 8 = 4
 ·rw [if_pos c2]
  by_cases c3 : ((k : Int) * 4503599627370496 + (B : Int) / 8) % 2 = 1
  ·rw [if_pos c3,if_pos (by omega),x1,hmn]
  rw [if_neg c3,if_neg (by omega),x0,hmn]
 rw [if_neg c2,if_neg (by omega),x0,hmn]
theorem raise_l0 : ∀ (e k B : Nat),e < k → B < 2 ^ 57 → e < 100000 → ∃ j,j ≤ e ∧ fadd_part_raise.l0 k ((e + 1 : Nat) : Int) B = some (((e - j + 1 : Nat) : Int),((B * 2 ^ j : Nat) : Int)) ∧
  (2 ^ 55 ≤ B * 2 ^ j ∨ e = j) ∧ (j = 0 ∨ B * 2 ^ j < 2 ^ 56):=by
 intro e
 induction e with
 | zero =>
  intro k B hk hB _
  obtain ⟨k,rfl⟩ : ∃ z,k = z + 1:=⟨k - 1,by omega⟩
  refine ⟨0,Nat.le_refl _,?_,Or.inr rfl,Or.inl rfl⟩
  simp only [fadd_part_raise.l0]
  rw [Nat.pow_zero,Nat.mul_one]
  by_cases c : (B : Int) < 36028797018963968
  ·rw [if_pos c,if_neg (by omega)]
  rw [if_neg c]
 | succ e ih =>
  intro k B hk hB he
  obtain ⟨k,rfl⟩ : ∃ z,k = z + 1:=⟨k - 1,by omega⟩
  by_cases c : B < 2 ^ 55
  ·obtain ⟨j,hj,h1,h2,h3⟩:=ih k (B * 2) (by omega) (by omega) (by omega)
   have hp : B * 2 ^ (j + 1) = B * 2 * 2 ^ j:=by rw [Nat.pow_succ,Nat.mul_assoc,Nat.mul_comm 2]
   refine ⟨j + 1,by omega,?_,?_,?_⟩
   ·simp only [fadd_part_raise.l0]
    rw [if_pos (by omega),if_pos (by omega),wrap64_in (by omega) (by omega),wrap_in (by omega) (by omega)]
    have e1 : ((e + 1 + 1 : Nat) : Int) - 1 = ((e + 1 : Nat) : Int):=by omega
    have e2 : (B : Int) * 2 = ((B * 2 : Nat) : Int):=by omega
    rw [e1,e2,h1,hp,show e + 1 - (j + 1) = e - j from by omega]
   ·rw [hp]; rcases h2 with h2 | h2
    ·exact Or.inl h2
    exact Or.inr (by omega)
   right; rw [hp]
   rcases h3 with h3 | h3
   ·subst h3; rw [Nat.pow_zero]; omega
   exact h3
  refine ⟨0,by omega,?_,Or.inl (by rw [Nat.pow_zero]; omega),Or.inl rfl⟩
  simp only [fadd_part_raise.l0]
  rw [if_neg (by omega),Nat.pow_zero,Nat.mul_one]
  rfl
theorem stick_le (B d : Nat) : stick B d ≤ B / 2 ^ d + 1:=by unfold stick; split <;> (repeat' split) <;> omega
theorem stick_zero (B : Nat) : stick B 0 = B:=by unfold stick; simp [Nat.mod_one]
theorem stick_bound {B d M : Nat} (h : B ≤ M) (hM : 1 ≤ M) : stick B d ≤ M:=by
 rcases Nat.eq_zero_or_pos d with h0 | h0
 ·subst h0; rw [stick_zero]; exact h
 have a:=stick_le B d
 have b : B / 2 ^ d ≤ B / 2 ^ 1:=Nat.div_le_div_left (Nat.pow_le_pow_right (by decide) h0) (by decide)
 rcases Nat.lt_or_ge M 2 with c | c
 ·have hM1 : M = 1:=by omega
  subst hM1
  rcases Nat.eq_zero_or_pos B with z | z
  ·subst z; unfold stick; simp
  have : B = 1:=by omega
  subst this
  unfold stick
  have hp : 2 ^ 1 ≤ 2 ^ d:=Nat.pow_le_pow_right (by decide) h0
  rw [Nat.mod_eq_of_lt (by omega),Nat.div_eq_of_lt (by omega)]; decide
 omega
theorem stk_pos {N d B : Nat} (h : Stk N d B) : B = 0 ↔ N = 0:=by
 rcases h with h | ⟨h1,h2,h3⟩
 ·constructor
  ·intro z; subst z; rw [← h,Nat.zero_mul]
  intro z; rw [z] at h
  rcases Nat.mul_eq_zero.1 h with c | c
  ·exact c
  have:=Nat.two_pow_pos d; omega
 constructor
 ·intro z; omega
 intro z; omega
theorem fin_of {V k B : Nat} (h : Stk (V * 2 ^ 3) k B) (h2 : B < 2 ^ 56) (h3 : 0 < k → 2 ^ 55 ≤ B) : near V = k * 2 ^ 52 + rnd B 3:=by
 have t1:=(@stk_gt _ _ _ h (2 ^ 56) (by decide)).2 h2
 have e1 : 2 ^ 56 * 2 ^ k = 2 ^ (53 + k) * 2 ^ 3:=by rw [← Nat.pow_add,← Nat.pow_add]; congr 1; omega
 have hkk : kk V = k:=by
  rcases Nat.eq_zero_or_pos k with h0 | h0
  ·subst h0; apply kk_zero; omega
  have t2:=@stk_gt _ _ _ h (2 ^ 55) (by decide)
  have h4:=h3 h0
  have e2 : 2 ^ 55 * 2 ^ k = 2 ^ (52 + k) * 2 ^ 3:=by rw [← Nat.pow_add,← Nat.pow_add]; congr 1; omega
  apply kk_eq <;> omega
 unfold near
 rw [hkk]
 have r:=rnd_stk h 1
 rw [show k + (1 + 2) = 3 + k from by omega,rnd_scale V 3 k] at r
 rw [r]
theorem low_stk {Sa Sb g : Nat} (h : ex Sb ≤ ex Sa) : Stk (val Sb * 2 ^ g) (ex Sa) (stick (fr Sb * 2 ^ g) (ex Sa - ex Sb)):=by
 have a:=stk_exact (fr Sb * 2 ^ g) (ex Sb)
 have b:=stick_stk (fr Sb * 2 ^ g) (ex Sa - ex Sb)
 have c:=stk_trans a b
 rw [show ex Sb + (ex Sa - ex Sb) = ex Sa from by omega] at c
 have e : fr Sb * 2 ^ g * 2 ^ ex Sb = val Sb * 2 ^ g:=by unfold val; rw [Nat.mul_assoc,Nat.mul_assoc,Nat.mul_comm (2 ^ g)]
 rw [e] at c; exact c
theorem hi_val (S g : Nat) : fr S * 2 ^ g * 2 ^ ex S = val S * 2 ^ g:=by unfold val; rw [Nat.mul_assoc,Nat.mul_assoc,Nat.mul_comm (2 ^ g)]
theorem ev_pow (x g : Nat) (hg : 1 ≤ g) : x * 2 ^ g % 2 = 0:=by
 obtain ⟨g,rfl⟩ : ∃ z,g = z + 1:=⟨g - 1,by omega⟩
 rw [Nat.pow_succ,← Nat.mul_assoc]; omega
theorem sum_stk {Sa Sb g : Nat} (hg : 1 ≤ g) (h : ex Sb ≤ ex Sa) : Stk ((val Sa + val Sb) * 2 ^ g) (ex Sa) (fr Sa * 2 ^ g + stick (fr Sb * 2 ^ g) (ex Sa - ex Sb)):=by
 have a:=stk_add (low_stk (g:=g) h) (ev_pow (fr Sa) g hg)
 rw [hi_val,← Nat.add_mul] at a; exact a
theorem low_le {Sa Sb g : Nat} (hg : 1 ≤ g) (h : ex Sb ≤ ex Sa) (hv : val Sb ≤ val Sa) : stick (fr Sb * 2 ^ g) (ex Sa - ex Sb) ≤ fr Sa * 2 ^ g:=by
 have a:=@stk_lt _ _ _ (low_stk (g:=g) h) (fr Sa * 2 ^ g) (ev_pow (fr Sa) g hg)
 rw [hi_val] at a
 have b : val Sb * 2 ^ g ≤ val Sa * 2 ^ g:=Nat.mul_le_mul_right _ hv
 omega
theorem dif_stk {Sa Sb g : Nat} (hg : 1 ≤ g) (h : ex Sb ≤ ex Sa) (hv : val Sb ≤ val Sa) : Stk ((val Sa - val Sb) * 2 ^ g) (ex Sa) (fr Sa * 2 ^ g - stick (fr Sb * 2 ^ g) (ex Sa - ex Sb)):=by
 have a:=stk_sub (low_stk (g:=g) h) (ev_pow (fr Sa) g hg) (low_le hg h hv)
 rw [hi_val,← Nat.sub_mul] at a; exact a
theorem ex_mono {Sa Sb : Nat} (h : Sb ≤ Sa) : ex Sb ≤ ex Sa:=by unfold ex; have:=Nat.div_le_div_right (c:=2 ^ 52) h; omega
theorem lost_or {Sa Sb g : Nat} (h : ex Sb ≤ ex Sa) : (stick (fr Sb * 2 ^ g) (ex Sa - ex Sb) * 2 ^ (ex Sa - ex Sb) = fr Sb * 2 ^ g) ∨ (g < ex Sa - ex Sb ∧ stick (fr Sb * 2 ^ g) (ex Sa - ex Sb) ≤ 2 ^ 52 + 1):=by
 rcases Nat.lt_or_ge g (ex Sa - ex Sb) with c | c
 ·right
  refine ⟨c,?_⟩
  have a:=stick_le (fr Sb * 2 ^ g) (ex Sa - ex Sb)
  have b : fr Sb * 2 ^ g / 2 ^ (ex Sa - ex Sb) ≤ 2 ^ 52:=by
   have e : 2 ^ (ex Sa - ex Sb) = 2 ^ g * 2 ^ (ex Sa - ex Sb - g):=by rw [← Nat.pow_add]; congr 1; omega
   rw [e,← Nat.div_div_eq_div_mul,Nat.mul_div_cancel _ (Nat.two_pow_pos g)]
   have hf:=fr_high Sb
   have : fr Sb / 2 ^ (ex Sa - ex Sb - g) ≤ fr Sb / 2 ^ 1:=Nat.div_le_div_left (Nat.pow_le_pow_right (by decide) (by omega)) (by decide)
   omega
  omega
 left
 have e : fr Sb * 2 ^ g = fr Sb * 2 ^ (g - (ex Sa - ex Sb)) * 2 ^ (ex Sa - ex Sb):=by rw [Nat.mul_assoc,← Nat.pow_add]; congr 2; omega
 unfold stick
 rw [e,Nat.mul_mod_left,if_pos rfl,Nat.mul_div_cancel _ (Nat.two_pow_pos _)]
def sg (x : Int) : Int:=x / 9223372036854775808 * 9223372036854775808
def sz (x : Int) : Nat:=(x % 9223372036854775808).toNat
def vl (x : Int) : Nat:=val (sz x)
theorem sz_cast {x : Int} (h : U x) : ((sz x : Nat) : Int) = x % 9223372036854775808:=by
 have h1:=h.1; unfold sz; omega
theorem sg_or {x : Int} (h : U x) : sg x = 0 ∨ sg x = 9223372036854775808:=by
 have h1:=h.1; have h2:=h.2; unfold sg; omega
def sumV (x y : Int) : Int:=if sg x = sg y then sg x + ((fin (vl x + vl y) : Nat) : Int) else if vl x = vl y then 0 else sg x + ((fin (vl x - vl y) : Nat) : Int)
theorem ex_lt {x : Int} (h : sz x < 9218868437227405312) : ex (sz x) ≤ 2045:=by
 unfold ex
 have : (2 : Nat) ^ 52 = 4503599627370496:=by decide
 rw [this]; omega
theorem fin_lt (V : Nat) : ((fin V : Nat) : Int) < 9223372036854775808:=by unfold fin INF; omega
theorem pj0_f {k : Nat} {x y : Int} (hx : U x) (hy : U y) (hk : 2100 ≤ k) (fx : sz x < 9218868437227405312) (h : sz y ≤ sz x) : fadd_finite.j0 k x y = some (sumV x y):=by
 obtain ⟨k,rfl⟩ : ∃ z,k = z + 1:=⟨k - 1,by omega⟩
 have cx:=sz_cast hx; have cy:=sz_cast hy
 have hex:=ex_mono h
 have hxl:=ex_lt fx
 have hv : vl y ≤ vl x:=val_le.2 h
 have f1:=fr_high (sz x); have f2:=fr_high (sz y)
 simp only [fadd_finite.j0]
 rw [parted_f hx cx,parted_f hy cy]
 simp only [Option.bind_some]
 have ed : wrap64 (((ex (sz x) + 1 : Nat) : Int) - ((ex (sz y) + 1 : Nat) : Int)) = ((ex (sz x) - ex (sz y) : Nat) : Int):=by
  rw [wrap64_in (by omega) (by omega)]; omega
 rw [ed]
 obtain ⟨z,hz⟩:=lower_bits (e:=ex (sz y) + 1) (B:=fr (sz y) * 8) (d:=ex (sz x) - ex (sz y)) (by omega) (by omega) (by omega)
 rw [hz]
 simp only [Option.bind_some]
 rw [and_sign hx.1 hx.2,and_sign hy.1 hy.2]
 have e8 : (8 : Nat) = 2 ^ 3:=by decide
 have hS:=sum_stk (Sa:=sz x) (Sb:=sz y) (g:=3) (by decide) hex
 have hD:=dif_stk (Sa:=sz x) (Sb:=sz y) (g:=3) (by decide) hex hv
 have hL:=low_le (Sa:=sz x) (Sb:=sz y) (g:=3) (by decide) hex hv
 have hlost:=lost_or (Sa:=sz x) (Sb:=sz y) (g:=3) hex
 have hqb:=stick_bound (B:=fr (sz y) * 2 ^ 3) (d:=ex (sz x) - ex (sz y)) (M:=2 ^ 56) (by omega) (by decide)
 rw [e8]
 have hfl : 0 < ex (sz x) → 2 ^ 52 ≤ fr (sz x):=fun h0=>fr_low (by unfold ex at h0; omega)
 have sgo:=sg_or hx
 generalize hq : stick (fr (sz y) * 2 ^ 3) (ex (sz x) - ex (sz y)) = q at *
 change (if sg x = sg y then _ else _) = _
 unfold sumV
 by_cases cs : sg x = sg y
 ·rw [if_pos cs,if_pos cs]
  have eB : IntKind.u64.wrap (((fr (sz x) * 2 ^ 3 : Nat) : Int) + (q : Int)) = ((fr (sz x) * 2 ^ 3 + q : Nat) : Int):=by rw [wrap_in (by omega) (by omega)]; omega
  rw [eB]
  generalize hB : fr (sz x) * 2 ^ 3 + q = B at *
  by_cases cb : B ≥ 2 ^ 56
  ·rw [if_pos (by omega)]
   have hl:=lower_near (e:=ex (sz x) + 1) (B:=B) (d:=1) (by omega) (by omega) (by decide)
   have e1 : ((1 : Nat) : Int) = 1:=rfl
   rw [e1] at hl
   rw [hl]
   simp only [Option.bind_some]
   have hst:=stk_trans hS (stick_stk B 1)
   have hb1 : 2 ^ 55 ≤ stick B 1 ∧ stick B 1 < 2 ^ 56:=by
    unfold stick
    split
    ·omega
    split <;> omega
   have hn:=fin_of hst hb1.2 (fun _=>hb1.1)
   rw [pround_f (k:=ex (sz x) + 1) (by omega) (by omega)]
   simp only [Option.bind_some]
   have hfin : min ((ex (sz x) + 1) * 2 ^ 52 + rnd (stick B 1) 3) INF = fin (vl x + vl y):=by unfold fin vl; rw [hn]
   rw [hfin]
   change some (Go.bits .or .u64 (sg x) _) = _
   rw [sign_or sgo (Int.natCast_nonneg _) (fin_lt _)]
  rw [if_neg (by omega)]
  have hn:=fin_of hS (by omega) (fun h0=>by have:=hfl h0; omega)
  rw [pround_f (k:=ex (sz x)) (by omega) (by omega)]
  simp only [Option.bind_some]
  have hfin : min (ex (sz x) * 2 ^ 52 + rnd B 3) INF = fin (vl x + vl y):=by unfold fin vl; rw [hn]
  rw [hfin]
  change some (Go.bits .or .u64 (sg x) _) = _
  rw [sign_or sgo (Int.natCast_nonneg _) (fin_lt _)]
 rw [if_neg cs,if_neg cs]
 have eB : IntKind.u64.wrap (((fr (sz x) * 2 ^ 3 : Nat) : Int) - (q : Int)) = ((fr (sz x) * 2 ^ 3 - q : Nat) : Int):=by rw [wrap_in (by omega) (by omega)]; omega
 rw [eB]
 have hz0:=stk_pos hD
 have hBx : fr (sz x) * 2 ^ 3 - q ≤ fr (sz x) * 2 ^ 3:=Nat.sub_le _ _
 by_cases c0 : fr (sz x) * 2 ^ 3 - q = 0
 ·have hveq : vl x = vl y:=by
   have h0:=hz0.1 c0
   have : (val (sz x) - val (sz y)) = 0:=by
    rcases Nat.mul_eq_zero.1 h0 with c | c
    ·exact c
    have:=Nat.two_pow_pos 3; omega
   unfold vl at *; omega
  rw [if_pos (by omega),if_pos hveq]
 have hvne : ¬ vl x = vl y:=by
  intro e
  apply c0
  apply hz0.2
  have : val (sz x) - val (sz y) = 0:=by unfold vl at e; omega
  rw [this,Nat.zero_mul]
 rw [if_neg (by omega),if_neg hvne]
 generalize hB : fr (sz x) * 2 ^ 3 - q = B at *
 have hB56 : B < 2 ^ 56:=by omega
 obtain ⟨j,hj,h1,h2,h3⟩:=raise_l0 (ex (sz x)) k B (by omega) (by omega) (by omega)
 unfold fadd_part_raise.f
 rw [h1]
 simp only [Option.bind_some]
 have hlt : B * 2 ^ j < 2 ^ 56:=by
  rcases h3 with h3 | h3
  ·subst h3; rw [Nat.pow_zero]; omega
  exact h3
 rw [pround_f (k:=ex (sz x) - j) (by omega) (by omega)]
 simp only [Option.bind_some]
 have hn : near (val (sz x) - val (sz y)) = (ex (sz x) - j) * 2 ^ 52 + rnd (B * 2 ^ j) 3:=by
  have hexact : B * 2 ^ ex (sz x) = (val (sz x) - val (sz y)) * 2 ^ 3 → near (val (sz x) - val (sz y)) = (ex (sz x) - j) * 2 ^ 52 + rnd (B * 2 ^ j) 3:=by
   intro he
   apply fin_of
   ·left
    rw [← he,Nat.mul_assoc,← Nat.pow_add]; congr 2; omega
   ·exact hlt
   intro h0
   rcases h2 with h2 | h2
   ·exact h2
   omega
  rcases hlost with hl | ⟨hl1,hl2⟩
  ·apply hexact
   have e1 : q * 2 ^ ex (sz x) = val (sz y) * 2 ^ 3:=by
    have : q * 2 ^ (ex (sz x) - ex (sz y)) * 2 ^ ex (sz y) = fr (sz y) * 2 ^ 3 * 2 ^ ex (sz y):=by rw [hl]
    rw [Nat.mul_assoc,← Nat.pow_add,show ex (sz x) - ex (sz y) + ex (sz y) = ex (sz x) from by omega] at this
    rw [this,hi_val]
   rw [← hB,Nat.sub_mul,e1,hi_val,Nat.sub_mul]
  have hf:=hfl (by omega)
  have hB54 : 2 ^ 54 < B:=by omega
  have hj1 : j ≤ 1:=by
   rcases Nat.lt_or_ge 1 j with c | c
   ·have a : 2 ^ 2 ≤ 2 ^ j:=Nat.pow_le_pow_right (by decide) c
    have b : B * 2 ^ 2 ≤ B * 2 ^ j:=Nat.mul_le_mul_left _ a
    omega
   exact c
  rcases Nat.eq_zero_or_pos j with j0 | j0
  ·subst j0
   rw [Nat.pow_zero,Nat.mul_one] at hlt h2 ⊢
   exact fin_of hD hlt (fun h0=>by rcases h2 with h2 | h2 <;> omega)
  have je : j = 1:=by omega
  subst je
  -- one bit was cancelled: what was lost is less than a quarter
  generalize hV : val (sz x) - val (sz y) = V at *
  generalize hE : ex (sz x) = E at *
  have t1:=(@stk_gt _ _ _ hD (2 ^ 55) (by decide)).2 (by omega)
  have t2:=@stk_gt _ _ _ hD (2 ^ 54) (by decide)
  have e1 : 2 ^ 55 * 2 ^ E = 2 ^ (53 + (E - 1)) * 2 ^ 3:=by rw [← Nat.pow_add,← Nat.pow_add]; congr 1; omega
  have e2 : 2 ^ 54 * 2 ^ E = 2 ^ (52 + (E - 1)) * 2 ^ 3:=by rw [← Nat.pow_add,← Nat.pow_add]; congr 1; omega
  have hkk : kk V = E - 1:=by apply kk_eq <;> omega
  unfold near
  rw [hkk]
  have r:=rnd_stk hD 0
  have s1 : rnd (V * 2 ^ 3) (3 + (E - 1)) = rnd V (E - 1):=by
   have:=rnd_scale V 3 (E - 1); exact this
  have s2 : rnd (B * 2 ^ 1) (1 + 2) = rnd B 2:=rnd_scale B 1 2
  rw [show E + (0 + 2) = 3 + (E - 1) from by omega,s1] at r
  rw [r]
  rw [show (1 + 2 : Nat) = 3 from rfl] at s2
  rw [s2]
 have hfin : min ((ex (sz x) - j) * 2 ^ 52 + rnd (B * 2 ^ j) 3) INF = fin (vl x - vl y):=by unfold fin vl; rw [hn]
 rw [hfin]
 change some (Go.bits .or .u64 (sg x) _) = _
 rw [sign_or sgo (Int.natCast_nonneg _) (fin_lt _)]
def finV (a b : Int) : Int:=if sz a < sz b then sumV b a else sumV a b
theorem finite_f {k : Nat} {a b : Int} (ha : U a) (hb : U b) (hk : 2100 ≤ k) (fa : sz a < 9218868437227405312) (fb : sz b < 9218868437227405312) : fadd_finite.f k a b = some (finV a b):=by
 have ca:=sz_cast ha; have cb:=sz_cast hb
 unfold fadd_finite.f finV
 rw [andNot_sign ha.1 ha.2,andNot_sign hb.1 hb.2,← ca,← cb]
 by_cases c : sz a < sz b
 ·rw [if_pos (by omega),if_pos c,pj0_f hb ha hk fb (by omega)]
 rw [if_neg (by omega),if_neg c,pj0_f ha hb hk fa (by omega)]
def qt (x : Int) : Int:=Go.bits .or .u64 x 2251799813685248
def addV (a b : Int) : Int :=
 if cls a = 4 then qt a else if cls b = 4 then qt b else if cls a = 3 then (if cls b = 3 then (if a = b then a else 9221120237041090560) else a) else if cls b = 3 then b else finV a b
theorem cls_range (x : Int) : 0 ≤ cls x ∧ cls x ≤ 4:=by unfold cls; (repeat' split); all_goals omega
theorem cls_fin {x : Int} (h : U x) (h3 : cls x < 3) : sz x < 9218868437227405312:=by
 have:=sz_cast h
 unfold cls at h3
 by_cases a : x % 9223372036854775808 > 9218868437227405312
 ·rw [if_pos a] at h3; omega
 rw [if_neg a] at h3
 by_cases b : x % 9223372036854775808 = 9218868437227405312
 ·rw [if_pos b] at h3; omega
 omega
theorem rclass_f {k : Nat} {x : Int} (h : U x) (hk : 1 ≤ k) : hygref6_Class.f k x = some (cls x):=by
 obtain ⟨k,rfl⟩ : ∃ m,k = m + 1:=⟨k - 1,by omega⟩
 have h1:=h.1; have h2:=h.2
 unfold hygref6_Class.f hygref6_Class.j0 cls
 rw [and_2047 (x:=x / 4503599627370496) (by omega) (by omega),and_frac h1 h2]
 have e1 : x % 9223372036854775808 = x / 4503599627370496 % 2048 * 4503599627370496 + x % 4503599627370496:=by omega
 by_cases c1 : x / 4503599627370496 % 2048 = 2047
 ·rw [if_pos c1]
  by_cases c2 : x % 4503599627370496 > 0
  ·simp only [c2,decide_true,if_true]; rw [if_pos (by omega)]
  simp only [c2,decide_false,Bool.false_eq_true,if_false]; rw [if_pos c1,if_neg (by omega),if_pos (by omega)]
 rw [if_neg c1]
 simp only [Bool.false_eq_true,if_false]
 rw [if_neg c1]
 by_cases c2 : x / 4503599627370496 % 2048 > 0
 ·rw [if_pos c2,if_neg (by omega),if_neg (by omega),if_pos (by omega)]
 rw [if_neg c2]
 by_cases c3 : x % 4503599627370496 > 0
 ·rw [if_pos c3,if_neg (by omega),if_neg (by omega),if_neg (by omega),if_pos (by omega)]
 rw [if_neg c3,if_neg (by omega),if_neg (by omega),if_neg (by omega),if_neg (by omega)]
theorem rneg_f {x : Int} (h : U x) : hygref6_neg.f x = some (decide (9223372036854775808 ≤ x)):=by
 have h1:=h.1; have h2:=h.2
 unfold hygref6_neg.f
 congr 1
 rw [Bool.eq_iff_iff,beq_iff_eq,decide_eq_true_iff]
 omega
theorem rsize_f {x : Int} (h : U x) : hygref6_size.f x = some (x % 9223372036854775808):=by
 unfold hygref6_size.f; rw [and_size h.1 h.2]
theorem j3_f {k : Nat} {s : Int} (hs : s = 0 ∨ s = 9223372036854775808) {kf q : Nat} (hk : 1 ≤ k) (hq : q < 2 ^ 53) (hl : 0 < kf → 2 ^ 52 ≤ q) (hkf : kf < 10000) :
  hygref6_round.j3 k s ((kf : Int) - 1074) q = some (s + (min (kf * 2 ^ 52 + q) INF : Nat)):=by
 obtain ⟨k,rfl⟩ : ∃ m,k = m + 1:=⟨k - 1,by omega⟩
 simp only [hygref6_round.j3]
 rw [wrap64_in (n:=(kf : Int) - 1074 + 1075) (by omega) (by omega)]
 by_cases h1 : q < 2 ^ 52
 ·have hkf0 : kf = 0:=by omega
  subst hkf0
  rw [if_pos (by omega),sign_or hs (by omega) (by omega)]
  have : min (0 * 2 ^ 52 + q) INF = q:=by unfold INF; omega
  rw [this]
 rw [if_neg (by omega)]
 by_cases h2 : kf ≥ 2046
 ·rw [if_pos (by omega),sign_or hs (by omega) (by omega)]
  have : min (kf * 2 ^ 52 + q) INF = 9218868437227405312:=by unfold INF; omega
  rw [this]; rfl
 rw [if_neg (by omega)]
 rw [wrap_in (n:=(kf : Int) - 1074 + 1075) (by omega) (by omega),wrap_in (by omega) (by omega),and_frac (by omega) (by omega),sign_or hs (by omega) (by omega)]
 rw [or_join 52 (by rcases hs with rfl | rfl <;> omega) (by rcases hs with rfl | rfl <;> omega) (by rcases hs with rfl | rfl <;> omega) (by omega) (by omega) (by omega)]
 have : min (kf * 2 ^ 52 + q) INF = kf * 2 ^ 52 + q:=by unfold INF; omega
 rw [this]
 congr 1
 omega
theorem j2_f {k : Nat} {s : Int} (hs : s = 0 ∨ s = 9223372036854775808) {kf q : Nat} (hk : 2 ≤ k) (hq : q ≤ 2 ^ 53) (hl : 0 < kf → 2 ^ 52 ≤ q) (hkf : kf < 9000) :
  hygref6_round.j2 k s ((kf : Int) - 1074) q = some (s + (min (kf * 2 ^ 52 + q) INF : Nat)):=by
 obtain ⟨k,rfl⟩ : ∃ m,k = m + 1:=⟨k - 1,by omega⟩
 simp only [hygref6_round.j2]
 by_cases h : q = 2 ^ 53
 ·rw [if_pos (by omega),wrap64_in (by omega) (by omega)]
  have e : (q : Int) / 2 = ((2 ^ 52 : Nat) : Int):=by omega
  have e2 : (kf : Int) - 1074 + 1 = ((kf + 1 : Nat) : Int) - 1074:=by omega
  rw [e,e2,j3_f hs (by omega) (by decide) (fun _=>Nat.le_refl _) (by omega)]
  have : min ((kf + 1) * 2 ^ 52 + 2 ^ 52) INF = min (kf * 2 ^ 52 + q) INF:=by omega
  rw [this]
 rw [if_neg (by omega),j3_f hs (by omega) (by omega) hl (by omega)]
theorem l0_top {m : Nat} (hm0 : 0 < m) (hm : m < 2 ^ 64) (e s : Int) : ∀ d k i : Nat,i + d = Nat.log2 m → hygref6_round.l0 (k + d) m e s (i : Int) = hygref6_round.l0 k m e s (Nat.log2 m : Int):=by
 have ht : Nat.log2 m < 64:=(Nat.log2_lt (by omega)).2 hm
 intro d
 induction d with
 | zero=>intro k i h; rw [show i = Nat.log2 m from by omega]; rfl
 | succ d ih =>
  intro k i h
  rw [show k + (d + 1) = (k + d) + 1 from by omega]
  simp only [hygref6_round.l0]
  rw [wrap_in (n:=(i : Int)) (by omega) (by omega),if_pos (by omega),shr_nat m (by omega)]
  have h1 : 2 ^ (i + 1) ≤ m:=Nat.le_trans (Nat.pow_le_pow_right (by decide) (by omega)) (Nat.log2_self_le (by omega))
  have h2 : 2 ≤ m / 2 ^ i:=by
   rw [Nat.le_div_iff_mul_le (Nat.two_pow_pos i)]
   rw [Nat.pow_succ] at h1; omega
  rw [if_pos (by omega),wrap64_in (by omega) (by omega)]
  have:=ih k (i + 1) (by omega)
  rw [← this]; rfl
theorem mx_of {a b : Int} : mx a b = max a b:=by unfold mx; omega
theorem round_l0 {k : Nat} (hk : 80 ≤ k) {s : Int} (hs : s = 0 ∨ s = 9223372036854775808) {m k0 V : Nat} (hm0 : 0 < m) (hm : m < 2 ^ 64) (hk0 : k0 < 3000)
  (hV : Stk (V * 2 ^ 10) k0 m) (hex : m * 2 ^ k0 = V * 2 ^ 10 ∨ 2 ^ 54 ≤ m) :
  hygref6_round.l0 k m ((k0 : Int) - 1084) s 0 = some (s + (fin V : Nat)):=by
 have ht : Nat.log2 m < 64:=(Nat.log2_lt (by omega)).2 hm
 have htl:=Nat.log2_self_le (n:=m) (by omega)
 have hth:=@Nat.lt_log2_self m
 generalize hT : Nat.log2 m = T at *
 have h0:=l0_top hm0 hm ((k0 : Int) - 1084) s T (k - T) 0 (by rw [hT]; omega)
 rw [hT,show k - T + T = k from by omega] at h0
 have h00 : ((0 : Nat) : Int) = 0:=rfl
 rw [h00] at h0
 rw [h0]
 clear h0 h00
 -- what V is worth
 have hT54 : 2 ^ 54 ≤ m → 54 ≤ T:=by
  intro h
  rcases Nat.lt_or_ge T 54 with h1 | h1
  ·have : 2 ^ (T + 1) ≤ 2 ^ 54:=Nat.pow_le_pow_right (by decide) (by omega)
   omega
  exact h1
 have hA : 2 ^ (T + k0) ≤ V * 2 ^ 10 ∧ V * 2 ^ 10 < 2 ^ (T + 1 + k0):=by
  have p1 : 2 ^ (T + k0) = 2 ^ T * 2 ^ k0:=Nat.pow_add _ _ _
  have p2 : 2 ^ (T + 1 + k0) = 2 ^ (T + 1) * 2 ^ k0:=Nat.pow_add _ _ _
  rcases hex with he | he
  ·rw [p1,p2,← he]
   exact ⟨Nat.mul_le_mul_right _ htl,(Nat.mul_lt_mul_right (Nat.two_pow_pos k0)).2 hth⟩
  have hT1:=hT54 he
  have ev : ∀ n,1 ≤ n → 2 ^ n % 2 = 0:=by
   intro n hn
   obtain ⟨n,rfl⟩ : ∃ z,n = z + 1:=⟨n - 1,by omega⟩
   rw [Nat.pow_succ]; omega
  rw [p1,p2]
  have a:=@stk_gt _ _ _ hV (2 ^ T) (ev T (by omega))
  have b:=@stk_gt _ _ _ hV (2 ^ (T + 1)) (ev (T + 1) (by omega))
  exact ⟨by omega,by omega⟩
 obtain ⟨kf,hkf⟩ : ∃ kf : Nat,kf = k0 + T - 62:=⟨_,rfl⟩
 have hkk : kk V = kf:=by
  rcases Nat.lt_or_ge (k0 + T) 62 with h | h
  ·have hl : 2 ^ (T + 1 + k0) ≤ 2 ^ 62:=Nat.pow_le_pow_right (by decide) (by omega)
   rw [hkf,show k0 + T - 62 = 0 from by omega]
   apply kk_zero; omega
  apply kk_eq
  ·have : 2 ^ (T + k0) = 2 ^ (52 + kf) * 2 ^ 10:=by rw [← Nat.pow_add]; congr 1; omega
   omega
  have : 2 ^ (T + 1 + k0) = 2 ^ (53 + kf) * 2 ^ 10:=by rw [← Nat.pow_add]; congr 1; omega
  omega
 have hqh : rnd V kf ≤ 2 ^ 53:=by
  have a:=q_high V; rw [hkk] at a
  have b:=up_le V kf
  unfold rnd; omega
 have hql : 0 < kf → 2 ^ 52 ≤ rnd V kf:=by
  intro h
  have a:=q_low (V:=V) (by omega); rw [hkk] at a
  unfold rnd; omega
 have hfin : fin V = min (kf * 2 ^ 52 + rnd V kf) INF:=by unfold fin near; rw [hkk]
 -- the body at the top
 obtain ⟨k,rfl⟩ : ∃ z,k = T + 3 + z:=⟨k - T - 3,by omega⟩
 rw [show T + 3 + k - T = (k + 2) + 1 from by omega]
 simp only [hygref6_round.l0]
 have htop : m / 2 ^ T < 2:=by
  rw [Nat.div_lt_iff_lt_mul (Nat.two_pow_pos T)]; rw [Nat.pow_succ] at hth; omega
 rw [wrap_in (n:=(T : Int)) (by omega) (by omega),if_pos (by omega),shr_nat m (by omega),if_neg (by omega)]
 rw [wrap64_in (n:=(k0 : Int) - 1084 + (T : Int)) (by omega) (by omega),wrap64_in (n:=(k0 : Int) - 1084 + (T : Int) - 52) (by omega) (by omega)]
 have hlo : mx ((k0 : Int) - 1084 + (T : Int) - 52) (-1074) = (kf : Int) - 1074:=by rw [mx_of]; omega
 rw [hlo]
 by_cases hsh : (kf : Int) - 1074 - ((k0 : Int) - 1084) > 0
 ·-- some bits are cut off
  obtain ⟨sh,hshn⟩ : ∃ sh : Nat,(sh : Int) = (kf : Int) - 1074 - ((k0 : Int) - 1084):=⟨((kf : Int) - 1074 - ((k0 : Int) - 1084)).toNat,by omega⟩
  rw [wrap64_in (n:=(kf : Int) - 1074 - ((k0 : Int) - 1084)) (by omega) (by omega),← hshn]
  have hs1 : 1 ≤ sh:=by omega
  have hs2 : sh ≤ 11:=by omega
  rw [if_pos (by omega),if_neg (by omega),if_pos (by omega),wrap_in (n:=(sh : Int)) (by omega) (by omega),if_pos (by omega),wrap64_in (n:=(sh : Int) - 1) (by omega) (by omega),
   wrap_in (n:=(sh : Int) - 1) (by omega) (by omega),if_pos (by omega),mask_nat (by omega) (by omega),shr_nat m (by omega)]
  have e1 : (sh : Int) - 1 = ((sh - 1 : Nat) : Int):=by omega
  rw [e1,shl_one (by omega)]
  have hq53 : m / 2 ^ sh ≤ m:=Nat.div_le_self _ _
  have hq0 : (0 : Int) ≤ ((m / 2 ^ sh : Nat) : Int):=Int.natCast_nonneg _
  have hq1 : ((m / 2 ^ sh : Nat) : Int) ≤ (m : Int):=Int.ofNat_le.2 hq53
  have hq2 : ((m / 2 ^ sh : Nat) : Int) < 18446744073709551615:=by
   have : m / 2 ^ sh ≤ m / 2 ^ 1:=Nat.div_le_div_left (Nat.pow_le_pow_right (by decide) hs1) (by decide)
   have h3 : m / 2 ^ sh < 18446744073709551615:=by omega
   exact Int.ofNat_lt.2 h3
  rw [and_1 (x:=((m / 2 ^ sh : Nat) : Int)) (by omega) (by omega)]
  have hpw : 2 ^ sh = 2 * 2 ^ (sh - 1):=by
   obtain ⟨n,rfl⟩ : ∃ z,sh = z + 1:=⟨sh - 1,by omega⟩
   rw [Nat.pow_succ]; simp; omega
  have hr : rnd V kf = rnd m sh:=by
   have a : rnd (V * 2 ^ 10) (10 + kf) = rnd V kf:=by rw [← rnd_scale V 10 kf]
   rw [← a,show 10 + kf = k0 + sh from by omega]
   rcases Nat.lt_or_ge sh 2 with h2 | h2
   ·rcases hex with he | he
    ·rw [← he,rnd_scale]
    have:=hT54 he; omega
   have:=rnd_stk hV (sh - 2)
   rw [show sh - 2 + 2 = sh from by omega] at this
   exact this
  rw [wrap_in (n:=((m / 2 ^ sh : Nat) : Int) + 1) (by omega) (by omega)]
  rw [hr] at hqh hql hfin
  rw [hfin]
  unfold rnd Go.Proofs.SxFl.up at *
  have key : ∀ q : Nat,q = m / 2 ^ sh + (if 2 ^ sh < 2 * (m % 2 ^ sh) ∨ 2 * (m % 2 ^ sh) = 2 ^ sh ∧ m / 2 ^ sh % 2 = 1 then 1 else 0) →
    hygref6_round.j2 (k + 2) s ((kf : Int) - 1074) (q : Int) = some (s + (min (kf * 2 ^ 52 + (m / 2 ^ sh + if 2 ^ sh < 2 * (m % 2 ^ sh) ∨ 2 * (m % 2 ^ sh) = 2 ^ sh ∧ m / 2 ^ sh % 2 = 1 then 1 else 0)) INF : Nat)):=by
   intro q hq
   rw [← hq] at hqh hql ⊢
   exact j2_f hs (by omega) hqh hql (by omega)
  by_cases c1 : ((m % 2 ^ sh : Nat) : Int) > ((2 ^ (sh - 1) : Nat) : Int)
  ·rw [if_pos c1]
   have:=key (m / 2 ^ sh + 1) (by rw [if_pos (by omega)])
   rw [← this]; rfl
  rw [if_neg c1]
  by_cases c2 : ((m % 2 ^ sh : Nat) : Int) = ((2 ^ (sh - 1) : Nat) : Int)
  ·rw [if_pos c2]
   by_cases c3 : ((m / 2 ^ sh : Nat) : Int) % 2 = 1
   ·rw [if_pos c3]
    have:=key (m / 2 ^ sh + 1) (by rw [if_pos (by omega)])
    rw [← this]; rfl
   rw [if_neg c3]
   have:=key (m / 2 ^ sh) (by rw [if_neg (by omega),Nat.add_zero])
   rw [← this]
  rw [if_neg c2]
  have:=key (m / 2 ^ sh) (by rw [if_neg (by omega),Nat.add_zero])
  rw [← this]
 obtain ⟨sh,hshn⟩ : ∃ sh : Nat,(sh : Int) = -((kf : Int) - 1074 - ((k0 : Int) - 1084)):=⟨(-((kf : Int) - 1074 - ((k0 : Int) - 1084))).toNat,by omega⟩
 rw [wrap64_in (n:=(kf : Int) - 1074 - ((k0 : Int) - 1084)) (by omega) (by omega),if_neg (by omega)]
 rw [wrap64_in (n:=-((kf : Int) - 1074 - ((k0 : Int) - 1084))) (by omega) (by omega),← hshn,wrap_in (n:=(sh : Int)) (by omega) (by omega),if_pos (by omega)]
 have hTsh : T + sh ≤ 52:=by omega
 have hmb : m * 2 ^ sh < 2 ^ 53:=by
  have a : m * 2 ^ sh < 2 ^ (T + 1) * 2 ^ sh:=(Nat.mul_lt_mul_right (Nat.two_pow_pos sh)).2 hth
  have b : 2 ^ (T + 1) * 2 ^ sh ≤ 2 ^ 53:=by rw [← Nat.pow_add]; exact Nat.pow_le_pow_right (by decide) (by omega)
  omega
 rw [shl_nat (by omega) (by omega)]
 have he : m * 2 ^ k0 = V * 2 ^ 10:=by
  rcases hex with he | he
  ·exact he
  have:=hT54 he; omega
 have hr : rnd V kf = m * 2 ^ sh:=by
  have e : V * 2 ^ 10 = (m * 2 ^ sh * 2 ^ kf) * 2 ^ 10:=by
   rw [← he]
   simp only [Nat.mul_assoc,← Nat.pow_add]
   rw [show sh + kf + 10 = k0 from by omega]
  have e2 : V = m * 2 ^ sh * 2 ^ kf:=Nat.eq_of_mul_eq_mul_right (by decide) e
  rw [e2,rnd_exact]
 rw [hr] at hqh hql hfin
 rw [hfin]
 exact j2_f hs (by omega) hqh hql (by omega)
theorem round_f {k : Nat} (hk : 90 ≤ k) (b : Bool) {m k0 V : Nat} (hm0 : 0 < m) (hm : m < 2 ^ 64) (hk0 : k0 < 3000) (hV : Stk (V * 2 ^ 10) k0 m) (hex : m * 2 ^ k0 = V * 2 ^ 10 ∨ 2 ^ 54 ≤ m) :
  hygref6_round.f k b m ((k0 : Int) - 1084) = some ((if b then (9223372036854775808 : Int) else 0) + ((fin V : Nat) : Int)):=by
 obtain ⟨k,rfl⟩ : ∃ z,k = z + 1:=⟨k - 1,by omega⟩
 unfold hygref6_round.f
 simp only [hygref6_round.j0]
 have hne : ¬ ((m : Int) = 0):=by omega
 rw [if_neg hne,if_neg hne]
 cases b with
 | true=>exact round_l0 (by omega) (Or.inr rfl) hm0 hm hk0 hV hex
 | false=>exact round_l0 (by omega) (Or.inl rfl) hm0 hm hk0 hV hex
theorem fr_pos {S : Nat} (h : S ≠ 0) : 0 < fr S:=by unfold fr; split <;> omega
theorem rparts_f {x : Int} (h : U x) {S : Nat} (hS : (S : Int) = x % 9223372036854775808) : hygref6_parts.f x = some (((fr S : Nat) : Int),(ex S : Int) - 1074):=by
 have h1:=h.1; have h2:=h.2
 unfold hygref6_parts.f
 rw [and_2047 (x:=x / 4503599627370496) (by omega) (by omega),and_frac h1 h2,wrap64_in (by omega) (by omega),or_hidden (by omega) (by omega)]
 have e : x / 4503599627370496 % 2048 = ((S / 4503599627370496 : Nat) : Int):=by omega
 have hex : ex S = S / 4503599627370496 - 1:=rfl
 have hfr : fr S = if S / 4503599627370496 = 0 then S else S % 4503599627370496 + 4503599627370496:=rfl
 rw [e]
 by_cases c : S / 4503599627370496 = 0
 ·rw [if_pos (by omega),hfr,if_pos c]
  congr 2 <;> omega
 rw [if_neg (by omega),hfr,if_neg c,wrap64_in (by omega) (by omega)]
 congr 2 <;> omega
theorem sg_neg {x : Int} (h : U x) : (sg x = if decide (9223372036854775808 ≤ x) then 9223372036854775808 else 0):=by
 have h1:=h.1; have h2:=h.2
 unfold sg
 by_cases c : 9223372036854775808 ≤ x
 ·simp only [c,decide_true,if_true]; omega
 simp only [c,decide_false,Bool.false_eq_true,if_false]; omega
theorem rj3_f {k : Nat} {x y : Int} (hx : U x) (hy : U y) (hk : 100 ≤ k) (fx : sz x < 9218868437227405312) (h : sz y ≤ sz x) (hx0 : 0 < sz x) :
  hygref6_Add.j3 k x y ((fr (sz x) * 2 ^ 10 : Nat) : Int) ((ex (sz x) : Int) - 1084) ((stick (fr (sz y) * 2 ^ 10) (ex (sz x) - ex (sz y)) : Nat) : Int) = some (sumV x y):=by
 obtain ⟨k,rfl⟩ : ∃ z,k = z + 1:=⟨k - 1,by omega⟩
 have cx:=sz_cast hx; have cy:=sz_cast hy
 have hex:=ex_mono h
 have hxl:=ex_lt fx
 have hv : vl y ≤ vl x:=val_le.2 h
 have f1:=fr_high (sz x); have f2:=fr_high (sz y)
 have hfp : 0 < fr (sz x):=fr_pos (by omega)
 have hS:=sum_stk (Sa:=sz x) (Sb:=sz y) (g:=10) (by decide) hex
 have hD:=dif_stk (Sa:=sz x) (Sb:=sz y) (g:=10) (by decide) hex hv
 have hlost:=lost_or (Sa:=sz x) (Sb:=sz y) (g:=10) hex
 have hqb:=stick_bound (B:=fr (sz y) * 2 ^ 10) (d:=ex (sz x) - ex (sz y)) (M:=2 ^ 63) (by omega) (by decide)
 have hql:=low_le (Sa:=sz x) (Sb:=sz y) (g:=10) (by decide) hex hv
 have hfl : 0 < ex (sz x) → 2 ^ 52 ≤ fr (sz x):=fun h0=>fr_low (by unfold ex at h0; omega)
 -- nothing lost: just so
 have hjust : (stick (fr (sz y) * 2 ^ 10) (ex (sz x) - ex (sz y)) * 2 ^ (ex (sz x) - ex (sz y)) = fr (sz y) * 2 ^ 10) → stick (fr (sz y) * 2 ^ 10) (ex (sz x) - ex (sz y)) * 2 ^ ex (sz x) = val (sz y) * 2 ^ 10:=by
  intro hl
  have : stick (fr (sz y) * 2 ^ 10) (ex (sz x) - ex (sz y)) * 2 ^ (ex (sz x) - ex (sz y)) * 2 ^ ex (sz y) = fr (sz y) * 2 ^ 10 * 2 ^ ex (sz y):=by rw [hl]
  rw [Nat.mul_assoc,← Nat.pow_add,show ex (sz x) - ex (sz y) + ex (sz y) = ex (sz x) from by omega] at this
  rw [this,hi_val]
 simp only [hygref6_Add.j3]
 rw [rneg_f hx,rneg_f hy]
 simp only [Option.bind_some]
 have hsgx:=sg_neg hx; have hsgy:=sg_neg hy
 unfold sumV
 generalize hq : stick (fr (sz y) * 2 ^ 10) (ex (sz x) - ex (sz y)) = q at *
 by_cases cs : decide (9223372036854775808 ≤ x) = decide (9223372036854775808 ≤ y)
 ·rw [if_pos (by rw [beq_iff_eq]; exact cs),if_pos (by rw [hsgx,hsgy,cs])]
  have eB : IntKind.u64.wrap (((fr (sz x) * 2 ^ 10 : Nat) : Int) + (q : Int)) = ((fr (sz x) * 2 ^ 10 + q : Nat) : Int):=by rw [wrap_in (by omega) (by omega)]; omega
  have hor : (fr (sz x) * 2 ^ 10 + q) * 2 ^ ex (sz x) = (vl x + vl y) * 2 ^ 10 ∨ 2 ^ 54 ≤ fr (sz x) * 2 ^ 10 + q:=by
   rcases hlost with hl | ⟨hl1,hl2⟩
   ·left
    have:=hjust hl
    rw [Nat.add_mul,this,hi_val]; unfold vl; rw [Nat.add_mul]
   right
   have:=hfl (by omega)
   omega
  rw [eB,round_f (k:=k) (by omega) _ (m:=fr (sz x) * 2 ^ 10 + q) (k0:=ex (sz x)) (V:=vl x + vl y) (by omega) (by omega) (by omega) hS hor,hsgx]
  rfl
 rw [if_neg (by rw [beq_iff_eq]; exact cs)]
 have hsne : ¬ sg x = sg y:=by
  intro e; apply cs
  have h1:=hx.1; have h2:=hx.2; have h3:=hy.1; have h4:=hy.2
  rw [decide_eq_decide]
  unfold sg at e; omega
 rw [if_neg hsne]
 have hz0:=stk_pos hD
 by_cases c0 : fr (sz x) * 2 ^ 10 - q = 0
 ·have hveq : vl x = vl y:=by
   have h0:=hz0.1 c0
   have : (val (sz x) - val (sz y)) = 0:=by
    rcases Nat.mul_eq_zero.1 h0 with c | c
    ·exact c
    have:=Nat.two_pow_pos 10; omega
   unfold vl at *; omega
  rw [if_pos (by omega),if_pos hveq]
 have hvne : ¬ vl x = vl y:=by
  intro e
  apply c0
  apply hz0.2
  have : val (sz x) - val (sz y) = 0:=by unfold vl at e; omega
  rw [this,Nat.zero_mul]
 rw [if_neg (by omega),if_neg hvne]
 have eB : IntKind.u64.wrap (((fr (sz x) * 2 ^ 10 : Nat) : Int) - (q : Int)) = ((fr (sz x) * 2 ^ 10 - q : Nat) : Int):=by rw [wrap_in (by omega) (by omega)]; omega
 have hor : (fr (sz x) * 2 ^ 10 - q) * 2 ^ ex (sz x) = (vl x - vl y) * 2 ^ 10 ∨ 2 ^ 54 ≤ fr (sz x) * 2 ^ 10 - q:=by
  rcases hlost with hl | ⟨hl1,hl2⟩
  ·left
   have:=hjust hl
   rw [Nat.sub_mul,this,hi_val]; unfold vl; rw [Nat.sub_mul]
  right
  have:=hfl (by omega)
  omega
 rw [eB,round_f (k:=k) (by omega) _ (m:=fr (sz x) * 2 ^ 10 - q) (k0:=ex (sz x)) (V:=vl x - vl y) (by omega) (by omega) (by omega) hD hor,hsgx]
 rfl
theorem radd_j2 {k : Nat} {x y : Int} (hx : U x) (hy : U y) (hk : 101 ≤ k) (fx : sz x < 9218868437227405312) (h : sz y ≤ sz x) (hx0 : 0 < sz x) : hygref6_Add.j2 k x y = some (sumV x y):=by
 obtain ⟨k,rfl⟩ : ∃ z,k = z + 1:=⟨k - 1,by omega⟩
 have cx:=sz_cast hx; have cy:=sz_cast hy
 have hex:=ex_mono h
 have hxl:=ex_lt fx
 have f1:=fr_high (sz x); have f2:=fr_high (sz y)
 have hj:=rj3_f (k:=k) hx hy (by omega) fx h hx0
 simp only [hygref6_Add.j2]
 rw [rparts_f hx cx,rparts_f hy cy]
 simp only [Option.bind_some]
 have e10 : (2 : Nat) ^ 10 = 1024:=by decide
 rw [e10] at hj
 have w1 : IntKind.u64.wrap (((fr (sz x) : Nat) : Int) * 1024) = ((fr (sz x) * 1024 : Nat) : Int):=by rw [wrap_in (by omega) (by omega)]; omega
 have w2 : IntKind.u64.wrap (((fr (sz y) : Nat) : Int) * 1024) = ((fr (sz y) * 1024 : Nat) : Int):=by rw [wrap_in (by omega) (by omega)]; omega
 have w3 : wrap64 ((ex (sz x) : Int) - 1074 - 10) = (ex (sz x) : Int) - 1084:=by rw [wrap64_in (by omega) (by omega)]; omega
 have w4 : wrap64 ((ex (sz y) : Int) - 1074 - 10) = (ex (sz y) : Int) - 1084:=by rw [wrap64_in (by omega) (by omega)]; omega
 rw [w1,w2,w3,w4]
 have w5 : wrap64 ((ex (sz x) : Int) - 1084 - ((ex (sz y) : Int) - 1084)) = ((ex (sz x) - ex (sz y) : Nat) : Int):=by rw [wrap64_in (by omega) (by omega)]; omega
 rw [w5]
 generalize hd : ex (sz x) - ex (sz y) = d at *
 obtain ⟨n,hn⟩ : ∃ n,n = fr (sz y) * 1024:=⟨_,rfl⟩
 have hn63 : n < 2 ^ 63:=by omega
 rw [← hn] at hj ⊢
 by_cases c0 : d = 0
 ·rw [if_neg (by omega)]
  rw [c0,stick_zero] at hj; exact hj
 rw [if_pos (by omega)]
 by_cases c1 : (d : Int) > 63
 ·rw [if_pos c1]
  have o0 : Go.bits .or .u64 0 1 = 1:=by rw [or_one (by decide) (by decide)]; decide
  have o1 : Go.bits .or .u64 0 0 = 0:=by decide +kernel
  rw [o0,o1]
  have a : 2 ^ 64 ≤ 2 ^ d:=Nat.pow_le_pow_right (by decide) (by omega)
  have hs : stick n d = if n = 0 then 0 else 1:=by
   unfold stick
   rw [Nat.mod_eq_of_lt (by omega),Nat.div_eq_of_lt (by omega)]
   split
   ·rfl
   rfl
  rw [hs] at hj
  by_cases c2 : (n : Int) > 0
  ·rw [if_pos c2]; rw [if_neg (by omega)] at hj; exact hj
  rw [if_neg c2]; rw [if_pos (by omega)] at hj; exact hj
 rw [if_neg c1,wrap_in (n:=(d : Int)) (by omega) (by omega),if_pos (by omega),mask_nat (by omega) (by omega),shr_nat n (by omega)]
 have hq0 : (0 : Int) ≤ ((n / 2 ^ d : Nat) : Int):=Int.natCast_nonneg _
 have hq1 : ((n / 2 ^ d : Nat) : Int) ≤ (n : Int):=Int.ofNat_le.2 (Nat.div_le_self _ _)
 unfold stick at hj
 by_cases c2 : n % 2 ^ d = 0
 ·rw [if_pos c2] at hj
  rw [c2,if_neg (by decide)]
  have o0 : Go.bits .or .u64 ((n / 2 ^ d : Nat) : Int) 0 = ((n / 2 ^ d : Nat) : Int):=by
   rw [or_join 0 hq0 (by simp) (by omega) (by decide) (by decide) (by decide)]; simp
  rw [o0]; exact hj
 rw [if_neg c2] at hj
 rw [if_pos (by have:=Nat.pos_of_ne_zero c2; exact Int.ofNat_lt.2 this),or_one hq0 (by omega)]
 by_cases c3 : n / 2 ^ d % 2 = 1
 ·rw [if_pos c3] at hj; rw [if_pos (by omega)]; exact hj
 rw [if_neg c3] at hj; rw [if_neg (by omega)]; exact hj
theorem finV_zero {a b : Int} (ha : U a) (hb : U b) (za : sz a = 0) (zb : sz b = 0) : finV a b = Go.bits .and .u64 a b:=by
 have ca:=sz_cast ha; have cb:=sz_cast hb
 have h1:=ha.1; have h2:=ha.2; have h3:=hb.1; have h4:=hb.2
 have ea : a = 0 ∨ a = 9223372036854775808:=by omega
 have eb : b = 0 ∨ b = 9223372036854775808:=by omega
 rcases ea with rfl | rfl <;> rcases eb with rfl | rfl <;> decide +kernel
def ng (x : Int) : Int:=if x < 9223372036854775808 then x + 9223372036854775808 else x - 9223372036854775808
theorem neg_f {x : Int} (h : U x) : flt_Neg.f x = some (ng x):=by
 unfold flt_Neg.f ng; rw [xor_sign h.1 h.2]
theorem ng_U {x : Int} (h : U x) : U (ng x):=by unfold U ng at *; split <;> omega
def subV (a b : Int) : Int:=if cls b = 4 then addV a b else addV a (ng b)
end Go.Proofs.SxPu
