/- Plain facts on rounding a whole number to so many bits, to nearest, ties to even: no program and no memory in sight. -/
import Derived.WalkKit
namespace Go.Proofs.Ytmljncgglpckcaa.Fl

/-- one more, if what is cut off is more than half, or half and the last bit is odd -/
def up (V k : Nat) : Nat := if 2 ^ k < 2 * (V % 2 ^ k) ∨ (2 * (V % 2 ^ k) = 2 ^ k ∧ V / 2 ^ k % 2 = 1) then 1 else 0
def rnd (V k : Nat) : Nat := V / 2 ^ k + up V k
def kk (V : Nat) : Nat := Nat.log2 V - 52
def near (V : Nat) : Nat := kk V * 2 ^ 52 + rnd V (kk V)

theorem up_le (V k : Nat) : up V k ≤ 1 := by unfold up; split <;> omega

theorem rnd_mono {V W : Nat} (k : Nat) (h : V ≤ W) : rnd V k ≤ rnd W k := by
  have hq : V / 2 ^ k ≤ W / 2 ^ k := Nat.div_le_div_right h
  have u1 := up_le V k
  rcases Nat.lt_or_ge (V / 2 ^ k) (W / 2 ^ k) with h1 | h1
  · unfold rnd; omega
  · have e : V / 2 ^ k = W / 2 ^ k := by omega
    have a := Nat.div_add_mod V (2 ^ k)
    have b := Nat.div_add_mod W (2 ^ k)
    rw [e] at a
    have hr : V % 2 ^ k ≤ W % 2 ^ k := by omega
    unfold rnd up
    rw [e]
    split <;> split <;> omega

theorem kk_eq {V k : Nat} (h1 : 2 ^ (52 + k) ≤ V) (h2 : V < 2 ^ (53 + k)) : kk V = k := by
  have h0 : V ≠ 0 := by have := Nat.two_pow_pos (52 + k); omega
  have : Nat.log2 V = 52 + k := (Nat.log2_eq_iff h0).2 ⟨h1, by rw [show 52 + k + 1 = 53 + k from by omega]; exact h2⟩
  unfold kk; omega

theorem kk_zero {V : Nat} (h : V < 2 ^ 53) : kk V = 0 := by
  rcases Nat.eq_zero_or_pos V with h0 | h0
  · subst h0; decide
  · have : Nat.log2 V < 53 := (Nat.log2_lt (by omega)).2 h
    unfold kk; omega

theorem kk_low {V : Nat} (h : 0 < kk V) : 2 ^ (52 + kk V) ≤ V := by
  have h0 : V ≠ 0 := by intro e; subst e; simp [kk] at h
  have := Nat.log2_self_le h0
  have e : 52 + kk V = Nat.log2 V := by unfold kk at *; omega
  rw [e]; exact this

theorem kk_high (V : Nat) : V < 2 ^ (53 + kk V) := by
  have h := @Nat.lt_log2_self V
  refine Nat.lt_of_lt_of_le h (Nat.pow_le_pow_right (by decide) ?_)
  unfold kk; omega

theorem q_low {V : Nat} (h : 0 < kk V) : 2 ^ 52 ≤ V / 2 ^ kk V := by
  rw [Nat.le_div_iff_mul_le (Nat.two_pow_pos _), ← Nat.pow_add]; exact kk_low h

theorem q_high (V : Nat) : V / 2 ^ kk V < 2 ^ 53 := by
  rw [Nat.div_lt_iff_lt_mul (Nat.two_pow_pos _), ← Nat.pow_add]; exact kk_high V

theorem kk_mono {V W : Nat} (h : V ≤ W) : kk V ≤ kk W := by
  rcases Nat.lt_or_ge (kk W) (kk V) with h1 | h1
  · have a := kk_low (V := V) (by omega)
    have b := kk_high W
    have c : 2 ^ (53 + kk W) ≤ 2 ^ (52 + kk V) := Nat.pow_le_pow_right (by decide) (by omega)
    omega
  · exact h1

theorem near_mono {V W : Nat} (h : V ≤ W) : near V ≤ near W := by
  have h1 := kk_mono h
  unfold near
  rcases Nat.lt_or_ge (kk V) (kk W) with h2 | h2
  · have a := q_high V
    have b := q_low (V := W) (by omega)
    have c := up_le V (kk V)
    unfold rnd
    omega
  · have e : kk V = kk W := by omega
    rw [e]
    have := rnd_mono (kk W) h
    omega

theorem rnd_scale (X a b : Nat) : rnd (X * 2 ^ a) (a + b) = rnd X b := by
  have hp : 0 < 2 ^ a := Nat.two_pow_pos a
  have e : 2 ^ (a + b) = 2 ^ b * 2 ^ a := by rw [Nat.pow_add, Nat.mul_comm]
  have q : X * 2 ^ a / (2 ^ b * 2 ^ a) = X / 2 ^ b := Nat.mul_div_mul_right _ _ hp
  have r : X * 2 ^ a % (2 ^ b * 2 ^ a) = X % 2 ^ b * 2 ^ a := Nat.mul_mod_mul_right _ _ _
  unfold rnd up
  rw [e, q, r]
  have h1 : (2 ^ b * 2 ^ a < 2 * (X % 2 ^ b * 2 ^ a)) ↔ (2 ^ b < 2 * (X % 2 ^ b)) := by
    rw [← Nat.mul_assoc]; exact Nat.mul_lt_mul_right hp
  have h2 : (2 * (X % 2 ^ b * 2 ^ a) = 2 ^ b * 2 ^ a) ↔ (2 * (X % 2 ^ b) = 2 ^ b) := by
    rw [← Nat.mul_assoc]; exact Nat.mul_right_cancel_iff hp
  simp only [h1, h2]

theorem rnd_zero (X : Nat) : rnd X 0 = X := by
  unfold rnd up
  simp [Nat.mod_one]

theorem rnd_exact (X a : Nat) : rnd (X * 2 ^ a) a = X := by
  have := rnd_scale X a 0
  rw [Nat.add_zero] at this
  rw [this, rnd_zero]

/-- a double without its sign: its exponent less one (0 for the smallest), its bits, its value in units of 2^-1074 -/
def ex (s : Nat) : Nat := s / 2 ^ 52 - 1
def fr (s : Nat) : Nat := if s / 2 ^ 52 = 0 then s else s % 2 ^ 52 + 2 ^ 52
def val (s : Nat) : Nat := fr s * 2 ^ ex s

theorem fr_high (s : Nat) : fr s < 2 ^ 53 := by unfold fr; split <;> omega
theorem fr_low {s : Nat} (h : 2 ^ 52 ≤ s) : 2 ^ 52 ≤ fr s := by unfold fr; split <;> omega
theorem ex_fr (s : Nat) : ex s * 2 ^ 52 + fr s = s := by unfold ex fr; split <;> omega

theorem near_of {V k q : Nat} (h1 : V = q * 2 ^ k) (h2 : q < 2 ^ 53) (h3 : 0 < k → 2 ^ 52 ≤ q) : near V = k * 2 ^ 52 + q := by
  have hk : kk V = k := by
    rcases Nat.eq_zero_or_pos k with h0 | h0
    · subst h0; apply kk_zero; omega
    · have h := h3 h0
      apply kk_eq
      · rw [h1, Nat.pow_add]; exact Nat.mul_le_mul_right _ h
      · rw [h1, Nat.pow_add]; exact (Nat.mul_lt_mul_right (Nat.two_pow_pos k)).2 h2
  unfold near
  rw [hk, h1, rnd_exact]

theorem near_val (s : Nat) : near (val s) = s := by
  have h := near_of (V := val s) (q := fr s) (k := ex s) rfl (fr_high s) (fun h => fr_low (by unfold ex at h; omega))
  rw [h]
  exact ex_fr s

theorem val_lt {s t : Nat} : val s < val t ↔ s < t := by
  constructor
  · intro h
    rcases Nat.lt_or_ge s t with h1 | h1
    · exact h1
    · have h3 := near_mono (Nat.le_of_lt h)
      rw [near_val, near_val] at h3
      have : s = t := by omega
      subst this; omega
  · intro h
    rcases Nat.lt_or_ge (val s) (val t) with h1 | h1
    · exact h1
    · have := near_mono h1
      rw [near_val, near_val] at this; omega

theorem val_le {s t : Nat} : val s ≤ val t ↔ s ≤ t := by
  have := @val_lt t s; omega

theorem val_inj {s t : Nat} (h : val s = val t) : s = t := by
  have := @val_le s t; have := @val_le t s; omega

theorem val_zero : val 0 = 0 := by simp [val, fr]

theorem val_eq_zero {s : Nat} : val s = 0 ↔ s = 0 := by
  constructor
  · intro h; exact val_inj (h.trans val_zero.symm)
  · intro h; rw [h, val_zero]

/-- B tells N / 2^d: just so, or, being odd, what lies between the two even ones beside it -/
def Stk (N d B : Nat) : Prop := B * 2 ^ d = N ∨ (B % 2 = 1 ∧ (B - 1) * 2 ^ d < N ∧ N < (B + 1) * 2 ^ d)

theorem stk_lt {N d B : Nat} (h : Stk N d B) {T : Nat} (hT : T % 2 = 0) : T * 2 ^ d < N ↔ T < B := by
  have hp : 0 < 2 ^ d := Nat.two_pow_pos d
  rcases h with h | ⟨h1, h2, h3⟩
  · rw [← h]; exact Nat.mul_lt_mul_right hp
  · constructor
    · intro h4
      have h5 : T * 2 ^ d < (B + 1) * 2 ^ d := by omega
      have h6 := (Nat.mul_lt_mul_right hp).1 h5
      omega
    · intro h4
      have h5 : T * 2 ^ d ≤ (B - 1) * 2 ^ d := Nat.mul_le_mul_right _ (by omega)
      omega

theorem stk_gt {N d B : Nat} (h : Stk N d B) {T : Nat} (hT : T % 2 = 0) : N < T * 2 ^ d ↔ B < T := by
  have hp : 0 < 2 ^ d := Nat.two_pow_pos d
  rcases h with h | ⟨h1, h2, h3⟩
  · rw [← h]; exact Nat.mul_lt_mul_right hp
  · constructor
    · intro h4
      have h5 : (B - 1) * 2 ^ d < T * 2 ^ d := by omega
      have h6 := (Nat.mul_lt_mul_right hp).1 h5
      omega
    · intro h4
      have h5 : (B + 1) * 2 ^ d ≤ T * 2 ^ d := Nat.mul_le_mul_right _ (by omega)
      omega

theorem rnd_stk {N d B : Nat} (h : Stk N d B) (g : Nat) : rnd N (d + (g + 2)) = rnd B (g + 2) := by
  have hG : 2 ^ (g + 2) = 4 * 2 ^ g := by rw [Nat.pow_add]; omega
  have hg : 0 < 2 ^ g := Nat.two_pow_pos g
  have hp : 0 < 2 ^ d := Nat.two_pow_pos d
  have hD : 2 ^ (d + (g + 2)) = 2 ^ (g + 2) * 2 ^ d := by rw [Nat.pow_add, Nat.mul_comm]
  have hB := Nat.div_add_mod B (2 ^ (g + 2))
  have hBm := Nat.mod_lt B (Nat.two_pow_pos (g + 2))
  have hN := Nat.div_add_mod N (2 ^ (g + 2) * 2 ^ d)
  have hNm := Nat.mod_lt N (Nat.mul_pos (Nat.two_pow_pos (g + 2)) hp)
  -- the quotients
  have hq : N / (2 ^ (g + 2) * 2 ^ d) = B / 2 ^ (g + 2) := by
    have a : (2 ^ (g + 2) * (B / 2 ^ (g + 2))) * 2 ^ d ≤ N := by
      have := (@stk_gt N d B h (2 ^ (g + 2) * (B / 2 ^ (g + 2))) (by rw [hG, Nat.mul_assoc]; omega))
      omega
    have b : N < (2 ^ (g + 2) * (B / 2 ^ (g + 2) + 1)) * 2 ^ d := by
      rw [@stk_gt N d B h (2 ^ (g + 2) * (B / 2 ^ (g + 2) + 1)) (by rw [hG, Nat.mul_assoc]; omega)]
      rw [Nat.mul_add]; omega
    apply Nat.div_eq_of_lt_le
    · rw [Nat.mul_comm, Nat.mul_assoc, Nat.mul_comm (2 ^ d), ← Nat.mul_assoc]; exact a
    · rw [Nat.mul_comm, Nat.mul_assoc, Nat.mul_comm (2 ^ d), ← Nat.mul_assoc]; exact b
  rw [hq] at hN
  have hT : (2 ^ (g + 2) * (B / 2 ^ (g + 2)) + 2 * 2 ^ g) % 2 = 0 := by
    rw [hG, Nat.mul_assoc]; omega
  have l1 := @stk_lt N d B h _ hT
  have l2 := @stk_gt N d B h _ hT
  have e1 : (2 ^ (g + 2) * (B / 2 ^ (g + 2)) + 2 * 2 ^ g) * 2 ^ d = 2 ^ (g + 2) * 2 ^ d * (B / 2 ^ (g + 2)) + 2 * (2 ^ g * 2 ^ d) := by
    rw [Nat.add_mul, Nat.mul_assoc, Nat.mul_comm (B / 2 ^ (g + 2)), ← Nat.mul_assoc, Nat.mul_assoc 2]
  rw [e1] at l1 l2
  have e2 : 2 ^ (g + 2) * 2 ^ d = 4 * (2 ^ g * 2 ^ d) := by rw [hG, Nat.mul_assoc]
  unfold rnd up
  rw [hD, hq]
  have c1 : (2 ^ (g + 2) * 2 ^ d < 2 * (N % (2 ^ (g + 2) * 2 ^ d))) ↔ (2 ^ (g + 2) < 2 * (B % 2 ^ (g + 2))) := by omega
  have c2 : (2 * (N % (2 ^ (g + 2) * 2 ^ d)) = 2 ^ (g + 2) * 2 ^ d) ↔ (2 * (B % 2 ^ (g + 2)) = 2 ^ (g + 2)) := by omega
  simp only [c1, c2]

theorem stk_add {N d B : Nat} (h : Stk N d B) {C : Nat} (hC : C % 2 = 0) : Stk (C * 2 ^ d + N) d (C + B) := by
  rcases h with h | ⟨h1, h2, h3⟩
  · left; rw [Nat.add_mul, h]
  · right
    refine ⟨by omega, ?_, ?_⟩
    · rw [show C + B - 1 = C + (B - 1) from by omega, Nat.add_mul]; omega
    · rw [show C + B + 1 = C + (B + 1) from by omega, Nat.add_mul]; omega

theorem stk_sub {N d B : Nat} (h : Stk N d B) {C : Nat} (hC : C % 2 = 0) (hB : B ≤ C) : Stk (C * 2 ^ d - N) d (C - B) := by
  rcases h with h | ⟨h1, h2, h3⟩
  · left; rw [Nat.sub_mul, h]
  · right
    have a : (B + 1) * 2 ^ d ≤ C * 2 ^ d := Nat.mul_le_mul_right _ (by omega)
    refine ⟨by omega, ?_, ?_⟩
    · rw [show C - B - 1 = C - (B + 1) from by omega, Nat.sub_mul]; omega
    · rw [show C - B + 1 = C - (B - 1) from by omega, Nat.sub_mul]; omega

/-- cut off e bits, what is lost noted in the last one -/
def stick (B e : Nat) : Nat := if B % 2 ^ e = 0 then B / 2 ^ e else if B / 2 ^ e % 2 = 1 then B / 2 ^ e else B / 2 ^ e + 1

theorem stk_exact (B d : Nat) : Stk (B * 2 ^ d) d B := Or.inl rfl

theorem stick_stk (B e : Nat) : Stk B e (stick B e) := by
  have hp : 0 < 2 ^ e := Nat.two_pow_pos e
  have hB := Nat.div_add_mod B (2 ^ e)
  have hm := Nat.mod_lt B hp
  rw [Nat.mul_comm] at hB
  unfold stick
  split
  · left; omega
  · right
    split
    · refine ⟨by assumption, ?_, ?_⟩
      · have : (B / 2 ^ e - 1) * 2 ^ e ≤ (B / 2 ^ e) * 2 ^ e := Nat.mul_le_mul_right _ (Nat.sub_le _ _)
        omega
      · rw [Nat.add_mul]; omega
    · refine ⟨by omega, ?_, ?_⟩
      · rw [Nat.add_sub_cancel]; omega
      · rw [show B / 2 ^ e + 1 + 1 = B / 2 ^ e + 2 from rfl, Nat.add_mul]; omega

theorem stk_trans {N d B e C : Nat} (h1 : Stk N d B) (h2 : Stk B e C) : Stk N (d + e) C := by
  have hd : 0 < 2 ^ d := Nat.two_pow_pos d
  have hpe : 2 ^ (d + e) = 2 ^ e * 2 ^ d := by rw [Nat.pow_add, Nat.mul_comm]
  unfold Stk
  rw [hpe, ← Nat.mul_assoc, ← Nat.mul_assoc, ← Nat.mul_assoc]
  rcases Nat.eq_zero_or_pos e with h0 | h0
  · subst h0
    simp only [Nat.pow_zero, Nat.mul_one]
    rcases h2 with h2 | ⟨a, b, c⟩
    · rw [Nat.pow_zero, Nat.mul_one] at h2; subst h2; exact h1
    · rw [Nat.pow_zero, Nat.mul_one] at b c
      have : C = B := by omega
      subst this; exact h1
  · have he : 2 ^ e % 2 = 0 := by
      obtain ⟨n, rfl⟩ : ∃ n, e = n + 1 := ⟨e - 1, by omega⟩
      rw [Nat.pow_succ]; omega
    have even : ∀ x : Nat, (x * 2 ^ e) % 2 = 0 := fun x => by rw [Nat.mul_mod, he]; simp
    rcases h2 with h2 | ⟨a, b, c⟩
    · -- just so: B is even
      have hB : B % 2 = 0 := by rw [← h2]; exact even C
      rcases h1 with h1 | ⟨a, _, _⟩
      · left; rw [h2, h1]
      · omega
    · right
      exact ⟨a, (stk_lt h1 (even _)).2 b, (stk_gt h1 (even _)).2 c⟩

end Go.Proofs.Ytmljncgglpckcaa.Fl
