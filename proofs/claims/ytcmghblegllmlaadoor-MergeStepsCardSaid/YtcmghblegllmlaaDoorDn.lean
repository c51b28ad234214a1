/- Sides as sums over places: plain theory, no program in sight. -/
import Derived.WalkKit
namespace Go.Proofs.YtcmghblegllmlaaDoor.Dn

/-- the sum of the counts whose places are told by g; l lies from place a on -/
def S : Int → List Int → (Int → Bool) → Int
  | _, [], _ => 0
  | a, x :: l, g => (if g a then x else 0) + S (a + 1) l g
/-- what lies at place p, places shifted by b -/
def dn (a : Int) (l : List Int) (b : Nat) (p : Int) : Int := S a l (fun t => t / 2 ^ b == p)
def Pos (l : List Int) : Prop := ∀ x ∈ l, 0 ≤ x

theorem S_append (a : Int) (l m : List Int) (g : Int → Bool) : S a (l ++ m) g = S a l g + S (a + l.length) m g := by
  induction l generalizing a with
  | nil => simp [S]
  | cons x l ih =>
    simp only [List.cons_append, S, ih, List.length_cons]
    rw [show a + 1 + (l.length : Int) = a + ((l.length + 1 : Nat) : Int) by omega]
    omega
theorem S_nonneg {l : List Int} (h : Pos l) (a : Int) (g : Int → Bool) : 0 ≤ S a l g := by
  induction l generalizing a with
  | nil => simp [S]
  | cons x l ih =>
    have h1 := ih (fun y hy => h y (List.mem_cons_of_mem _ hy)) (a + 1)
    have h2 := h x (List.mem_cons_self ..)
    simp only [S]
    split <;> omega
theorem S_zero {l : List Int} {a : Int} {g : Int → Bool} (h : ∀ i : Nat, i < l.length → g (a + i) = true → l.getD i 0 = 0) : S a l g = 0 := by
  induction l generalizing a with
  | nil => simp [S]
  | cons x l ih =>
    simp only [S]
    have h0 := h 0 (by simp)
    rw [ih (fun i hi hg => by
      have := h (i + 1) (by simp; omega) (by rw [← hg]; congr 1; omega)
      simpa using this)]
    simp only [Int.natCast_zero, Int.add_zero, List.getD_cons_zero] at h0
    split
    · rename_i hg; rw [h0 hg]; rfl
    · rfl
theorem S_ge {l : List Int} (h : Pos l) {a : Int} {g : Int → Bool} (i : Nat) (hi : i < l.length) (hg : g (a + i) = true) : l.getD i 0 ≤ S a l g := by
  induction l generalizing a i with
  | nil => simp at hi
  | cons x l ih =>
    have hl : Pos l := fun y hy => h y (List.mem_cons_of_mem _ hy)
    have hx := h x (List.mem_cons_self ..)
    simp only [S]
    cases i with
    | zero =>
      simp only [Int.natCast_zero, Int.add_zero] at hg
      simp only [List.getD_cons_zero, hg, if_true]
      have := S_nonneg hl (a + 1) g
      omega
    | succ i =>
      have := ih hl i (by simpa using hi) (a := a + 1) (by rw [← hg]; congr 1; omega)
      simp only [List.getD_cons_succ]
      split <;> omega
theorem S_sub {l : List Int} (h : Pos l) {g g' : Int → Bool} (hg : ∀ t, g t = true → g' t = true) (a : Int) : S a l g ≤ S a l g' := by
  induction l generalizing a with
  | nil => simp [S]
  | cons x l ih =>
    have h1 := ih (fun y hy => h y (List.mem_cons_of_mem _ hy)) (a + 1)
    have h2 := h x (List.mem_cons_self ..)
    simp only [S]
    cases hga : g a <;> cases hga' : g' a <;> simp <;> try omega
    rw [hg a hga] at hga'; simp at hga'
theorem S_congr {l : List Int} {g g' : Int → Bool} {a : Int} (h : ∀ i : Nat, i < l.length → g (a + i) = g' (a + i)) : S a l g = S a l g' := by
  induction l generalizing a with
  | nil => simp [S]
  | cons x l ih =>
    simp only [S]
    have h0 := h 0 (by simp)
    simp only [Int.natCast_zero, Int.add_zero] at h0
    rw [h0, ih (fun i hi => by
      have := h (i + 1) (by simp; omega)
      rw [show a + ((i + 1 : Nat) : Int) = a + 1 + i by omega] at this; exact this)]

/-- sums over places lo, lo + 1, .. -/
def R (lo : Int) : Nat → (Int → Int) → Int
  | 0, _ => 0
  | n + 1, F => R lo n F + F (lo + n)
theorem R_add (lo : Int) (n : Nat) (F G : Int → Int) : R lo n (fun p => F p + G p) = R lo n F + R lo n G := by
  induction n with
  | zero => rfl
  | succ n ih => simp only [R, ih]; omega
theorem R_zero (lo : Int) (n : Nat) (F : Int → Int) (h : ∀ i : Nat, i < n → F (lo + i) = 0) : R lo n F = 0 := by
  induction n with
  | zero => rfl
  | succ n ih => simp only [R, ih (fun i hi => h i (by omega)), h n (by omega)]; rfl
theorem R_congr (lo : Int) (n : Nat) (F G : Int → Int) (h : ∀ i : Nat, i < n → F (lo + i) = G (lo + i)) : R lo n F = R lo n G := by
  induction n with
  | zero => rfl
  | succ n ih => simp only [R, ih (fun i hi => h i (by omega)), h n (by omega)]
theorem R_one (lo : Int) (n : Nat) (v x : Int) (h : Int → Bool) (h0 : lo ≤ v) (h1 : v < lo + n) : R lo n (fun p => if h p then (if v == p then x else 0) else 0) = if h v then x else 0 := by
  induction n with
  | zero => omega
  | succ n ih =>
    simp only [R]
    by_cases hv : v = lo + n
    · rw [R_zero]
      · rw [← hv]; simp
      · intro i hi
        have : (v == lo + (i : Int)) = false := by rw [beq_eq_false_iff_ne]; omega
        simp [this]
    · rw [ih (by omega)]
      have : (v == lo + (n : Int)) = false := by rw [beq_eq_false_iff_ne]; exact hv
      simp [this]
/-- a sum told by places of places -/
theorem S_split (f : Int → Int) (h : Int → Bool) (lo : Int) (n : Nat) {l : List Int} {a : Int} (hr : ∀ i : Nat, i < l.length → lo ≤ f (a + i) ∧ f (a + i) < lo + n) :
    S a l (fun t => h (f t)) = R lo n (fun p => if h p then S a l (fun t => f t == p) else 0) := by
  induction l generalizing a with
  | nil => rw [R_zero]; rfl; intro i _; simp [S]
  | cons x l ih =>
    simp only [S]
    rw [ih (fun i hi => by
      have := hr (i + 1) (by simp; omega)
      rw [show a + ((i + 1 : Nat) : Int) = a + 1 + i by omega] at this; exact this)]
    have h0 := hr 0 (by simp)
    simp only [Int.natCast_zero, Int.add_zero] at h0
    rw [← R_one lo n (f a) x h h0.1 h0.2, ← R_add]
    apply R_congr
    intro i _
    split <;> simp

theorem div_mono {x y : Int} (h : x ≤ y) (b : Nat) : x / 2 ^ b ≤ y / 2 ^ b := Int.ediv_le_ediv (Int.pow_pos (by omega)) h
theorem div_div (x : Int) (b c : Nat) : x / 2 ^ b / 2 ^ c = x / 2 ^ (b + c) := by
  rw [Int.pow_add, Int.ediv_ediv_of_nonneg (Int.le_of_lt (Int.pow_pos (by omega)))]

/-- a side is told by what lies at its places -/
theorem dn0 (a : Int) (l : List Int) (p : Int) : dn a l 0 p = if a ≤ p ∧ p < a + l.length then l.getD (p - a).toNat 0 else 0 := by
  unfold dn
  simp only [Int.pow_zero, Int.ediv_one]
  induction l generalizing a with
  | nil => simp [S]
  | cons x l ih =>
    simp only [S, ih, List.length_cons]
    by_cases hp : a = p
    · subst hp
      have : ¬ (a + 1 ≤ a ∧ a < a + 1 + (l.length : Int)) := by omega
      rw [if_neg this]
      have : a ≤ a ∧ a < a + ((l.length + 1 : Nat) : Int) := by omega
      rw [if_pos this]; simp
    · have hb : (a == p) = false := by rw [beq_eq_false_iff_ne]; exact hp
      simp only [hb, Bool.false_eq_true, if_false, Int.zero_add]
      by_cases hc : a + 1 ≤ p ∧ p < a + 1 + (l.length : Int)
      · rw [if_pos hc, if_pos (by omega), show (p - a).toNat = (p - (a + 1)).toNat + 1 by omega]; simp
      · rw [if_neg hc, if_neg (by omega)]

/-- shifted once more -/
theorem dn_dn {a o : Int} {l L : List Int} {b : Nat} (h : ∀ p, dn o L 0 p = dn a l b p) (c : Nat) (q : Int) : dn o L c q = dn a l (b + c) q := by
  obtain ⟨lo, n, h1, h2⟩ : ∃ (lo : Int) (n : Nat), (∀ i : Nat, i < L.length → lo ≤ o + i ∧ o + (i : Int) < lo + n) ∧ (∀ i : Nat, i < l.length → lo ≤ (a + i) / 2 ^ b ∧ (a + (i : Int)) / 2 ^ b < lo + n) := by
    refine ⟨min o (a / 2 ^ b), (max (o + L.length) ((a + l.length) / 2 ^ b + 1) - min o (a / 2 ^ b)).toNat, fun i hi => ?_, fun i hi => ?_⟩
    · omega
    · have e1 := div_mono (show a ≤ a + (i : Int) by omega) b
      have e2 := div_mono (show a + (i : Int) ≤ a + l.length by omega) b
      omega
  have e1 := S_split (fun t => t) (fun t => t / 2 ^ c == q) lo n h1
  have e2 := S_split (fun t => t / 2 ^ b) (fun t => t / 2 ^ c == q) lo n h2
  unfold dn at h ⊢
  simp only [div_div] at e2
  rw [e1, e2]
  apply R_congr
  intro i _
  have := h (lo + i)
  simp only [Int.pow_zero, Int.ediv_one] at this
  simp only [this]

/-- no zeros at the ends; nothing lies at 0 -/
def Tr (a : Int) (l : List Int) : Prop := (l = [] ∧ a = 0) ∨ (0 < l.length ∧ l.getD 0 0 ≠ 0 ∧ l.getD (l.length - 1) 0 ≠ 0)
theorem Tr.ext {a o : Int} {l L : List Int} (h1 : Tr a l) (h2 : Tr o L) (h : ∀ p, dn o L 0 p = dn a l 0 p) : o = a ∧ L = l := by
  have key : ∀ {a o : Int} {l L : List Int}, Tr a l → (∀ p, dn o L 0 p = dn a l 0 p) → 0 < l.length → o ≤ a ∧ a + l.length ≤ o + L.length := by
    intro a o l L h1 h hl
    rcases h1 with ⟨rfl, _⟩ | ⟨_, e1, e2⟩
    · simp at hl
    · have f1 := h a
      have f2 := h (a + l.length - 1)
      rw [dn0, dn0, if_pos (show a ≤ a ∧ a < a + (l.length : Int) by omega)] at f1
      rw [dn0, dn0, if_pos (show a ≤ a + (l.length : Int) - 1 ∧ a + (l.length : Int) - 1 < a + (l.length : Int) by omega)] at f2
      rw [show (a - a).toNat = 0 by omega] at f1
      rw [show (a + (l.length : Int) - 1 - a).toNat = l.length - 1 by omega] at f2
      constructor
      · by_cases hc : o ≤ a ∧ a < o + (L.length : Int)
        · exact hc.1
        · rw [if_neg hc] at f1; exact absurd f1.symm e1
      · by_cases hc : o ≤ a + (l.length : Int) - 1 ∧ a + (l.length : Int) - 1 < o + (L.length : Int)
        · omega
        · rw [if_neg hc] at f2; exact absurd f2.symm e2
  by_cases hl : 0 < l.length
  · have k1 := key h1 h hl
    have hL : 0 < L.length := by omega
    have k2 := key h2 (fun p => (h p).symm) hL
    have ea : o = a := by omega
    subst ea
    refine ⟨rfl, List.ext_getElem (by omega) fun i hi1 hi2 => ?_⟩
    have := h (o + i)
    rw [dn0, dn0, if_pos (by omega), if_pos (by omega), show (o + (i : Int) - o).toNat = i by omega] at this
    simpa [List.getD, hi1, hi2] using this
  · have hl0 : l = [] := List.length_eq_zero_iff.mp (by omega)
    have ha : a = 0 := by rcases h1 with ⟨_, h⟩ | ⟨h, _⟩; exact h; omega
    by_cases hL : 0 < L.length
    · have := key h2 (fun p => (h p).symm) hL
      subst hl0; simp at this; omega
    · have hL0 : L = [] := List.length_eq_zero_iff.mp (by omega)
      have ho : o = 0 := by rcases h2 with ⟨_, h⟩ | ⟨h, _⟩; exact h; omega
      exact ⟨by omega, by rw [hL0, hl0]⟩

/-- what shifting tells of a side: places, counts, an error -/
def Res (a : Int) (l : List Int) (b : Int) (r : Int × List Int × Option Int) : Prop :=
  (r.2.2 = none ∧ 0 ≤ b ∧ b ≤ 31 ∧ Tr r.1 r.2.1 ∧ (∀ p, dn r.1 r.2.1 0 p = dn a l b.toNat p) ∧ (∀ p, dn a l b.toNat p < 18446744073709551616) ∧ r.1 ≤ 2147483647) ∨
  (r = (0, [], some 9) ∧ ((b < 0 ∨ 31 < b) ∨ (∃ p, 18446744073709551616 ≤ dn a l b.toNat p) ∨ (∃ p, 2147483647 < p ∧ dn a l b.toNat p ≠ 0 ∧ ∀ q, q < p → dn a l b.toNat q = 0)))
theorem Res.one {a : Int} {l : List Int} {b : Int} {r s : Int × List Int × Option Int} (h1 : Res a l b r) (h2 : Res a l b s) : r = s := by
  have mixed : ∀ {r s : Int × List Int × Option Int}, (r.2.2 = none ∧ 0 ≤ b ∧ b ≤ 31 ∧ Tr r.1 r.2.1 ∧ (∀ p, dn r.1 r.2.1 0 p = dn a l b.toNat p) ∧ (∀ p, dn a l b.toNat p < 18446744073709551616) ∧ r.1 ≤ 2147483647) →
      ((b < 0 ∨ 31 < b) ∨ (∃ p, 18446744073709551616 ≤ dn a l b.toNat p) ∨ (∃ p, 2147483647 < p ∧ dn a l b.toNat p ≠ 0 ∧ ∀ q, q < p → dn a l b.toNat q = 0)) → False := by
    rintro r s ⟨_, g1, g2, g3, g4, g5, g6⟩ (h | ⟨p, h⟩ | ⟨p, e1, e2, e3⟩)
    · omega
    · have := g5 p; omega
    · have h0 := g4 p
      rcases g3 with ⟨hl, ha⟩ | ⟨hl, k1, k2⟩
      · rw [hl, dn0] at h0; simp at h0; exact e2 h0.symm
      · have h3 := g4 r.1
        rw [e3 r.1 (by omega), dn0, if_pos (by omega), show (r.1 - r.1).toNat = 0 by omega] at h3
        exact k1 h3
  rcases h1 with h1 | ⟨h1, k1⟩ <;> rcases h2 with h2 | ⟨h2, k2⟩
  · have := Tr.ext h2.2.2.2.1 h1.2.2.2.1 (fun p => (h1.2.2.2.2.1 p).trans (h2.2.2.2.2.1 p).symm)
    exact Prod.ext this.1 (Prod.ext this.2 (h1.1.trans h2.1.symm))
  · exact (mixed (s := s) h1 k2).elim
  · exact (mixed (s := r) h2 k1).elim
  · rw [h1, h2]
theorem Res.chain {a o : Int} {l L : List Int} {m n : Int} (hm : 0 ≤ m) (hn : 0 ≤ n) (hmn : m + n ≤ 31) (h : ∀ p, dn o L 0 p = dn a l m.toNat p) {r : Int × List Int × Option Int} (hr : Res o L n r) : Res a l (m + n) r := by
  have e : ∀ q, dn o L n.toNat q = dn a l (m + n).toNat q := fun q => by rw [dn_dn h, show (m + n).toNat = m.toNat + n.toNat by omega]
  unfold Res at hr ⊢
  simp only [e] at hr
  rcases hr with ⟨h1, h2, h3, h4⟩ | ⟨h1, h2 | h2⟩
  · exact .inl ⟨h1, by omega, by omega, h4⟩
  · omega
  · exact .inr ⟨h1, .inr h2⟩
end Go.Proofs.YtcmghblegllmlaaDoor.Dn
