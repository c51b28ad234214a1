/- What the program's functions on sides answer. -/
import Derived.Test.YtcmghblegllmlaaDoorPMergex2
import Derived.Test.YtcmghblegllmlaaDoorDn
namespace Go.Proofs.YtcmghblegllmlaaDoor.Dn
open Go.RowKit Go.Proofs.YtcmghblegllmlaaDoorW.PrintWords Go.Proofs.YtcmghblegllmlaaDoorW.PrintLast Go.Proofs.YtcmghblegllmlaaDoorW.PrintMore Go.Proofs.YtcmghblegllmlaaDoor.PMerge
set_option linter.unusedSimpArgs false
set_option linter.unusedVariables false

theorem w64 (n : Int) (h1 : -9223372036854775808 ≤ n) (h2 : n ≤ 9223372036854775807) : wrap64 n = n := by unfold wrap64; omega
theorem dn_cons0 (a : Int) (l : List Int) (b : Nat) (p : Int) : dn a (0 :: l) b p = dn (a + 1) l b p := by
  unfold dn; simp [S]
theorem dn_snoc (a : Int) (l : List Int) (x : Int) (b : Nat) (p : Int) : dn a (l ++ [x]) b p = dn a l b p + (if (a + l.length) / 2 ^ b = p then x else 0) := by
  unfold dn; rw [S_append]; simp [S]
theorem take_succ {l : List Int} {n : Nat} (h : n < l.length) : l.take (n + 1) = l.take n ++ [l.getD n 0] := by
  rw [List.take_add_one, List.getElem?_eq_getElem h]; simp [List.getD, h]

theorem div_lo {x M : Int} (hM : 0 ≤ M) (h : -M ≤ x) (b : Nat) : -M ≤ x / 2 ^ b := by
  have hp : (1 : Int) ≤ 2 ^ b := by have := Int.pow_pos (n := (2 : Int)) (m := b) (by omega); omega
  rw [Int.le_ediv_iff_mul_le (by omega), Int.neg_mul]
  have := Int.mul_le_mul_of_nonneg_left hp hM
  omega
theorem div_hi {x M : Int} (hM : 0 ≤ M) (h : x ≤ M) (b : Nat) : x / 2 ^ b ≤ M := by
  have hp : (1 : Int) ≤ 2 ^ b := by have := Int.pow_pos (n := (2 : Int)) (m := b) (by omega); omega
  have : x / 2 ^ b < M + 1 := by
    rw [Int.ediv_lt_iff_lt_mul (by omega)]
    have := Int.mul_le_mul_of_nonneg_left hp (show (0 : Int) ≤ M + 1 by omega)
    omega
  omega

/-- what trimming keeps of a side -/
def Kept0 (a : Int) (l : List Int) (r : Int × List Int) : Prop :=
  Tr r.1 r.2 ∧ (∀ p, dn r.1 r.2 0 p = dn a l 0 p) ∧ (∀ x ∈ r.2, x ∈ l) ∧ r.2.length ≤ l.length ∧ (r.2 = [] ∨ (a ≤ r.1 ∧ r.1 + r.2.length ≤ a + l.length))

theorem l1_spec (l : List Int) : ∀ a : Int, -1099511627776 ≤ a → a + l.length ≤ 1099511627776 → (l = [] ∨ l.getD (l.length - 1) 0 ≠ 0) →
    ∃ r, (∀ k, l.length + 1 ≤ k → merge_side_trimmed.l1 k a l = some r) ∧ Kept0 a l r := by
  induction l with
  | nil =>
    intro a _ _ _
    refine ⟨(0, []), fun k hk => ?_, .inl ⟨rfl, rfl⟩, fun p => by simp [dn, S], by simp, by simp, .inl rfl⟩
    obtain ⟨k, rfl⟩ : ∃ j, k = j + 1 := ⟨k - 1, by omega⟩
    simp [merge_side_trimmed.l1]
  | cons x l ih =>
    intro a h1 h2 hl
    simp only [List.length_cons] at h2
    have hlast : (x :: l).getD ((x :: l).length - 1) 0 ≠ 0 := by rcases hl with h | h; cases h; exact h
    by_cases hx : x = 0
    · subst hx
      obtain ⟨r, e1, g1, g2, g3, g4, g5⟩ := ih (a + 1) (by omega) (by omega) (by
        cases l with
        | nil => exact .inl rfl
        | cons y l => right; simpa using hlast)
      refine ⟨r, fun k hk => ?_, g1, fun p => (g2 p).trans (dn_cons0 a l 0 p).symm, fun y hy => List.mem_cons_of_mem _ (g3 y hy), by simp; omega, ?_⟩
      · obtain ⟨k, rfl⟩ : ∃ j, k = j + 1 := ⟨k - 1, by omega⟩
        have e := e1 k (by simp at hk; omega)
        unfold merge_side_trimmed.l1
        rw [if_pos (show (((0 :: l).length : Nat) : Int) > 0 by simp only [List.length_cons]; omega), if_pos (show (0 : Int) < (((0 :: l).length : Nat) : Int) by simp only [List.length_cons]; omega), if_pos (by simp [rd]), if_pos (show (1 : Int) ≤ (((0 :: l).length : Nat) : Int) by simp; omega), w64 _ (by omega) (by omega)]
        exact e
      · rcases g5 with h | h
        · exact .inl h
        · right; simp; omega
    · refine ⟨(a, x :: l), fun k hk => ?_, .inr ⟨by simp, by simpa using hx, hlast⟩, fun p => rfl, fun y hy => hy, Nat.le_refl _, .inr ⟨by simp, by simp⟩⟩
      obtain ⟨k, rfl⟩ : ∃ j, k = j + 1 := ⟨k - 1, by omega⟩
      unfold merge_side_trimmed.l1
      rw [if_pos (show (((x :: l).length : Nat) : Int) > 0 by simp only [List.length_cons]; omega), if_pos (show (0 : Int) < (((x :: l).length : Nat) : Int) by simp only [List.length_cons]; omega), if_neg (by simpa [rd] using hx), if_neg (by simp; omega)]

theorem l0_spec : ∀ (n : Nat) (l : List Int) (a : Int), l.length = n → -1099511627776 ≤ a → a + l.length ≤ 1099511627776 →
    ∃ r, (∀ k, 2 * n + 3 ≤ k → merge_side_trimmed.l0 k a l = some r) ∧ Kept0 a l r := by
  intro n
  induction n with
  | zero =>
    intro l a hl h1 h2
    obtain rfl : l = [] := List.length_eq_zero_iff.mp hl
    obtain ⟨r, e, g⟩ := l1_spec [] a h1 h2 (.inl rfl)
    refine ⟨r, fun k hk => ?_, g⟩
    obtain ⟨k, rfl⟩ : ∃ j, k = j + 2 := ⟨k - 2, by omega⟩
    have := e k (by simp; omega)
    simp [merge_side_trimmed.l0, merge_side_trimmed.j1, this]
  | succ n ih =>
    intro l a hl h1 h2
    have hw : wrap64 ((l.length : Int) - 1) = n := by rw [w64 _ (by omega) (by omega)]; omega
    by_cases hx : l.getD n 0 = 0
    · have hs := take_succ (l := l) (n := n) (by omega)
      rw [List.take_of_length_le (by omega), hx] at hs
      have hlen : (l.take n).length = n := by simp; omega
      obtain ⟨r, e1, g1, g2, g3, g4, g5⟩ := ih (l.take n) a hlen h1 (by omega)
      refine ⟨r, fun k hk => ?_, g1, fun p => (g2 p).trans ?_, fun y hy => List.mem_of_mem_take (g3 y hy), by omega, ?_⟩
      · obtain ⟨k, rfl⟩ : ∃ j, k = j + 1 := ⟨k - 1, by omega⟩
        unfold merge_side_trimmed.l0
        rw [hw, if_pos (by omega), if_pos (by omega), if_pos (by omega), if_pos (by simpa [rd] using hx), if_pos (by omega)]
        exact e1 k (by omega)
      · conv => rhs; rw [hs]
        rw [dn_snoc]; simp
      · rcases g5 with h | h
        · exact .inl h
        · right; omega
    · obtain ⟨r, e, g⟩ := l1_spec l a h1 h2 (.inr (by rw [show l.length - 1 = n by omega]; exact hx))
      refine ⟨r, fun k hk => ?_, g⟩
      obtain ⟨k, rfl⟩ : ∃ j, k = j + 2 := ⟨k - 2, by omega⟩
      unfold merge_side_trimmed.l0
      rw [hw, if_pos (by omega), if_pos (by omega), if_pos (by omega), if_neg (by simpa [rd] using hx)]
      unfold merge_side_trimmed.j1
      exact e k (by omega)

theorem trimmed_spec (a : Int) (l : List Int) (h1 : -1099511627776 ≤ a) (h2 : a + l.length ≤ 1099511627776) :
    ∃ r, (∀ k, 2 * l.length + 3 ≤ k → merge_side_trimmed.f k a l = some r) ∧ Kept0 a l r := l0_spec l.length l a rfl h1 h2

/-- a side that is trimmed already stays -/
theorem trimmed_same (a : Int) (l : List Int) (ht : Tr a l) (h1 : -1099511627776 ≤ a) (h2 : a + l.length ≤ 1099511627776) (k : Nat) (hk : 2 * l.length + 3 ≤ k) : merge_side_trimmed.f k a l = some (a, l) := by
  obtain ⟨r, e, g1, g2, _⟩ := trimmed_spec a l h1 h2
  rw [e k hk]
  have := Tr.ext g1 ht (fun p => (g2 p).symm)
  rw [this.1, this.2]

def U64 (l : List Int) : Prop := ∀ x ∈ l, 0 ≤ x ∧ x < 18446744073709551616
theorem U64.pos {l : List Int} (h : U64 l) : Pos l := fun x hx => (h x hx).1
theorem U64.getD {l : List Int} (h : U64 l) (i : Nat) : 0 ≤ l.getD i 0 ∧ l.getD i 0 < 18446744073709551616 := by
  by_cases hi : i < l.length
  · have : l.getD i 0 = l[i] := by simp [List.getD, hi]
    rw [this]; exact h _ (List.getElem_mem hi)
  · have : l.getD i 0 = 0 := by simp [List.getD, hi]
    rw [this]; omega

theorem plus_true (a x : Int) : merge_count_plus.f true a x = some (IntKind.u64.wrap (a + x), true) := rfl
theorem plus_false (a x : Int) (ha : 0 ≤ a ∧ a < 18446744073709551616) (hx : 0 ≤ x ∧ x < 18446744073709551616) :
    merge_count_plus.f false a x = some (if a + x < 18446744073709551616 then a + x else a + x - 18446744073709551616, decide (18446744073709551616 ≤ a + x)) := by
  have hw : IntKind.u64.wrap (a + x) = if a + x < 18446744073709551616 then a + x else a + x - 18446744073709551616 := by
    rw [IntKind.wrap_u64]; split <;> omega
  unfold merge_count_plus.f
  rw [if_neg (by decide), hw]
  congr 2
  by_cases h : a + x < 18446744073709551616
  · rw [if_pos h, decide_eq_false (by omega), decide_eq_false (by omega)]
  · rw [if_neg h, decide_eq_true (by omega), decide_eq_true (by omega)]

theorem getD_set (l : List Int) (i j : Nat) (x : Int) (hi : i < l.length) : (l.set i x).getD j 0 = if i = j then x else l.getD j 0 := by
  simp only [List.getD, List.getElem?_set]
  split
  · rename_i h; subst h; simp [hi]
  · rfl

theorem down_loop (f s : Int) (t : List Int) (b : Nat) (m : Nat) (hu : U64 t) (hf1 : -1099511627776 ≤ f) (hf2 : f + t.length ≤ 1099511627776) (hb : b ≤ 31) (hs : s = f / 2 ^ b) (hm : t.length ≠ 0 → s + m = (f + t.length - 1) / 2 ^ b + 1) :
    ∀ (n i : Nat) (out : List Int) (bad : Bool), i + n = t.length → out.length = m →
      (bad = true → ∃ p, 18446744073709551616 ≤ dn f (t.take i) b p) →
      (bad = false → (∀ j, j < m → out.getD j 0 = dn f (t.take i) b (s + j)) ∧ ∀ p, dn f (t.take i) b p < 18446744073709551616) →
      ∃ out' bad', (∀ k, n + 1 ≤ k → merge_count_down.l0 k (b : Int) t (t.length : Int) (i : Int) bad f t s out = some (s, out', bad')) ∧ out'.length = m ∧
        (bad' = true → ∃ p, 18446744073709551616 ≤ dn f t b p) ∧ (bad' = false → (∀ j, j < m → out'.getD j 0 = dn f t b (s + j)) ∧ ∀ p, dn f t b p < 18446744073709551616) := by
  intro n
  induction n with
  | zero =>
    intro i out bad hi ho h1 h2
    rw [show i = t.length by omega, List.take_length] at h1 h2
    refine ⟨out, bad, fun k hk => ?_, ho, h1, h2⟩
    obtain ⟨k, rfl⟩ : ∃ j, k = j + 1 := ⟨k - 1, by omega⟩
    unfold merge_count_down.l0
    rw [if_neg (by omega)]
  | succ n ih =>
    intro i out bad hi ho h1 h2
    have hne : t.length ≠ 0 := by omega
    have hm' := hm hne
    have d1 := div_mono (show f ≤ f + (i : Int) by omega) b
    have d2 := div_mono (show f + (i : Int) ≤ f + t.length - 1 by omega) b
    have q1 := div_lo (M := 1099511627776) (by omega) (show -1099511627776 ≤ f + (i : Int) by omega) b
    have q2 := div_hi (M := 1099511627776) (by omega) (show f + (i : Int) ≤ 1099511627776 by omega) b
    have q3 := div_lo (M := 1099511627776) (by omega) hf1 b
    rw [← hs] at q3
    obtain ⟨j, hj⟩ : ∃ j : Nat, (f + (i : Int)) / 2 ^ b = s + j := ⟨((f + (i : Int)) / 2 ^ b - s).toNat, by omega⟩
    have hjm : j < m := by omega
    have hx := hu.getD i
    have hk0 : shr .i64 (wrap64 (f + (i : Int))) (b : Int) = s + j := by
      rw [w64 _ (by omega) (by omega)]
      unfold shr
      rw [show min ((b : Int).toNat) IntKind.i64.bits = b from Nat.min_eq_left (by rw [show IntKind.i64.bits = 64 from rfl]; omega)]
      exact hj
    have hk1 : wrap64 (s + (j : Int) - s) = j := by rw [w64 _ (by omega) (by omega)]; omega
    have htk : ∀ p, dn f (t.take (i + 1)) b p = dn f (t.take i) b p + (if s + (j : Int) = p then t.getD i 0 else 0) := by
      intro p
      rw [take_succ (by omega), dn_snoc, show ((t.take i).length : Int) = i by simp; omega, hj]
    have step : ∀ (v : Int) (bad2 : Bool), merge_count_plus.f bad (out.getD j 0) (t.getD i 0) = some (v, bad2) →
        ∀ k, merge_count_down.l0 (k + 1) (b : Int) t (t.length : Int) (i : Int) bad f t s out = merge_count_down.l0 k (b : Int) t (t.length : Int) ((i + 1 : Nat) : Int) bad2 f t s (out.set j v) := by
      intro v bad2 hv k
      rw [merge_count_down.l0, hk0, hk1]
      rw [if_pos (by omega), if_pos (by omega), if_pos (by omega), if_pos (by omega), if_pos (by omega), if_pos (by omega)]
      simp only [rd, Int.toNat_natCast, hv, Option.bind_some]
      rw [w64 _ (by omega) (by omega)]; rfl
    cases hbad : bad with
    | true =>
      subst hbad
      obtain ⟨p, hp1⟩ := h1 rfl
      obtain ⟨out', bad', e, g⟩ := ih (i + 1) (out.set j (IntKind.u64.wrap (out.getD j 0 + t.getD i 0))) true (by omega) (by simp [ho]) (fun _ => ⟨p, by rw [htk]; split <;> omega⟩) (fun h => by cases h)
      refine ⟨out', bad', fun k hk => ?_, g⟩
      obtain ⟨k, rfl⟩ : ∃ j, k = j + 1 := ⟨k - 1, by omega⟩
      rw [step _ true (plus_true _ _)]
      exact e k (by omega)
    | false =>
      subst hbad
      obtain ⟨c1, c2⟩ := h2 rfl
      have hD := c1 j hjm
      have hDp := S_nonneg (l := t.take i) (fun x hx => (hu x (List.mem_of_mem_take hx)).1) f (fun t => t / 2 ^ b == s + j)
      have hDu := c2 (s + j)
      have hpl := plus_false (out.getD j 0) (t.getD i 0) (by rw [hD]; exact ⟨hDp, hDu⟩) hx
      rw [hD] at hpl
      by_cases hov : dn f (t.take i) b (s + j) + t.getD i 0 < 18446744073709551616
      · rw [if_pos hov, decide_eq_false (by omega)] at hpl
        obtain ⟨out', bad', e, g⟩ := ih (i + 1) (out.set j (dn f (t.take i) b (s + j) + t.getD i 0)) false (by omega) (by simp [ho]) (fun h => by cases h) (fun _ => ⟨fun j' hj' => by
            rw [getD_set _ _ _ _ (by omega), htk]
            by_cases hjj : j = j'
            · subst hjj; rw [if_pos rfl, if_pos rfl]
            · rw [if_neg hjj, if_neg (by omega), c1 j' hj']; omega, fun p => by
            rw [htk]
            have := c2 p
            by_cases hpp : s + (j : Int) = p
            · rw [if_pos hpp, ← hpp]; exact hov
            · rw [if_neg hpp]; omega⟩)
        refine ⟨out', bad', fun k hk => ?_, g⟩
        obtain ⟨k, rfl⟩ : ∃ j, k = j + 1 := ⟨k - 1, by omega⟩
        rw [step _ false (by rw [hD]; exact hpl)]
        exact e k (by omega)
      · rw [if_neg hov, decide_eq_true (by omega)] at hpl
        obtain ⟨out', bad', e, g⟩ := ih (i + 1) (out.set j (dn f (t.take i) b (s + j) + t.getD i 0 - 18446744073709551616)) true (by omega) (by simp [ho]) (fun _ => ⟨s + j, by rw [htk, if_pos rfl]; omega⟩) (fun h => by cases h)
        refine ⟨out', bad', fun k hk => ?_, g⟩
        obtain ⟨k, rfl⟩ : ∃ j, k = j + 1 := ⟨k - 1, by omega⟩
        rw [step _ true (by rw [hD]; exact hpl)]
        exact e k (by omega)

theorem div_add_le (x d : Int) (hd : 0 ≤ d) (b : Nat) : (x + d) / 2 ^ b ≤ x / 2 ^ b + d := by
  have hp : (1 : Int) ≤ 2 ^ b := by have := Int.pow_pos (n := (2 : Int)) (m := b) (by omega); omega
  rw [← Int.add_mul_ediv_right x d (by omega : (2 : Int) ^ b ≠ 0)]
  apply Int.ediv_le_ediv (by omega)
  have := Int.mul_le_mul_of_nonneg_left hp hd
  omega
theorem shr_eq (x : Int) (b : Nat) (hb : b ≤ 31) : shr .i64 x (b : Int) = x / 2 ^ b := by
  unfold shr
  rw [show min ((b : Int).toNat) IntKind.i64.bits = b from Nat.min_eq_left (by rw [show IntKind.i64.bits = 64 from rfl]; omega)]
theorem dn_out (a : Int) (l : List Int) (b : Nat) (p : Int) (h : p < a / 2 ^ b ∨ (a + l.length - 1) / 2 ^ b < p) : dn a l b p = 0 := by
  unfold dn
  apply S_zero
  intro i hi hg
  have := beq_iff_eq.mp hg
  have d1 := div_mono (show a ≤ a + (i : Int) by omega) b
  have d2 := div_mono (show a + (i : Int) ≤ a + l.length - 1 by omega) b
  omega
theorem dn_at {l : List Int} (h : Pos l) (a : Int) (b : Nat) (i : Nat) (hi : i < l.length) : l.getD i 0 ≤ dn a l b ((a + i) / 2 ^ b) :=
  S_ge h i hi (by simp)

/-- count.down, without counts that are too many ahead -/
theorem down_spec (a : Int) (l : List Int) (b : Nat) (hu : U64 l) (h1 : -2147483648 ≤ a) (h2 : a ≤ 2147483647) (hl : l.length ≤ 100000) (hb : b ≤ 31) :
    ∃ s1 s2 bad, (∀ k, 3 * l.length + 10 ≤ k → merge_count_down.f k false a l (b : Int) = some (s1, s2, bad)) ∧ (bad = true → ∃ p, 18446744073709551616 ≤ dn a l b p) ∧
      (bad = false → Tr s1 s2 ∧ (∀ p, dn s1 s2 0 p = dn a l b p) ∧ (∀ p, dn a l b p < 18446744073709551616) ∧ U64 s2) ∧ s2.length ≤ l.length ∧ -2147483648 ≤ s1 ∧ s1 ≤ 2147583647 := by
  obtain ⟨⟨f, t⟩, e, g1, g2, g3, g4, g5⟩ := trimmed_spec a l (by omega) (by omega)
  simp only at g1 g2 g3 g4 g5
  have hu' : U64 t := fun x hx => hu x (g3 x hx)
  have hdd : ∀ q, dn f t b q = dn a l b q := fun q => by have := dn_dn g2 b q; rwa [Nat.zero_add] at this
  by_cases ht : t.length = 0
  · have htn : t = [] := List.length_eq_zero_iff.mp ht
    have hf : f = 0 := by rcases g1 with ⟨_, h⟩ | ⟨h, _⟩; exact h; omega
    refine ⟨f, t, false, fun k hk => ?_, (fun h => by cases h), fun _ => ⟨g1, fun p => ?_, fun p => ?_, hu'⟩, g4, by omega, by omega⟩
    · unfold merge_count_down.f
      rw [e k (by omega)]
      simp [htn]
    · rw [← hdd, htn]; simp [dn, S]
    · rw [← hdd, htn]; simp [dn, S]
  · rcases g5 with h | ⟨g5, g6⟩
    · exact absurd (by rw [h]; rfl) ht
    have d1 := div_mono (show f ≤ f + t.length - 1 by omega) b
    have d2 := div_add_le f (t.length - 1) (by omega) b
    rw [show f + ((t.length : Int) - 1) = f + t.length - 1 by omega] at d2
    have q1 := div_lo (M := 2147483648) (by omega) (show -2147483648 ≤ f by omega) b
    have q2 := div_hi (M := 2147583647) (by omega) (show f + (t.length : Int) - 1 ≤ 2147583647 by omega) b
    obtain ⟨m, hm⟩ : ∃ m : Nat, f / 2 ^ b + m = (f + t.length - 1) / 2 ^ b + 1 := ⟨((f + t.length - 1) / 2 ^ b + 1 - f / 2 ^ b).toNat, by omega⟩
    obtain ⟨out, bad, e2, o1, o2, o3⟩ := down_loop f (f / 2 ^ b) t b m hu' (by omega) (by omega) hb rfl (fun _ => hm) t.length 0 (List.replicate m 0) false (by omega) (by simp) (fun h => by cases h) (fun _ => ⟨fun j hj => by simp [dn, S, List.getD, hj], fun p => by simp [dn, S]⟩)
    refine ⟨f / 2 ^ b, out, bad, fun k hk => ?_, fun h => ?_, fun h => ?_, by omega, by omega, by omega⟩
    · unfold merge_count_down.f
      rw [e k (by omega)]
      simp only [Option.bind_some]
      rw [if_neg (by omega), if_pos (by omega)]
      simp only [merge_side_end.f, Option.bind_some]
      rw [w64 (f + _) (by omega) (by omega), w64 (f + _ - 1) (by omega) (by omega), shr_eq _ _ hb, shr_eq _ _ hb, w64 ((f + (t.length : Int) - 1) / 2 ^ b - f / 2 ^ b) (by omega) (by omega), w64 ((f + (t.length : Int) - 1) / 2 ^ b - f / 2 ^ b + 1) (by omega) (by omega)]
      rw [show ((f + (t.length : Int) - 1) / 2 ^ b - f / 2 ^ b + 1) = (m : Int) by omega, if_pos (by omega), if_pos (by simp; omega), Int.toNat_natCast]
      exact e2 k (by omega)
    · obtain ⟨p, hp⟩ := o2 h; exact ⟨p, by rw [← hdd]; exact hp⟩
    · obtain ⟨o3, o4⟩ := o3 h
      rcases g1 with ⟨hh, _⟩ | ⟨k1, k2, k3⟩
      · exact absurd (by rw [hh]; rfl) ht
      have z1 := hu'.getD 0
      have z2 := hu'.getD (t.length - 1)
      have z3 := dn_at hu'.pos f b 0 (by omega)
      have z4 := dn_at hu'.pos f b (t.length - 1) (by omega)
      rw [Int.natCast_zero, Int.add_zero] at z3
      rw [show f + ((t.length - 1 : Nat) : Int) = f + t.length - 1 by omega] at z4
      have w1 := o3 0 (by omega)
      have w2 := o3 (m - 1) (by omega)
      rw [Int.natCast_zero, Int.add_zero] at w1
      rw [show f / 2 ^ b + ((m - 1 : Nat) : Int) = (f + t.length - 1) / 2 ^ b by omega] at w2
      refine ⟨.inr ⟨by omega, by omega, by rw [o1]; omega⟩, fun p => ?_, fun p => by rw [← hdd]; exact o4 p, fun x hx => ?_⟩
      · rw [dn0, ← hdd]
        by_cases hc : f / 2 ^ b ≤ p ∧ p < f / 2 ^ b + (out.length : Int)
        · rw [if_pos hc, o3 _ (by omega)]; congr 1; omega
        · rw [if_neg hc, dn_out]; omega
      · obtain ⟨i, hi, rfl⟩ := List.getElem_of_mem hx
        have := o3 i (by omega)
        rw [List.getD, List.getElem?_eq_getElem hi] at this
        simp only [Option.getD_some] at this
        rw [this]
        exact ⟨S_nonneg hu'.pos _ _, o4 _⟩
end Go.Proofs.YtcmghblegllmlaaDoor.Dn
