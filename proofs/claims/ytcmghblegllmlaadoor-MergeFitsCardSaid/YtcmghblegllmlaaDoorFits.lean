/- The law MergeFits answers true at any input. Conditions: the input reads as data of the row's types, and errors.errorType is laid as the program's text lays it. -/
import Derived.Test.YtcmghblegllmlaaDoorCon4
import Derived.Test.YtcmghblegllmlaaDoorOpening
set_option linter.unusedVariables false
set_option linter.unusedSimpArgs false
/-! Plain: what is fitted fits, and stays as it is. -/
namespace Sx
open Go Go.Proofs
set_option linter.unusedVariables false
set_option maxRecDepth 30000
/-- no zeros at the ends -/
def Tight (s : Int × List Int) : Prop := s = (0, []) ∨ s.2 ≠ [] ∧ s.2.getD 0 0 ≠ 0 ∧ s.2.getD (s.2.length - 1) 0 ≠ 0
def R64 (l : List Int) : Prop := ∀ x ∈ l, 0 ≤ x ∧ x < 18446744073709551616
theorem trim_tight {f : Int} {l : List Int} (h1 : -4611686018427387904 ≤ f) (h2 : f + l.length ≤ 4611686018427387904) : Tight (trim f l) := by
  rcases trim_spec l f h1 h2 with ⟨h, _⟩ | ⟨k, m, c, h, h3, h4, h5, _⟩
  · exact .inl h
  · rw [h]; exact .inr ⟨h3, h4, h5⟩
theorem rtrim_id : ∀ {l : List Int}, l.getD (l.length - 1) 0 ≠ 0 → rtrim l = l
  | [], _ => rfl
  | [a], h => by
    have h : a ≠ 0 := h
    simp [rtrim, h]
  | a :: b :: r, h => by
    have e : rtrim (b :: r) = b :: r := rtrim_id (by simpa using h)
    rw [rtrim, e]
theorem ltrim_id {f : Int} {l : List Int} (h : l.getD 0 0 ≠ 0) : ltrim f l = (f, l) := by
  cases l with
  | nil => simp at h
  | cons a l =>
    have h : a ≠ 0 := h
    rw [ltrim, if_neg h]
theorem trim_id {f : Int} {l : List Int} (h : Tight (f, l)) : trim f l = (f, l) := by
  rcases h with h | ⟨_, h2, h3⟩
  · obtain ⟨rfl, rfl⟩ := Prod.mk.inj h; rfl
  · unfold trim
    rw [rtrim_id h3, ltrim_id h2]
theorem rtrim_mem {x : Int} : ∀ {l : List Int}, x ∈ rtrim l → x ∈ l
  | [], h => h
  | a :: l, h => by
    rw [rtrim] at h
    split at h
    · split at h
      · cases h
      · rcases List.mem_cons.1 h with rfl | h
        · exact List.mem_cons_self
        · cases h
    · rcases List.mem_cons.1 h with rfl | h
      · exact List.mem_cons_self
      · exact List.mem_cons_of_mem _ (rtrim_mem h)
theorem ltrim_mem {x : Int} : ∀ {l : List Int} {f : Int}, x ∈ (ltrim f l).2 → x ∈ l
  | [], _, h => h
  | a :: l, f, h => by
    rw [ltrim] at h
    split at h
    · exact List.mem_cons_of_mem _ (ltrim_mem h)
    · exact h
theorem trim_mem {x f : Int} {l : List Int} (h : x ∈ (trim f l).2) : x ∈ l := rtrim_mem (ltrim_mem h)
theorem x64_r (n : Int) : 0 ≤ x64 n ∧ x64 n < 18446744073709551616 := by
  show 0 ≤ IntKind.u64.wrap n ∧ IntKind.u64.wrap n < 18446744073709551616
  rw [IntKind.wrap_u64]; omega
theorem x64_eq {n : Int} (h : 0 ≤ n ∧ n < 18446744073709551616) : x64 n = n := by
  show IntKind.u64.wrap n = n
  rw [IntKind.wrap_u64]; omega
theorem w32_eq {n : Int} (h : -2147483648 ≤ n ∧ n < 2147483648) : w32 n = n := by
  show IntKind.i32.wrap n = n
  rw [IntKind.wrap_i32]; omega
theorem downGo_r (f : Int) (n : Nat) : ∀ (l : List Int) (i : Nat) (c : List Int) (bad : Bool), R64 c → R64 (downGo f n i l c bad).1
  | [], _, _, _, h => h
  | x :: l, i, c, bad, h => by
    rw [downGo]
    refine downGo_r f n l _ _ _ fun y hy => ?_
    rcases List.mem_or_eq_of_mem_set hy with hy | rfl
    · exact h y hy
    · exact x64_r _
theorem downL_r (f : Int) (l : List Int) (n : Nat) (bad : Bool) : R64 (downL f l n bad).2.1 := by
  unfold downL
  split
  · intro x hx; cases hx
  · refine downGo_r _ _ _ _ _ _ fun x hx => ?_
    rw [(List.mem_replicate.1 hx).2]; decide
theorem shr_zero (a : Int) : shr a 0 = a := by rw [shr_ediv]; simp
theorem downGo_zero (g : Int) : ∀ (l pre : List Int), R64 l → downGo g 0 pre.length l (pre ++ List.replicate l.length 0) false = (pre ++ l, false)
  | [], pre, _ => by rw [downGo]; simp
  | x :: l, pre, h => by
    have hx := h x List.mem_cons_self
    have hp : place g 0 pre.length = pre.length := by
      unfold place
      rw [shr_zero, shr_zero]; omega
    have hg : (pre ++ List.replicate (x :: l).length 0).getD pre.length (0 : Int) = 0 := by
      rw [List.getD_eq_getElem?_getD, List.getElem?_append_right (Nat.le_refl _)]
      simp [List.length_cons, List.replicate_succ]
    have hs : (pre ++ List.replicate (x :: l).length (0 : Int)).set pre.length x = (pre ++ [x]) ++ List.replicate l.length 0 := by
      rw [List.set_append_right _ _ (Nat.le_refl _)]
      simp [List.length_cons, List.replicate_succ]
    rw [downGo, hp, hg, Int.zero_add, x64_eq hx, hs]
    have hd : (false || decide (x < (0 : Int))) = false := by simp; omega
    rw [hd]
    have := downGo_zero g l (pre ++ [x]) fun y hy => h y (List.mem_cons_of_mem _ hy)
    simp only [List.length_append, List.length_cons, List.length_nil, Nat.zero_add] at this
    rw [this]
    simp
theorem downL_zero {f : Int} {l : List Int} (h : Tight (f, l)) (hr : R64 l) : downL f l 0 false = (f, l, false) := by
  unfold downL
  rw [trim_id h]
  cases l with
  | nil =>
    rcases h with h | ⟨h, _⟩
    · obtain ⟨rfl, _⟩ := Prod.mk.inj h; rfl
    · exact absurd rfl h
  | cons a r =>
    have hw : (wideS f (a :: r) 0).toNat = (a :: r).length := by
      unfold wideS
      rw [shr_zero, shr_zero]; omega
    have := downGo_zero f (a :: r) [] hr
    simp only [List.length_nil, List.nil_append] at this
    simp only
    rw [shr_zero, hw, this]
theorem shGo_spec {p1 p2 n1 n2 : Int × List Int} {most : Int} {r : Int × Int × Int} : ∀ {k : Nat} {x y s : Int} {d : Nat}, shGo p1 p2 n1 n2 most k x y s d = some r →
    ∃ j : Nat, j < k ∧ r = (x + j, y + j, s - j) ∧ 1 ≤ most ∧ most ≤ 320 ∧ x + j ≤ 31 ∧ y + j ≤ 31 ∧ (0 < d + j → -10 ≤ s - j) ∧
      wideV p1 p2 (x + j).toNat (y + j).toNat ≤ most ∧ wideV n1 n2 (x + j).toNat (y + j).toNat ≤ most ∧
      ∀ i : Nat, i < j → ¬ (wideV p1 p2 (x + i).toNat (y + i).toNat ≤ most ∧ wideV n1 n2 (x + i).toNat (y + i).toNat ≤ most)
  | 0, _, _, _, _, h => by cases h
  | k + 1, x, y, s, d, h => by
    rw [shGo] at h
    by_cases h1 : most < 1 ∨ most > 320 ∨ (if y > x then y else x) > 31 ∨ (0 < d ∧ s < -10)
    · rw [if_pos h1] at h; cases h
    · rw [if_neg h1] at h
      have h1' : 1 ≤ most ∧ most ≤ 320 ∧ x ≤ 31 ∧ y ≤ 31 ∧ (0 < d → -10 ≤ s) := by
        refine ⟨by omega, by omega, ?_, ?_, by omega⟩
        · have : ¬ (if y > x then y else x) > 31 := fun h => h1 (.inr (.inr (.inl h)))
          split at this <;> omega
        · have : ¬ (if y > x then y else x) > 31 := fun h => h1 (.inr (.inr (.inl h)))
          split at this <;> omega
      obtain ⟨a1, a2, a3, a4, a5⟩ := h1'
      by_cases h2 : wideV p1 p2 x.toNat y.toNat ≤ most ∧ wideV n1 n2 x.toNat y.toNat ≤ most
      · rw [if_pos h2] at h
        cases h
        exact ⟨0, by omega, by simp, a1, a2, by omega, by omega, by simpa using a5, by simpa using h2.1, by simpa using h2.2, fun i hi => by omega⟩
      · rw [if_neg h2] at h
        obtain ⟨j, b1, b2, _, _, b5, b6, b7, b8, b9, b10⟩ := shGo_spec h
        have ex : x + 1 + (j : Int) = x + ((j + 1 : Nat) : Int) := by omega
        have ey : y + 1 + (j : Int) = y + ((j + 1 : Nat) : Int) := by omega
        have es : s - 1 - (j : Int) = s - ((j + 1 : Nat) : Int) := by omega
        rw [ex, ey] at b8 b9
        refine ⟨j + 1, by omega, by rw [b2, ex, ey, es], a1, a2, by omega, by omega, fun _ => by have := b7 (by omega); omega, b8, b9, fun i hi => ?_⟩
        cases i with
        | zero => simpa using h2
        | succ i =>
          have := b10 i (by omega)
          have ex : x + 1 + (i : Int) = x + ((i + 1 : Nat) : Int) := by omega
          have ey : y + 1 + (i : Int) = y + ((i + 1 : Nat) : Int) := by omega
          rwa [ex, ey] at this
/-- a point that was fitted -/
structure Fitted (y : ExpD) (most : Int) : Prop where
  m1 : 1 ≤ most
  m2 : most ≤ 320
  lP : (y.cP.length : Int) ≤ most
  lN : (y.cN.length : Int) ≤ most
  tP : Tight (y.offP, y.cP)
  tN : Tight (y.offN, y.cN)
  rP : R64 y.cP
  rN : R64 y.cN
  oP : -2147483648 ≤ y.offP ∧ y.offP < 2147483648
  oN : -2147483648 ≤ y.offN ∧ y.offN < 2147483648
  sc : -2147483648 ≤ y.scale ∧ y.scale < 2147483648
  uP : y.unkP = nos
  uN : y.unkN = nos
  hP : y.hasP = false → y.offP = 0 ∧ y.cP = []
  hN : y.hasN = false → y.offN = 0 ∧ y.cN = []
theorem Fitted.fits {y : ExpD} {most : Int} (h : Fitted y most) : Fits y := by
  have := h.m2; have := h.lP; have := h.lN
  exact ⟨by omega, by omega, h.oP.1, h.oP.2, h.oN.1, h.oN.2, h.sc.1, h.sc.2⟩
theorem Fitted.rawP {y : ExpD} {most : Int} (h : Fitted y most) : rawP y 0 false = (y.offP, y.cP, false) := by
  unfold Sx.rawP
  have ho := h.oP
  cases hh : y.hasP with
  | false => obtain ⟨h1, h2⟩ := h.hP hh; rw [h1, h2]; rfl
  | true =>
    simp only [cond_true]
    rw [w64_eq (by omega)]
    exact downL_zero h.tP h.rP
theorem Fitted.rawN {y : ExpD} {most : Int} (h : Fitted y most) : rawN y 0 false = (y.offN, y.cN, false) := by
  unfold Sx.rawN
  have ho := h.oN
  cases hh : y.hasN with
  | false => obtain ⟨h1, h2⟩ := h.hN hh; rw [h1, h2]; rfl
  | true =>
    simp only [cond_true]
    rw [w64_eq (by omega)]
    exact downL_zero h.tN h.rN
theorem Fitted.sdP {y : ExpD} {most : Int} (h : Fitted y most) : sdP y = (y.offP, y.cP) := by
  unfold Sx.sdP
  have ho := h.oP
  cases hh : y.hasP with
  | false => obtain ⟨h1, h2⟩ := h.hP hh; rw [h1, h2]; rfl
  | true =>
    simp only [cond_true]
    rw [w64_eq (by omega)]
    exact trim_id h.tP
theorem Fitted.sdN {y : ExpD} {most : Int} (h : Fitted y most) : sdN y = (y.offN, y.cN) := by
  unfold Sx.sdN
  have ho := h.oN
  cases hh : y.hasN with
  | false => obtain ⟨h1, h2⟩ := h.hN hh; rw [h1, h2]; rfl
  | true =>
    simp only [cond_true]
    rw [w64_eq (by omega)]
    exact trim_id h.tN
theorem wideV_zero (f : Int) (l : List Int) : wideV (f, l) (0, []) 0 0 = l.length := by
  unfold wideV
  cases l with
  | nil => rfl
  | cons a l => simp only [hiS]; rw [shr_zero, shr_zero]; omega
theorem lesser_self (a : Int) : lesser a a = a := by unfold lesser; split <;> rfl
theorem sd_noE (s : Int) : sdP (noE s) = (0, []) ∧ sdN (noE s) = (0, []) := ⟨rfl, rfl⟩
theorem Fitted.again {y : ExpD} {most : Int} (h : Fitted y most) : shV y (noE y.scale) most = some (0, 0, y.scale) := by
  unfold shV
  have e1 : (noE y.scale).scale = y.scale := rfl
  rw [e1, lesser_self, h.sdP, h.sdN, (sd_noE _).1, (sd_noE _).2, shGo]
  have := h.m1; have := h.m2
  rw [Int.sub_self]
  rw [if_neg (by simp; omega)]
  rw [if_pos]
  show wideV (y.offP, y.cP) (0, []) 0 0 ≤ most ∧ wideV (y.offN, y.cN) (0, []) 0 0 ≤ most
  rw [wideV_zero, wideV_zero]
  exact ⟨h.lP, h.lN⟩
theorem Fitted.good {y : ExpD} {most : Int} (h : Fitted y most) : fitBad y 0 = false := by
  unfold fitBad
  rw [h.rawP]
  simp only
  rw [h.rawN]
  simp only [bigS]
  rw [trim_id h.tP, trim_id h.tN]
  have := h.oP; have := h.oN
  simp; omega
theorem Fitted.same {y : ExpD} {most : Int} (h : Fitted y most) : fitE y 0 y.scale = y := by
  unfold fitE
  rw [h.rawP]
  simp only
  rw [h.rawN]
  simp only
  rw [trim_id h.tP, trim_id h.tN]
  unfold ExpD.lay
  simp only
  rw [w32_eq h.oP, w32_eq h.oN, w32_eq h.sc, ← h.uP]
  have hu : y.unkP = y.unkN := h.uP.trans h.uN.symm
  obtain ⟨⟩ := y
  simp only at hu ⊢
  rw [hu]
theorem bifoff (h : Bool) {f : Int} (hf : -2147483648 ≤ f ∧ f < 2147483648) : -2147483648 ≤ (bif h then w64 f else 0) ∧ (bif h then w64 f else 0) < 2147483648 := by
  cases h
  · exact ⟨by simp, by simp⟩
  · simp only [cond_true]; rw [w64_eq (by omega)]; exact hf
theorem downL_off {f : Int} {l : List Int} {n : Nat} {bad : Bool} (h1 : -2147483648 ≤ f ∧ f < 2147483648) (h2 : l.length ≤ 1500) :
    -2147483648 ≤ (downL f l n bad).1 ∧ (downL f l n bad).1 ≤ 2147485148 := by
  unfold downL
  rcases trim_spec l f (by omega) (by omega) with ⟨h, _⟩ | ⟨k, m, c, h, hc, _, _, hll⟩
  · rw [h]; exact ⟨by simp, by simp⟩
  · rw [h]
    have := congrArg List.length hll
    simp only [List.length_append, List.length_replicate] at this
    cases c with
    | nil => exact absurd rfl hc
    | cons a r =>
      simp only
      have lo := shr_bound (a := f + k) n (m := 2147485148) (by omega) (by omega) (by omega)
      refine ⟨?_, lo.2⟩
      by_cases hs : f + (k : Int) ≤ 0
      · exact (shr_bound (a := f + k) n (m := 2147483648) (by omega) (by omega) (by omega)).1
      · have := shr_mono (a := 0) (b := f + k) n (by omega)
        have e0 : shr 0 n = 0 := by rw [shr_ediv]; simp
        omega
theorem downL_wide (f : Int) (l : List Int) (n : Nat) (bad : Bool) : (((downL f l n bad).2.1.length : Nat) : Int) = wideV (trim f l) (0, []) n 0 ∨ (downL f l n bad).2.1 = [] := by
  unfold downL wideV
  cases ht : trim f l with
  | mk g c =>
    cases c with
    | nil => exact .inr rfl
    | cons a r =>
      simp only [downGo_len, List.length_replicate, hiS, wideS]
      by_cases h0 : shr (g + (a :: r).length - 1) n - shr g n + 1 ≤ 0
      · have := shr_mono (a := g) (b := g + (a :: r).length - 1) n (by simp only [List.length_cons]; omega)
        omega
      · left; omega
theorem wideV_no (s : Int × List Int) (n m m' : Nat) : wideV s (0, []) n m = wideV s (0, []) n m' := by
  unfold wideV
  cases s.2 <;> rfl
/-- what Fit gives is fitted -/
theorem fit_fitted {e : ExpD} {most : Int} {r : Int × Int × Int} (hF : Fits e) (hr : shV e (noE e.scale) most = some r) (hb : fitBad e r.1.toNat = false) : Fitted (fitE e r.1.toNat r.2.2) most ∧ r.2.2 ≤ e.scale ∧ (fitE e r.1.toNat r.2.2).scale = r.2.2 := by
  obtain ⟨f1, f2, f3, f4, f5, f6, f7, f8⟩ := hF
  unfold shV at hr
  have e1 : (noE e.scale).scale = e.scale := rfl
  rw [e1, lesser_self, Int.sub_self, (sd_noE _).1, (sd_noE _).2] at hr
  obtain ⟨j, b1, rfl, b3, b4, b5, b6, b7, b8, b9, _⟩ := shGo_spec hr
  simp only [Int.zero_add, Int.toNat_natCast] at hb b8 b9 ⊢
  unfold fitBad at hb
  have oP := bifoff e.hasP ⟨f3, f4⟩
  have oN := bifoff e.hasN ⟨f5, f6⟩
  have lP := Nat.le_trans (side_len e.hasP e.cP) f1
  have lN := Nat.le_trans (side_len e.hasN e.cN) f2
  have hbad : (Sx.rawP e j false).2.2 = false := by
    cases hq : (Sx.rawP e j false).2.2 with
    | false => rfl
    | true =>
      rw [hq] at hb
      have : ∀ (f : Int) (l : List Int) (n : Nat), (downL f l n true).2.2 = true := by
        intro f l n
        have go : ∀ (f : Int) (n : Nat) (l : List Int) (i : Nat) (c : List Int), (downGo f n i l c true).2 = true := by
          intro f n l
          induction l with
          | nil => intro i c; rfl
          | cons a l ih => intro i c; rw [downGo, Bool.true_or]; exact ih _ _
        unfold downL
        split
        · rfl
        · exact go _ _ _ _ _
      rw [show (Sx.rawN e j true).2.2 = true from this _ _ _, Bool.true_or] at hb
      cases hb
  rw [hbad] at hb
  simp only [Bool.or_eq_false_iff, bigS, decide_eq_false_iff_not] at hb
  obtain ⟨_, hb1, hb2⟩ := hb
  have ofP := downL_off (n := j) (bad := false) oP lP
  have ofN := downL_off (n := j) (bad := false) oN lN
  have lnP := Nat.le_trans (downL_len (bif e.hasP then w64 e.offP else 0) (bif e.hasP then e.cP else []) j false) lP
  have lnN := Nat.le_trans (downL_len (bif e.hasN then w64 e.offN else 0) (bif e.hasN then e.cN else []) j false) lN
  have wP := downL_wide (bif e.hasP then w64 e.offP else 0) (bif e.hasP then e.cP else []) j false
  have wN := downL_wide (bif e.hasN then w64 e.offN else 0) (bif e.hasN then e.cN else []) j false
  have rP := downL_r (bif e.hasP then w64 e.offP else 0) (bif e.hasP then e.cP else []) j false
  have rN := downL_r (bif e.hasN then w64 e.offN else 0) (bif e.hasN then e.cN else []) j false
  have b8 : wideV (trim (bif e.hasP then w64 e.offP else 0) (bif e.hasP then e.cP else [])) (0, []) j j ≤ most := b8
  have b9 : wideV (trim (bif e.hasN then w64 e.offN else 0) (bif e.hasN then e.cN else [])) (0, []) j j ≤ most := b9
  rw [wideV_no _ j j 0] at b8 b9
  have goP : e.hasP = false → downL (bif e.hasP then w64 e.offP else 0) (bif e.hasP then e.cP else []) j false = (0, [], false) := fun h => by rw [h]; rfl
  have goN : e.hasN = false → downL (bif e.hasN then w64 e.offN else 0) (bif e.hasN then e.cN else []) j false = (0, [], false) := fun h => by rw [h]; rfl
  have main : ∀ {t : Int × List Int × Bool}, -2147483648 ≤ t.1 ∧ t.1 ≤ 2147485148 → t.2.1.length ≤ 1500 → ¬ (trim t.1 t.2.1).1 > 2147483647 → R64 t.2.1 → ∀ {m : Int}, ((t.2.1.length : Nat) : Int) ≤ m →
      -2147483648 ≤ (trim t.1 t.2.1).1 ∧ (trim t.1 t.2.1).1 < 2147483648 ∧ Tight (trim t.1 t.2.1) ∧ R64 (trim t.1 t.2.1).2 ∧ (((trim t.1 t.2.1).2.length : Nat) : Int) ≤ m := by
    intro t h1 h2 h3 h4 m h5
    have hl := trim_len t.1 t.2.1
    refine ⟨?_, by omega, trim_tight (by omega) (by omega), fun x hx => h4 x (trim_mem hx), by omega⟩
    rcases trim_spec t.2.1 t.1 (by omega) (by omega) with ⟨h, _⟩ | ⟨k, m, c, h, _⟩
    · rw [h]; decide
    · rw [h]; simp only; omega
  have lenP : ((((downL (bif e.hasP then w64 e.offP else 0) (bif e.hasP then e.cP else []) j false).2.1.length : Nat)) : Int) ≤ most := by
    rcases wP with h | h
    · omega
    · rw [h]; simp only [List.length_nil]; omega
  have lenN : ((((downL (bif e.hasN then w64 e.offN else 0) (bif e.hasN then e.cN else []) j false).2.1.length : Nat)) : Int) ≤ most := by
    rcases wN with h | h
    · omega
    · rw [h]; simp only [List.length_nil]; omega
  obtain ⟨p1, p2, p3, p4, p5⟩ := main (t := Sx.rawP e j false) ofP lnP hb1 rP lenP
  obtain ⟨q1, q2, q3, q4, q5⟩ := main (t := Sx.rawN e j false) ofN lnN hb2 rN lenN
  have hs : w32 (e.scale - (j : Int)) = e.scale - j := by
    by_cases hj : j = 0
    · subst hj; exact w32_eq (by omega)
    · have := b7 (by omega); exact w32_eq (by omega)
  have hsr : -2147483648 ≤ e.scale - (j : Int) := by
    by_cases hj : j = 0
    · subst hj; omega
    · have := b7 (by omega); omega
  unfold fitE
  rw [hbad]
  refine ⟨⟨b3, b4, p5, q5, ?_, ?_, p4, q4, ?_, ?_, ?_, rfl, rfl, ?_, ?_⟩, by show e.scale - (j : Int) ≤ e.scale; omega, hs⟩
  · show Tight (w32 _, _)
    rw [w32_eq ⟨p1, p2⟩]; exact p3
  · show Tight (w32 _, _)
    rw [w32_eq ⟨q1, q2⟩]; exact q3
  · show -2147483648 ≤ w32 _ ∧ w32 _ < 2147483648
    rw [w32_eq ⟨p1, p2⟩]; exact ⟨p1, p2⟩
  · show -2147483648 ≤ w32 _ ∧ w32 _ < 2147483648
    rw [w32_eq ⟨q1, q2⟩]; exact ⟨q1, q2⟩
  · show -2147483648 ≤ w32 _ ∧ w32 _ < 2147483648
    rw [hs]; omega
  · intro h
    show w32 (trim (Sx.rawP e j false).1 (Sx.rawP e j false).2.1).1 = 0 ∧ (trim (Sx.rawP e j false).1 (Sx.rawP e j false).2.1).2 = []
    rw [show Sx.rawP e j false = (0, [], false) from goP h]; exact ⟨rfl, rfl⟩
  · intro h
    show w32 (trim (Sx.rawN e j false).1 (Sx.rawN e j false).2.1).1 = 0 ∧ (trim (Sx.rawN e j false).1 (Sx.rawN e j false).2.1).2 = []
    rw [show Sx.rawN e j false = (0, [], false) from goN h]; exact ⟨rfl, rfl⟩
end Sx
/-! The law MergeFits: true. -/
namespace Sx
open Go Go.Proofs
set_option linter.unusedVariables false
set_option maxRecDepth 30000
theorem tight_B {f : Int} {l : List Int} (h : Tight (f, l)) (hr : R64 l) : tightB f l = true := by
  rcases h with h | ⟨h1, h2, h3⟩
  · obtain ⟨rfl, rfl⟩ := Prod.mk.inj h; rfl
  · cases l with
    | nil => exact absurd rfl h1
    | cons a r =>
      have g : ∀ i, i < (a :: r).length → (a :: r).getD i 0 ≠ 0 → (a :: r).getD i 0 > 0 := by
        intro i hi hn
        have := hr _ (getD_mem (a := 0) hi)
        omega
      have p1 := g 0 (by simp) h2
      have p2 := g ((a :: r).length - 1) (by simp) h3
      unfold tightB
      simp only [Bool.and_eq_true, decide_eq_true_eq]
      first | exact ⟨p1, p2⟩ | (simp only [List.length_cons] at p2 ⊢; simp_all)
theorem shV_r {e : ExpD} {most : Int} {r : Int × Int × Int} (h : shV e (noE e.scale) most = some r) : 0 ≤ r.1 ∧ r.1 ≤ 31 := by
  unfold shV at h
  have e1 : (noE e.scale).scale = e.scale := rfl
  rw [e1, lesser_self, Int.sub_self] at h
  obtain ⟨j, _, rfl, _, _, b5, _⟩ := shGo_spec h
  simp only
  omega
def DpE (k : Nat) (e : ExpD) : Prop := Dp k e.attrs ∧ Dp k e.ex
def lawFitsS (k : Nat) : List U → Out SV
  | [.a l, .c (.v (.int .i64 most)), .c (.v (.int .i64 less))] => match asExp l with
    | some e => .need (e.Typ ∧ (e.Small → DpE k e) ∧ (-9223372036854775808 ≤ most ∧ most < 9223372036854775808) ∧ (-9223372036854775808 ≤ less ∧ less < 9223372036854775808)) (one (Bo true))
    | none => .fail
  | _ => .fail
theorem lawFits_ok {k : Nat} : Ok G1 5 (lawFitsS k) := by
  have hS : AllSound (B [(10, .pure (normG (B []) [] firstS)), (18, .pure (normG (B []) [49] fewS)), (19, .pure (normG (B []) [47, 3] (fitS k))), (13, .pure (normG (B []) [28] codeS)), (20, .pure (normG (B []) [47, 47] (expEqS k))), (21, .pure (normG (B []) [24] tightS))]) G1 :=
    .cons _ first_ok (.cons _ few_ok (.cons _ fit_ok (.cons _ code_ok (.cons _ expEq_ok (.cons _ tight_ok noneS)))))
  refine okP hS Tryd.func5 rfl (by decide) fun K us hk => ?_
  unfold lawFitsS at hk
  split at hk
  · rename_i l most less
    split at hk
    · rename_i e he
      rw [asExp_eq he]
      refine ⟨by show 3 ≤ _; decide, ?_⟩
      obtain ⟨⟨hT, hD, hm, hls⟩, hk⟩ := hk
      conv => whnf
      refine ⟨hT, ?_⟩
      conv => whnf
      intro b hb
      have hb : b = true → e.Small := hb
      cases b with
      | false =>
        conv => whnf
        exact hk
      | true =>
        have hs := hb rfl
        conv => whnf
        refine Ask.i (fun c1 => ?_) (fun c1 => ?_)
        · conv => whnf
          exact hk
        · have c1 : ¬ less < 0 := of_decide_eq_false c1
          conv => whnf
          have hFt : Fits e := ⟨hs.lP, hs.lN, hT.oP.1, hT.oP.2, hT.oN.1, hT.oN.2, hT.sc.1, hT.sc.2⟩
          have hDe := hD hs
          refine ⟨⟨hFt, hT.attrs, hDe.1, hT.ex, hDe.2⟩, ?_⟩
          conv => whnf
          intro o ho
          have ho : shV e (noE e.scale) most = o := ho
          cases o with
          | none =>
            conv => whnf
            exact hk
          | some r =>
            have hr31 : 0 ≤ r.1 ∧ r.1 ≤ 31 := shV_r ho
            conv => whnf
            refine ⟨hr31, ?_⟩
            conv => whnf
            intro c hc
            have hc : fitBad e r.1.toNat = c := hc
            cases c with
            | true =>
              conv => whnf
              exact hk
            | false =>
              obtain ⟨hy, hys, hysc⟩ := fit_fitted hFt ho hc
              have ya : (fitE e r.1.toNat r.2.2).attrs = e.attrs ∧ (fitE e r.1.toNat r.2.2).ex = e.ex ∧ (fitE e r.1.toNat r.2.2).count = e.count ∧ (fitE e r.1.toNat r.2.2).start = e.start := ⟨rfl, rfl, rfl, rfl⟩
              rw [← hysc] at hys
              clear hysc
              conv => whnf
              generalize fitE e r.1.toNat r.2.2 = y at *
              obtain ⟨y1, y2, y3, y4⟩ := ya
              have hyN : Typ TB (.sl 40) y.attrs ∧ Dp k y.attrs ∧ Typ TB (.sl 44) y.ex ∧ Dp k y.ex := by
                rw [y1, y2]; exact ⟨hT.attrs, hDe.1, hT.ex, hDe.2⟩
              refine ⟨⟨hy.fits, hyN⟩, ?_⟩
              conv => whnf
              intro o2 ho2
              have ho2 : shV y (noE y.scale) most = o2 := ho2
              rw [hy.again] at ho2
              cases o2 with
              | none => cases ho2
              | some r2 =>
                have hr2 : r2 = (0, 0, y.scale) := (Option.some.inj ho2).symm
                conv => whnf
                refine ⟨by show 0 ≤ r2.1 ∧ r2.1 ≤ 31; rw [hr2]; simp, ?_⟩
                conv => whnf
                intro c2 hc2
                have hc2 : fitBad y r2.1.toNat = c2 := hc2
                rw [hr2] at hc2
                obtain rfl : c2 = false := hc2.symm.trans hy.good
                conv => whnf
                generalize hz : fitE y r2.1.toNat r2.2.2 = z
                have hz : z = y := by rw [hr2] at hz; exact hz.symm.trans hy.same
                subst hz
                refine ⟨by decide, ?_⟩
                conv => whnf
                refine ⟨⟨hy.fits, hyN⟩, ?_⟩
                conv => whnf
                intro o3 ho3
                have ho3 : ∃ m3 : Int, shV z (noE z.scale) m3 = o3 := ⟨_, ho3⟩
                obtain ⟨m3, ho3⟩ := ho3
                have lP := hy.lP
                have lN := hy.lN
                have m2 := hy.m2
                have exN : ((z.cells = z.cells ∧ Typ TB (.sl 40) z.attrs ∧ Dp k z.attrs ∧ Typ TB (.sl 44) z.ex ∧ Dp k z.ex ∧ z.cP.length ≤ 68719476736 ∧ z.cN.length ≤ 68719476736)) :=
                  ⟨rfl, hyN.1, hyN.2.1, hyN.2.2.1, hyN.2.2.2, by omega, by omega⟩
                cases o3 with
                | none =>
                  conv => whnf
                  refine ⟨exN, ?_⟩
                  conv => whnf
                  refine Ask.i (fun _ => ?_) (fun c => absurd (lP) (of_decide_eq_false c))
                  conv => whnf
                  refine Ask.i (fun _ => ?_) (fun c => absurd (lN) (of_decide_eq_false c))
                  conv => whnf
                  refine ⟨by show z.cP.length ≤ 68719476736; omega, ?_⟩
                  conv => whnf
                  refine Ask.i (fun _ => ?_) (fun c => by have c : tightB z.offP z.cP = false := c; rw [tight_B hy.tP hy.rP] at c; cases c)
                  conv => whnf
                  refine ⟨by show z.cN.length ≤ 68719476736; omega, ?_⟩
                  conv => whnf
                  refine Ask.i (fun _ => ?_) (fun c => by have c : tightB z.offN z.cN = false := c; rw [tight_B hy.tN hy.rN] at c; cases c)
                  conv => whnf
                  refine Ask.i (fun _ => ?_) (fun c => absurd (hys) (of_decide_eq_false c))
                  conv => whnf
                  refine Ask.i (fun _ => ?_) (fun c => by have c : (z.count == e.count) = false := c; rw [y3] at c; simp at c)
                  conv => whnf
                  refine Ask.i (fun _ => ?_) (fun c => by have c : (z.start == e.start) = false := c; rw [y4] at c; simp at c)
                  conv => whnf
                  exact hk
                | some r3 =>
                  conv => whnf
                  refine ⟨shV_r ho3, ?_⟩
                  conv => whnf
                  intro c3 hc3
                  have hc3 : fitBad z r3.1.toNat = c3 := hc3
                  cases c3 with
                  | true =>
                    conv => whnf
                    refine ⟨exN, ?_⟩
                    conv => whnf
                    refine Ask.i (fun _ => ?_) (fun c => absurd (lP) (of_decide_eq_false c))
                    conv => whnf
                    refine Ask.i (fun _ => ?_) (fun c => absurd (lN) (of_decide_eq_false c))
                    conv => whnf
                    refine ⟨by show z.cP.length ≤ 68719476736; omega, ?_⟩
                    conv => whnf
                    refine Ask.i (fun _ => ?_) (fun c => by have c : tightB z.offP z.cP = false := c; rw [tight_B hy.tP hy.rP] at c; cases c)
                    conv => whnf
                    refine ⟨by show z.cN.length ≤ 68719476736; omega, ?_⟩
                    conv => whnf
                    refine Ask.i (fun _ => ?_) (fun c => by have c : tightB z.offN z.cN = false := c; rw [tight_B hy.tN hy.rN] at c; cases c)
                    conv => whnf
                    refine Ask.i (fun _ => ?_) (fun c => absurd (hys) (of_decide_eq_false c))
                    conv => whnf
                    refine Ask.i (fun _ => ?_) (fun c => by have c : (z.count == e.count) = false := c; rw [y3] at c; simp at c)
                    conv => whnf
                    refine Ask.i (fun _ => ?_) (fun c => by have c : (z.start == e.start) = false := c; rw [y4] at c; simp at c)
                    conv => whnf
                    exact hk
                  | false =>
                    obtain ⟨_, hw1, hw2⟩ := fit_fitted hy.fits ho3 hc3
                    rw [← hw2] at hw1
                    clear hw2
                    conv => whnf
                    generalize fitE z r3.1.toNat r3.2.2 = w at *
                    refine ⟨exN, ?_⟩
                    conv => whnf
                    refine Ask.i (fun _ => ?_) (fun c => absurd (lP) (of_decide_eq_false c))
                    conv => whnf
                    refine Ask.i (fun _ => ?_) (fun c => absurd (lN) (of_decide_eq_false c))
                    conv => whnf
                    refine ⟨by show z.cP.length ≤ 68719476736; omega, ?_⟩
                    conv => whnf
                    refine Ask.i (fun _ => ?_) (fun c => by have c : tightB z.offP z.cP = false := c; rw [tight_B hy.tP hy.rP] at c; cases c)
                    conv => whnf
                    refine ⟨by show z.cN.length ≤ 68719476736; omega, ?_⟩
                    conv => whnf
                    refine Ask.i (fun _ => ?_) (fun c => by have c : tightB z.offN z.cN = false := c; rw [tight_B hy.tN hy.rN] at c; cases c)
                    conv => whnf
                    refine Ask.i (fun _ => ?_) (fun c => absurd (hys) (of_decide_eq_false c))
                    conv => whnf
                    refine Ask.i (fun _ => ?_) (fun c => by have c : (z.count == e.count) = false := c; rw [y3] at c; simp at c)
                    conv => whnf
                    refine Ask.i (fun _ => ?_) (fun c => by have c : (z.start == e.start) = false := c; rw [y4] at c; simp at c)
                    conv => whnf
                    exact fin hk (congrArg (fun b : Bool => SV.u (.c (Bo b))) (decide_eq_true hw1).symm)
    · exact hk.elim
  · exact hk.elim
end Sx
/-! Points opened. -/
namespace Sx
open Go Go.Proofs Go.RowKit
set_option linter.unusedVariables false
set_option maxRecDepth 30000
theorem OpC.intC {w : World} {k : IntKind} {p : Value × D} (h : OpC TB w (.int k) p) : ∃ n, p = (.int k n, .int n) ∧ k.min ≤ n ∧ n ≤ k.max := by
  obtain ⟨v, d⟩ := p
  obtain ⟨h1, h2⟩ := h
  cases h1 with
  | int => cases h2 with
    | int h => exact ⟨_, rfl, h.1, h.2⟩
theorem OpC.boolC {w : World} {p : Value × D} (h : OpC TB w .bool p) : ∃ b, p = (.bool b, .bool b) := by
  obtain ⟨v, d⟩ := p
  obtain ⟨h1, h2⟩ := h
  cases h1 with
  | bool => exact ⟨_, rfl⟩
theorem OpC.strC {w : World} {p : Value × D} (h : OpC TB w .str p) : ∃ s, p = (.string s, .str s) := by
  obtain ⟨v, d⟩ := p
  obtain ⟨h1, h2⟩ := h
  cases h1 with
  | str => exact ⟨_, rfl⟩
theorem OpC.slI {w : World} {t : TypeId} {k : IntKind} (ht : TB t = some (.ints k)) {p : Value × D} (h : OpC TB w (.sl t) p) :
    ∃ v l, p = (v, .ints l) ∧ Rd TB w (fun _ => False) (.sl t) v (.ints l) ∧ l.length ≤ 9223372036854775807 ∧ ∀ x ∈ l, k.min ≤ x ∧ x ≤ k.max := by
  obtain ⟨v, d⟩ := p
  obtain ⟨h1, h2⟩ := h
  cases h2 with
  | ints h hl hr =>
    rw [ht] at h
    cases Option.some.inj h
    exact ⟨v, _, rfl, h1, hl, hr⟩
  | rows h => rw [ht] at h; cases h
def goodT (t : TypeId) : Bool := [47, 40, 41, 43, 21, 4, 24, 22, 44, 45, 9, 148, 150, 152, 145, 3, 49].contains t
theorem goodT_ok : ∀ t, goodT t = true → goodB (B []).tt goodT t = true := by
  intro t ht
  have h : [47, 40, 41, 43, 21, 4, 24, 22, 44, 45, 9, 148, 150, 152, 145, 3, 49].all (fun t => goodB (B []).tt goodT t) = true := by kernel_rfl
  exact List.all_eq_true.1 h t (by simpa [goodT] using ht)
theorem open_exp {H : Type} {enc : TypeId × Value → H} {w : World} {base : Nat} {spare : Nat → Bool} {held : Bool} {fuel : Nat} {cs : List Value} {x : DataW H × List MemPlace}
    (h : DataW.trod enc Tryd.prog w base spare held fuel 47 cs = some x) : ∃ e : ExpD, e.Typ ∧ All2 (DenC TB w (fun _ => none) (fun _ => False) (fun _ => none)) e.cells cs := by
  obtain ⟨l, rfl, hl⟩ := opened (S := B []) (BT []) goodT_ok fuel 47 _ cs x rfl rfl h
  have hl : All2 (OpC TB w) [.sl 40, .int .u64, .int .u64, .int .u64, .bool, .int .u64, .bool, .int .u64, .bool, .int .u64, .int .i32, .int .u64, .bool, .int .i32, .sl 22, .str, .bool, .int .i32, .sl 22, .str, .sl 44, .int .u32, .int .u64, .str] l := hl
  match l, hl with
  | [p0, p1, p2, p3, p4, p5, p6, p7, p8, p9, p10, p11, p12, p13, p14, p15, p16, p17, p18, p19, p20, p21, p22, p23], hl =>
    obtain ⟨q0, q1, q2, q3, q4, q5, q6, q7, q8, q9, q10, q11, q12, q13, q14, q15, q16, q17, q18, q19, q20, q21, q22, q23, _⟩ := hl
    obtain ⟨n1, rfl, _⟩ := q1.intC
    obtain ⟨n2, rfl, _⟩ := q2.intC
    obtain ⟨n3, rfl, _⟩ := q3.intC
    obtain ⟨n4, rfl⟩ := q4.boolC
    obtain ⟨n5, rfl, _⟩ := q5.intC
    obtain ⟨n6, rfl⟩ := q6.boolC
    obtain ⟨n7, rfl, _⟩ := q7.intC
    obtain ⟨n8, rfl⟩ := q8.boolC
    obtain ⟨n9, rfl, _⟩ := q9.intC
    obtain ⟨n10, rfl, sc1, sc2⟩ := q10.intC
    obtain ⟨n11, rfl, _⟩ := q11.intC
    obtain ⟨n12, rfl⟩ := q12.boolC
    obtain ⟨n13, rfl, oP1, oP2⟩ := q13.intC
    obtain ⟨v14, l14, rfl, r14, lP, rP⟩ := q14.slI (k := .u64) (by kernel_rfl)
    obtain ⟨n15, rfl⟩ := q15.strC
    obtain ⟨n16, rfl⟩ := q16.boolC
    obtain ⟨n17, rfl, oN1, oN2⟩ := q17.intC
    obtain ⟨v18, l18, rfl, r18, lN, rN⟩ := q18.slI (k := .u64) (by kernel_rfl)
    obtain ⟨n19, rfl⟩ := q19.strC
    obtain ⟨n21, rfl, _⟩ := q21.intC
    obtain ⟨n22, rfl, _⟩ := q22.intC
    obtain ⟨n23, rfl⟩ := q23.strC
    have ki : IntKind.i32.min = -2147483648 ∧ IntKind.i32.max = 2147483647 := by decide
    have ku : IntKind.u64.min = 0 ∧ IntKind.u64.max = 18446744073709551615 := by decide
    rw [ki.1] at sc1 oP1 oN1
    rw [ki.2] at sc2 oP2 oN2
    rw [ku.1, ku.2] at rP rN
    refine ⟨⟨p0.2, n1, n2, n3, n4, n5, n6, n7, n8, n9, n10, n11, n12, n13, l14, n15, n16, n17, l18, n19, p20.2, n21, n22, n23⟩,
      ⟨q0.2, q20.2, lP, lN, ⟨sc1, Int.lt_add_one_of_le sc2⟩, ⟨oP1, Int.lt_add_one_of_le oP2⟩, ⟨oN1, Int.lt_add_one_of_le oN2⟩, fun x hx => ⟨(rP x hx).1, Int.lt_add_one_of_le (rP x hx).2⟩, fun x hx => ⟨(rN x hx).1, Int.lt_add_one_of_le (rN x hx).2⟩⟩, ?_⟩
    exact ⟨q0.1, ⟨rfl, rfl⟩, ⟨rfl, rfl⟩, ⟨rfl, rfl⟩, ⟨rfl, rfl⟩, ⟨rfl, rfl⟩, ⟨rfl, rfl⟩, ⟨rfl, rfl⟩, ⟨rfl, rfl⟩, ⟨rfl, rfl⟩, ⟨rfl, rfl⟩, ⟨rfl, rfl⟩, ⟨rfl, rfl⟩, ⟨rfl, rfl⟩, r14, ⟨rfl, rfl⟩, ⟨rfl, rfl⟩, ⟨rfl, rfl⟩, r18, ⟨rfl, rfl⟩, q20.1, ⟨rfl, rfl⟩, ⟨rfl, rfl⟩, ⟨rfl, rfl⟩, trivial⟩
theorem GOk1 {W : World} (h : YtcmghblegllmlaaDoor.Cd.Lays W) : GOk G1 W := by
  have hc : W.cell? ⟨0, 0, none⟩ = some (.iface 160 (.agg #[.pointer (some ⟨1, 28, none⟩)])) := h
  have := cell_lt hc
  exact ⟨this, fun gv hg => by
    rcases List.mem_cons.1 hg with rfl | hg
    · exact ⟨by decide, hc⟩
    · cases hg⟩
theorem Fr.below {w w' : World} (h : Fr w w' fun _ => False) : Below w.heap.size w w' :=
  ⟨h.os, h.tape, h.output, h.size, fun b hb => h.heap b hb fun h => h⟩
theorem Small.dpE {e : ExpD} (h : e.Small) : ∃ k, DpE k e := by
  obtain ⟨k, hk⟩ := h.attrs.dp
  obtain ⟨m, hm⟩ := h.ex.dp
  exact ⟨k + m, hk.mono (by omega), hm.mono (by omega)⟩
theorem mergeFits_walk {H : Type} {enc : TypeId × Value → H} {W : World} {base : Nat} {spare : Nat → Bool} {held : Bool} {fuel : Nat} {cs : List Value} {x : DataW H × List MemPlace}
    (h : DataW.trod enc Tryd.prog W base spare held fuel 47 cs = some x) (m : Int) (wm : (Lit.int .i64 m).wf = true) (n : Int) (wn : (Lit.int .i64 n).wf = true) (hg : YtcmghblegllmlaaDoor.Cd.Lays W) :
    Calls Tryd.prog 5 #[.agg cs.toArray, .int .i64 m, .int .i64 n] W fun e W' => e = .returned (.bool true) ∧ Below W.heap.size W W' := by
  obtain ⟨e, hT, hd⟩ := open_exp h
  obtain ⟨k, hk⟩ : ∃ k, e.Small → DpE k e := by
    by_cases hs : e.Small
    · obtain ⟨k, hk⟩ := Small.dpE hs; exact ⟨k, fun _ => hk⟩
    · exact ⟨0, fun h => absurd h hs⟩
  have ki : IntKind.i64.min = -9223372036854775808 ∧ IntKind.i64.max = 9223372036854775807 := by decide
  have hm := wf_in wm
  have hn := wf_in wn
  rw [ki.1, ki.2] at hm hn
  have := (lawFits_ok (k := k)).2 (fun s => s = .u (.c (Bo true))) [.a e.cells, .c (I64 m), .c (I64 n)] (fun _ => False) W [.agg cs.toArray, .int .i64 m, .int .i64 n]
    ⟨⟨hT, hk, ⟨hm.1, by omega⟩, ⟨hn.1, by omega⟩⟩, rfl⟩ (GOk1 hg) (fun b h => h.elim) ⟨⟨cs, rfl, hd⟩, ⟨rfl, rfl⟩, ⟨rfl, rfl⟩, trivial⟩
  refine this.mono fun e' W' ⟨r, v, h1, h2, h3, h4⟩ => ?_
  subst h2
  obtain ⟨rfl, _⟩ := h3
  exact ⟨h1, h4.below⟩
end Sx
