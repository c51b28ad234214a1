/- The law MergeLeast answers true at any input. Conditions: the input reads as data of the row's types, and errors.errorType is laid as the program's text lays it. -/
import Derived.Test.YtcmghblegllmlaaDoorSums
import Derived.Test.YtcmghblegllmlaaDoorHists
set_option linter.unusedVariables false
set_option linter.unusedSimpArgs false
/-! Plain: a side as what it holds at each place. -/
namespace Sx
open Go Go.Proofs
set_option linter.unusedVariables false
set_option maxRecDepth 30000
def sAt (f : Int) (l : List Int) (p : Int) : Int := if f ≤ p then l.getD (p - f).toNat 0 else 0
theorem sAt_nil (f p : Int) : sAt f [] p = 0 := by unfold sAt; split <;> simp
theorem sAt_r {l : List Int} (h : R64 l) (f p : Int) : 0 ≤ sAt f l p ∧ sAt f l p < 18446744073709551616 := by
  unfold sAt
  split
  · exact getD_r h _
  · decide
theorem getD_out {l : List Int} {i : Nat} (h : l.length ≤ i) : l.getD i 0 = 0 := by rw [List.getD_eq_getElem?_getD, List.getElem?_eq_none h]; rfl
theorem sAt_out {f p : Int} {l : List Int} (h : ¬ (f ≤ p ∧ p < f + l.length)) : sAt f l p = 0 := by
  unfold sAt
  split
  · exact getD_out (by omega)
  · rfl
theorem sAt_in {f p : Int} {l : List Int} (h : sAt f l p ≠ 0) : f ≤ p ∧ p < f + l.length := Classical.byContradiction fun hn => h (sAt_out hn)
theorem sAt_at (f : Int) (l : List Int) (j : Nat) : sAt f l (f + j) = l.getD j 0 := by
  unfold sAt
  rw [if_pos (by omega)]
  congr 1
  omega
theorem getD_rep (k i : Nat) : (List.replicate k (0 : Int)).getD i 0 = 0 := by
  rw [List.getD_eq_getElem?_getD, List.getElem?_replicate]
  split <;> rfl
theorem getD_app (a b : List Int) (i : Nat) : (a ++ b).getD i 0 = if i < a.length then a.getD i 0 else b.getD (i - a.length) 0 := by
  rw [List.getD_eq_getElem?_getD]
  by_cases h : i < a.length
  · rw [if_pos h, List.getElem?_append_left h, ← List.getD_eq_getElem?_getD]
  · rw [if_neg h, List.getElem?_append_right (by omega), ← List.getD_eq_getElem?_getD]
theorem trim_at {f : Int} {l : List Int} (h1 : -4611686018427387904 ≤ f) (h2 : f + l.length ≤ 4611686018427387904) (p : Int) : sAt (trim f l).1 (trim f l).2 p = sAt f l p := by
  rcases trim_spec l f h1 h2 with ⟨h, h0⟩ | ⟨k, m, c, h, hc, _, _, hll⟩
  · rw [h, sAt_nil]
    unfold sAt
    split
    · by_cases hi : (p - f).toNat < l.length
      · exact (h0 _ (getD_mem (a := 0) hi)).symm
      · exact (getD_out (by omega)).symm
    · rfl
  · rw [h]
    subst hll
    unfold sAt
    simp only
    by_cases h3 : f + (k : Int) ≤ p
    · rw [if_pos h3, if_pos (by omega), getD_app, if_neg (by simp; omega), getD_app, List.length_replicate]
      have e : (p - f).toNat - k = (p - (f + k)).toNat := by omega
      rw [e]
      split
      · rfl
      · rw [getD_rep, getD_out (by omega)]
    · rw [if_neg h3]
      split
      · rw [getD_app, List.length_replicate, if_pos (by omega), getD_rep]
      · rfl
theorem tight_le {f g : Int} {l m : List Int} (h1 : l.getD 0 0 ≠ 0) (h2 : l.getD (l.length - 1) 0 ≠ 0) (hl : l ≠ []) (h : ∀ p, sAt f l p = sAt g m p) : g ≤ f ∧ f + l.length ≤ g + m.length := by
  have a1 := sAt_at f l 0
  have a2 := sAt_at f l (l.length - 1)
  have : 0 < l.length := List.length_pos_iff.2 hl
  rw [← a1, h] at h1
  rw [← a2, h] at h2
  have b1 := sAt_in h1
  have b2 := sAt_in h2
  omega
/-- sides without zeros at their ends that hold the same are the same -/
theorem canon {s t : Int × List Int} (hs : Tight s) (ht : Tight t) (h : ∀ p, sAt s.1 s.2 p = sAt t.1 t.2 p) : s = t := by
  obtain ⟨f, l⟩ := s
  obtain ⟨g, m⟩ := t
  simp only at h
  rcases hs with hs | ⟨h1, h2, h3⟩
  · obtain ⟨rfl, rfl⟩ := Prod.mk.inj hs
    rcases ht with ht | ⟨h4, h5, h6⟩
    · exact ht.symm
    · exfalso
      have := sAt_at g m 0
      rw [← h, sAt_nil] at this
      exact h5 this.symm
  · rcases ht with ht | ⟨h4, h5, h6⟩
    · exfalso
      obtain ⟨rfl, rfl⟩ := Prod.mk.inj ht
      have := sAt_at f l 0
      rw [h, sAt_nil] at this
      exact h2 this.symm
    · have a := tight_le h2 h3 h1 h
      have b := tight_le h5 h6 h4 fun p => (h p).symm
      simp only at a b
      obtain rfl : f = g := by omega
      have hl : l.length = m.length := by omega
      have : l = m := by
        refine List.ext_getElem hl fun i i1 i2 => ?_
        have := h (f + i)
        rw [sAt_at, sAt_at, List.getD_eq_getElem?_getD, List.getD_eq_getElem?_getD, List.getElem?_eq_getElem i1, List.getElem?_eq_getElem i2] at this
        exact this
      rw [this]
theorem getD_set (c : List Int) (q p : Nat) (v : Int) (hq : q < c.length) : (c.set q v).getD p 0 = if p = q then v else c.getD p 0 := by
  rw [List.getD_eq_getElem?_getD, List.getElem?_set]
  by_cases h : q = p
  · subst h
    rw [if_pos rfl, if_pos rfl, if_pos hq]; rfl
  · rw [if_neg h, if_neg (fun e => h e.symm), List.getD_eq_getElem?_getD]
theorem addGo_get (o : Nat) : ∀ (l : List Int) (i : Nat) (c : List Int) (bad : Bool) (p : Nat), o + i + l.length ≤ c.length →
    (addGo o i l c bad).1.getD p 0 = if o + i ≤ p ∧ p < o + i + l.length then x64 (c.getD p 0 + l.getD (p - (o + i)) 0) else c.getD p 0
  | [], i, c, bad, p, _ => by
    rw [addGo, if_neg (by simp only [List.length_nil]; omega)]
  | x :: l, i, c, bad, p, h => by
    simp only [List.length_cons] at h
    rw [addGo, addGo_get o l (i + 1) _ _ p (by simp only [List.length_set]; omega), getD_set _ _ _ _ (by omega)]
    simp only [List.length_cons]
    by_cases h1 : p = o + i
    · subst h1
      rw [if_neg (by omega), if_pos rfl, if_pos (by omega), Nat.sub_self]; rfl
    · rw [if_neg h1]
      by_cases h2 : o + i + 1 ≤ p ∧ p < o + i + 1 + l.length
      · rw [if_pos (by omega), if_pos (by omega)]
        have e : p - (o + i) = p - (o + (i + 1)) + 1 := by omega
        rw [e, List.getD_cons_succ]
      · rw [if_neg (by omega), if_neg (by omega)]
theorem addGo_flag (o : Nat) : ∀ (l : List Int) (i : Nat) (c : List Int) (bad : Bool), o + i + l.length ≤ c.length →
    ((addGo o i l c bad).2 = false ↔ bad = false ∧ ∀ j, j < l.length → ¬ x64 (c.getD (o + i + j) 0 + l.getD j 0) < c.getD (o + i + j) 0)
  | [], i, c, bad, _ => by rw [addGo]; simp
  | x :: l, i, c, bad, h => by
    simp only [List.length_cons] at h
    rw [addGo, addGo_flag o l (i + 1) _ _ (by simp only [List.length_set]; omega), Bool.or_eq_false_iff, decide_eq_false_iff_not]
    constructor
    · rintro ⟨⟨h1, h2⟩, h3⟩
      refine ⟨h1, fun j hj => ?_⟩
      cases j with
      | zero => simpa using h2
      | succ j =>
        have := h3 j (by simpa using hj)
        rw [getD_set _ _ _ _ (by omega), if_neg (by omega)] at this
        rw [List.getD_cons_succ, show o + i + (j + 1) = o + (i + 1) + j by omega]
        exact this
    · rintro ⟨h1, h2⟩
      refine ⟨⟨h1, by simpa using h2 0 (by simp)⟩, fun j hj => ?_⟩
      have := h2 (j + 1) (by simpa using hj)
      rw [List.getD_cons_succ, show o + i + (j + 1) = o + (i + 1) + j by omega] at this
      rw [getD_set _ _ _ _ (by omega), if_neg (by omega)]
      exact this
theorem wrap_lt {a b : Int} (ha : 0 ≤ a ∧ a < 18446744073709551616) (hb : 0 ≤ b ∧ b < 18446744073709551616) : x64 (a + b) < a ↔ 18446744073709551616 ≤ a + b := by
  have e : x64 (a + b) = (a + b) % 18446744073709551616 := by
    show IntKind.u64.wrap (a + b) = _
    rw [IntKind.wrap_u64]
  rw [e]; omega
/-- two sides added, place by place -/
theorem addL_sem {f g : Int} {l m : List Int} (hl : R64 l) (hm : R64 m) (bad : Bool) :
    ((addL (f, l) (g, m) bad).2.2 = false ↔ bad = false ∧ ∀ p, sAt f l p + sAt g m p < 18446744073709551616) ∧
    ((addL (f, l) (g, m) bad).2.2 = false → ∀ p, sAt (addL (f, l) (g, m) bad).1 (addL (f, l) (g, m) bad).2.1 p = sAt f l p + sAt g m p) := by
  cases l with
  | nil =>
    refine ⟨⟨fun h => ⟨h, fun p => by rw [sAt_nil]; have := (sAt_r hm g p).2; omega⟩, fun h => h.1⟩, fun _ p => ?_⟩
    rw [sAt_nil, Int.zero_add]; rfl
  | cons a r =>
    cases m with
    | nil =>
      refine ⟨⟨fun h => ⟨h, fun p => by rw [sAt_nil]; have := (sAt_r hl f p).2; omega⟩, fun h => h.1⟩, fun _ p => ?_⟩
      rw [sAt_nil, Int.add_zero]; rfl
    | cons b q =>
      have lo : lo2 f g ≤ f ∧ lo2 f g ≤ g := by unfold lo2; split <;> omega
      have hi : f + ((a :: r).length : Nat) ≤ hi2 (f + ((a :: r).length : Nat)) (g + ((b :: q).length : Nat)) ∧ g + ((b :: q).length : Nat) ≤ hi2 (f + ((a :: r).length : Nat)) (g + ((b :: q).length : Nat)) := by unfold hi2; split <;> omega
      simp only [addL]
      have hN : addN f (a :: r) g (b :: q) = hi2 (f + ((a :: r).length : Nat)) (g + ((b :: q).length : Nat)) - lo2 f g := rfl
      generalize lo2 f g = first at *
      generalize addN f (a :: r) g (b :: q) = N at *
      generalize hL : a :: r = L at *
      generalize hM : b :: q = M at *
      have len1 : (f - first).toNat + 0 + L.length ≤ (List.replicate N.toNat (0 : Int)).length := by rw [List.length_replicate]; omega
      have flag1 : (addGo (f - first).toNat 0 L (List.replicate N.toNat 0) bad).2 = bad := by
        cases bad with
        | true => exact addGo_bad _ _ _ _
        | false =>
          refine (addGo_flag _ _ _ _ _ len1).2 ⟨rfl, fun j hj => ?_⟩
          rw [getD_rep, Int.zero_add, x64_eq (getD_r hl j)]
          have := (getD_r hl j).1
          omega
      have get1 : ∀ p : Nat, (addGo (f - first).toNat 0 L (List.replicate N.toNat 0) bad).1.getD p 0 = sAt f L (first + p) := by
        intro p
        rw [addGo_get _ _ _ _ _ _ len1, getD_rep]
        split
        · rw [Int.zero_add, x64_eq (getD_r hl _)]
          unfold sAt
          rw [if_pos (by omega)]
          congr 1
          omega
        · exact (sAt_out (by omega)).symm
      rw [flag1]
      have len2 : (g - first).toNat + 0 + M.length ≤ (addGo (f - first).toNat 0 L (List.replicate N.toNat 0) bad).1.length := by rw [addGo_len, List.length_replicate]; omega
      have fl := addGo_flag (g - first).toNat M 0 (addGo (f - first).toNat 0 L (List.replicate N.toNat 0) bad).1 bad len2
      have get2 : ∀ p : Nat, (addGo (g - first).toNat 0 M (addGo (f - first).toNat 0 L (List.replicate N.toNat 0) bad).1 bad).1.getD p 0 = if (g - first).toNat ≤ p ∧ p < (g - first).toNat + M.length then x64 (sAt f L (first + p) + sAt g M (first + p)) else sAt f L (first + p) := by
        intro p
        rw [addGo_get _ _ _ _ _ _ len2, get1]
        simp only [Nat.add_zero]
        split
        · congr 2
          unfold sAt
          rw [if_pos (by omega)]
          congr 1
          omega
        · rfl
      have key : (∀ j, j < M.length → ¬ x64 ((addGo (f - first).toNat 0 L (List.replicate N.toNat 0) bad).1.getD ((g - first).toNat + 0 + j) 0 + M.getD j 0) < (addGo (f - first).toNat 0 L (List.replicate N.toNat 0) bad).1.getD ((g - first).toNat + 0 + j) 0) ↔ ∀ p, sAt f L p + sAt g M p < 18446744073709551616 := by
        constructor
        · intro h p
          by_cases h0 : sAt g M p = 0
          · rw [h0]; have := (sAt_r hl f p).2; omega
          · have hp := sAt_in h0
            have := h (p - g).toNat (by omega)
            rw [get1, ← sAt_at g M] at this
            have e1 : first + (((g - first).toNat + 0 + (p - g).toNat : Nat) : Int) = p := by omega
            have e2 : g + (((p - g).toNat : Nat) : Int) = p := by omega
            rw [e1, e2, wrap_lt (sAt_r hl f p) (sAt_r hm g p)] at this
            omega
        · intro h j hj
          rw [get1, ← sAt_at g M]
          have e1 : first + (((g - first).toNat + 0 + j : Nat) : Int) = g + j := by omega
          rw [e1, wrap_lt (sAt_r hl f _) (sAt_r hm g _)]
          have := h (g + j)
          omega
      rw [fl, key]
      refine ⟨Iff.rfl, fun h p => ?_⟩
      have hs := h.2 p
      have r1 := sAt_r hl f p
      have r2 := sAt_r hm g p
      by_cases hp : first ≤ p
      · have e := get2 (p - first).toNat
        have e1 : first + (((p - first).toNat : Nat) : Int) = p := by omega
        rw [e1] at e
        rw [show sAt first (addGo (g - first).toNat 0 M (addGo (f - first).toNat 0 L (List.replicate N.toNat 0) bad).1 bad).1 p = _ from if_pos hp, e]
        split
        · exact x64_eq (by omega)
        · rename_i hx
          have : sAt g M p = 0 := sAt_out (by omega)
          rw [this, Int.add_zero]
      · rw [sAt_out (f := f) (l := L) (by omega), sAt_out (f := g) (l := M) (by omega)]
        unfold sAt
        rw [if_neg hp]; rfl
end Sx
/-! Plain: in whatever order. -/
namespace Sx
open Go Go.Proofs
set_option linter.unusedVariables false
set_option maxRecDepth 30000
theorem hBadL_iff : ∀ {l m : List Int} (bad : Bool), l.length = m.length → R64 l → R64 m → (hBadL l m bad = false ↔ bad = false ∧ ∀ i, l.getD i 0 + m.getD i 0 < 18446744073709551616)
  | [], [], bad, _, _, _ => by rw [hBadL_nil]; simp
  | [], _ :: _, _, h, _, _ => by simp at h
  | _ :: _, [], _, h, _, _ => by simp at h
  | x :: l, y :: m, bad, h, hl, hm => by
    have hx := hl x List.mem_cons_self
    have hy := hm y List.mem_cons_self
    rw [hBadL, hBadL_iff _ (by simpa using h) (fun z hz => hl z (List.mem_cons_of_mem _ hz)) (fun z hz => hm z (List.mem_cons_of_mem _ hz)), Bool.or_eq_false_iff, decide_eq_false_iff_not, wrap_lt hx hy]
    constructor
    · rintro ⟨⟨h1, h2⟩, h3⟩
      refine ⟨h1, fun i => ?_⟩
      cases i with
      | zero => simp only [List.getD_cons_zero]; omega
      | succ i => exact h3 i
    · rintro ⟨h1, h2⟩
      exact ⟨⟨h1, by have := h2 0; simp only [List.getD_cons_zero] at this; omega⟩, fun i => h2 (i + 1)⟩
theorem hZip_get : ∀ {l m : List Int} (i : Nat), l.length = m.length → (hZip l m).getD i 0 = x64 (l.getD i 0 + m.getD i 0)
  | [], [], i, _ => by simp [hZip]; decide
  | [], _ :: _, _, h => by simp at h
  | _ :: _, [], _, h => by simp at h
  | x :: l, y :: m, 0, h => rfl
  | x :: l, y :: m, i + 1, h => hZip_get i (by simpa using h)
theorem hZip_r (l m : List Int) : R64 (hZip l m) := by
  intro x hx
  unfold hZip at hx
  obtain ⟨i, hi, rfl⟩ := List.getElem_of_mem hx
  rw [List.getElem_zipWith]
  exact x64_r _
theorem ext_getD {l m : List Int} (h : l.length = m.length) (hg : ∀ i, l.getD i 0 = m.getD i 0) : l = m := by
  refine List.ext_getElem h fun i i1 i2 => ?_
  have := hg i
  rw [List.getD_eq_getElem?_getD, List.getD_eq_getElem?_getD, List.getElem?_eq_getElem i1, List.getElem?_eq_getElem i2] at this
  exact this
def histO (a b : HistD) : Bool := unlikeB a b || hBad a b
structure HR (a : HistD) : Prop where
  r : R64 a.cs
  ct : 0 ≤ a.count ∧ a.count < 18446744073709551616
theorem hBad_iff {a b : HistD} (hA : HR a) (hB : HR b) (h : a.cs.length = b.cs.length) : hBad a b = false ↔ a.count + b.count < 18446744073709551616 ∧ ∀ i, a.cs.getD i 0 + b.cs.getD i 0 < 18446744073709551616 := by
  unfold hBad
  rw [hBadL_iff _ h hA.r hB.r, Bool.false_or, decide_eq_false_iff_not, wrap_lt hA.ct hB.ct]
  constructor
  · rintro ⟨h1, h2⟩; exact ⟨by omega, h2⟩
  · rintro ⟨h1, h2⟩; exact ⟨by omega, h2⟩
theorem HR.add {a b : HistD} (z : Int) : HR (histE a b z) := ⟨hZip_r _ _, x64_r _⟩
theorem like_iff {a b : HistD} : unlikeB a b = false ↔ a.cs.length = b.cs.length ∧ a.bs = b.bs := by
  constructor
  · exact unlike_len
  · rintro ⟨h1, h2⟩
    unfold unlikeB
    rw [h1, h2]; simp
/-- histograms added: (a + b) + c, a + (b + c) -/
theorem hist_assoc {a b c : HistD} {z z' : Int} (hA : HR a) (hB : HR b) (hC : HR c) (h1 : histO a b = false) (h2 : histO b c = false) :
    histO (histE a b z) c = histO a (histE b c z') ∧ (histO (histE a b z) c = false → hZip (histE a b z).cs c.cs = hZip a.cs (histE b c z').cs ∧ x64 ((histE a b z).count + c.count) = x64 (a.count + (histE b c z').count)) := by
  unfold histO at h1 h2
  rw [Bool.or_eq_false_iff] at h1 h2
  obtain ⟨u1, k1⟩ := h1
  obtain ⟨u2, k2⟩ := h2
  obtain ⟨l1, s1⟩ := like_iff.1 u1
  obtain ⟨l2, s2⟩ := like_iff.1 u2
  have kk1 := (hBad_iff hA hB l1).1 k1
  have kk2 := (hBad_iff hB hC l2).1 k2
  have lP : (histE a b z).cs.length = b.cs.length := hZip_len _ _ l1
  have lR : (histE b c z').cs.length = c.cs.length := hZip_len _ _ l2
  have uP : unlikeB (histE a b z) c = false := like_iff.2 ⟨by omega, s2⟩
  have uR : unlikeB a (histE b c z') = false := like_iff.2 ⟨by omega, s1.trans s2⟩
  have cP : (histE a b z).count = a.count + b.count := x64_eq ⟨by have := hA.ct; have := hB.ct; omega, kk1.1⟩
  have cR : (histE b c z').count = b.count + c.count := x64_eq ⟨by have := hB.ct; have := hC.ct; omega, kk2.1⟩
  have gP : ∀ i, (histE a b z).cs.getD i 0 = a.cs.getD i 0 + b.cs.getD i 0 := fun i => (hZip_get i l1).trans (x64_eq ⟨by have := getD_r hA.r i; have := getD_r hB.r i; omega, kk1.2 i⟩)
  have gR : ∀ i, (histE b c z').cs.getD i 0 = b.cs.getD i 0 + c.cs.getD i 0 := fun i => (hZip_get i l2).trans (x64_eq ⟨by have := getD_r hB.r i; have := getD_r hC.r i; omega, kk2.2 i⟩)
  have iP := hBad_iff (HR.add (a := a) (b := b) z) hC (by omega)
  have iR := hBad_iff hA (HR.add (a := b) (b := c) z') (by omega)
  have same : hBad (histE a b z) c = false ↔ hBad a (histE b c z') = false := by
    rw [iP, iR, cP, cR]
    constructor
    · rintro ⟨q1, q2⟩
      exact ⟨by omega, fun i => by have := q2 i; rw [gP] at this; rw [gR]; omega⟩
    · rintro ⟨q1, q2⟩
      exact ⟨by omega, fun i => by have := q2 i; rw [gR] at this; rw [gP]; omega⟩
  refine ⟨?_, fun h => ?_⟩
  · unfold histO
    rw [uP, uR, Bool.false_or, Bool.false_or]
    cases h3 : hBad (histE a b z) c with
    | false => exact (same.1 h3).symm
    | true =>
      cases h4 : hBad a (histE b c z') with
      | true => rfl
      | false => rw [same.2 h4] at h3; cases h3
  · refine ⟨ext_getD ?_ fun i => ?_, by rw [cP, cR, Int.add_assoc]⟩
    · rw [hZip_len _ _ (by omega), hZip_len _ _ (by omega), lR]
    · rw [hZip_get i (by omega), hZip_get i (by omega), gP, gR, Int.add_assoc]
theorem downGo_flag (f : Int) (n : Nat) : ∀ (l : List Int) (i : Nat) (c : List Int) (bad : Bool), downGo f n i l c bad = ((downGo f n i l c false).1, bad || (downGo f n i l c false).2)
  | [], _, _, bad => by simp [downGo]
  | x :: l, i, c, bad => by
    rw [downGo, downGo_flag f n l, downGo, downGo_flag f n l (i + 1) _ (false || _)]
    simp [Bool.or_assoc]
theorem downL_flag (f : Int) (l : List Int) (n : Nat) (bad : Bool) : downL f l n bad = ((downL f l n false).1, (downL f l n false).2.1, bad || (downL f l n false).2.2) := by
  unfold downL
  split
  · simp
  · rw [downGo_flag]
/-- one side of two, shifted and added -/
theorem oneSide_sem {s t : Int × List Int} {x y : Nat} {bad : Bool} :
    ((oneSide s t x y bad).2.2 = false ↔ bad = false ∧ (downL s.1 s.2 x false).2.2 = false ∧ (downL t.1 t.2 y false).2.2 = false ∧ ∀ p, sAt (downL s.1 s.2 x false).1 (downL s.1 s.2 x false).2.1 p + sAt (downL t.1 t.2 y false).1 (downL t.1 t.2 y false).2.1 p < 18446744073709551616) ∧
    ((oneSide s t x y bad).2.2 = false → ∀ p, sAt (oneSide s t x y bad).1 (oneSide s t x y bad).2.1 p = sAt (downL s.1 s.2 x false).1 (downL s.1 s.2 x false).2.1 p + sAt (downL t.1 t.2 y false).1 (downL t.1 t.2 y false).2.1 p) := by
  have h := addL_sem (f := (downL s.1 s.2 x false).1) (g := (downL t.1 t.2 y false).1) (downL_r s.1 s.2 x false) (downL_r t.1 t.2 y false) ((bad || (downL s.1 s.2 x false).2.2) || (downL t.1 t.2 y false).2.2)
  unfold oneSide
  rw [downL_flag s.1 s.2 x bad, downL_flag t.1 t.2 y _]
  simp only
  refine ⟨?_, h.2⟩
  rw [h.1, Bool.or_eq_false_iff, Bool.or_eq_false_iff, and_assoc, and_assoc]
theorem oneSide_swap {s t : Int × List Int} {x y : Nat} {bad : Bool} : ((oneSide s t x y bad).2.2 = (oneSide t s y x bad).2.2) ∧
    ((oneSide s t x y bad).2.2 = false → ∀ p, sAt (oneSide s t x y bad).1 (oneSide s t x y bad).2.1 p = sAt (oneSide t s y x bad).1 (oneSide t s y x bad).2.1 p) := by
  have a := oneSide_sem (s := s) (t := t) (x := x) (y := y) (bad := bad)
  have b := oneSide_sem (s := t) (t := s) (x := y) (y := x) (bad := bad)
  have e : (oneSide s t x y bad).2.2 = false ↔ (oneSide t s y x bad).2.2 = false := by
    rw [a.1, b.1]
    constructor
    · rintro ⟨h1, h2, h3, h4⟩; exact ⟨h1, h3, h2, fun p => by rw [Int.add_comm]; exact h4 p⟩
    · rintro ⟨h1, h2, h3, h4⟩; exact ⟨h1, h3, h2, fun p => by rw [Int.add_comm]; exact h4 p⟩
  refine ⟨?_, fun h p => by rw [a.2 h, b.2 (e.1 h), Int.add_comm]⟩
  cases h1 : (oneSide s t x y bad).2.2 with
  | false => exact (e.1 h1).symm
  | true =>
    cases h2 : (oneSide t s y x bad).2.2 with
    | true => rfl
    | false => rw [e.2 h2] at h1; cases h1
theorem wideV_swap (s t : Int × List Int) (x y : Nat) : wideV s t x y = wideV t s y x := by
  unfold wideV
  cases s.2 with
  | nil => cases t.2 <;> rfl
  | cons a r => cases t.2 with
    | nil => rfl
    | cons b q => simp only; split <;> split <;> split <;> split <;> omega
theorem shGo_swap (p1 p2 n1 n2 : Int × List Int) (most : Int) : ∀ (k : Nat) (x y s : Int) (d : Nat), shGo p2 p1 n2 n1 most k y x s d = (shGo p1 p2 n1 n2 most k x y s d).map fun r => (r.2.1, r.1, r.2.2)
  | 0, _, _, _, _ => rfl
  | k + 1, x, y, s, d => by
    rw [shGo, shGo, wideV_swap p2 p1, wideV_swap n2 n1, shGo_swap p1 p2 n1 n2 most k]
    have e : (if x > y then x else y) = (if y > x then y else x) := by split <;> split <;> omega
    rw [e]
    generalize (if y > x then y else x) = mx
    by_cases h1 : most < 1 ∨ most > 320 ∨ mx > 31 ∨ (0 < d ∧ s < -10)
    · rw [if_pos h1, if_pos h1]; rfl
    · rw [if_neg h1, if_neg h1]
      by_cases h2 : wideV p1 p2 x.toNat y.toNat ≤ most ∧ wideV n1 n2 x.toNat y.toNat ≤ most
      · rw [if_pos h2, if_pos h2]; rfl
      · rw [if_neg h2, if_neg h2]
theorem lesser_comm (a b : Int) : lesser a b = lesser b a := by unfold lesser; split <;> split <;> omega
theorem shV_swap (a b : ExpD) (most : Int) : shV b a most = (shV a b most).map fun r => (r.2.1, r.1, r.2.2) := by
  unfold shV
  rw [lesser_comm b.scale a.scale, shGo_swap]
theorem cntBad_swap {a b : ExpD} (ca : 0 ≤ a.count ∧ a.count < 18446744073709551616) (cb : 0 ≤ b.count ∧ b.count < 18446744073709551616) (za : 0 ≤ a.zero ∧ a.zero < 18446744073709551616) (zb : 0 ≤ b.zero ∧ b.zero < 18446744073709551616) : cntBad a b = cntBad b a := by
  unfold cntBad
  have e1 : decide (x64 (a.count + b.count) < a.count) = decide (x64 (b.count + a.count) < b.count) := decide_eq_decide.2 (by rw [wrap_lt ca cb, wrap_lt cb ca, Int.add_comm])
  have e2 : decide (x64 (a.zero + b.zero) < a.zero) = decide (x64 (b.zero + a.zero) < b.zero) := decide_eq_decide.2 (by rw [wrap_lt za zb, wrap_lt zb za, Int.add_comm])
  rw [e1, e2]
theorem side_swap {f g : Int} {l m : List Int} (h1 : -2147483648 ≤ f ∧ f < 2147483648) (h2 : l.length ≤ 1500) (h3 : -2147483648 ≤ g ∧ g < 2147483648) (h4 : m.length ≤ 1500) (rl : R64 l) (rm : R64 m) {x y : Nat} {bad : Bool} {most : Int} (hm : most ≤ 320)
    (hw : wideV (trim f l) (trim g m) x y ≤ most) (h : (oneSide (trim f l) (trim g m) x y bad).2.2 = false) :
    trim (oneSide (trim f l) (trim g m) x y bad).1 (oneSide (trim f l) (trim g m) x y bad).2.1 = trim (oneSide (trim g m) (trim f l) y x bad).1 (oneSide (trim g m) (trim f l) y x bad).2.1 := by
  have sw := oneSide_swap (s := trim f l) (t := trim g m) (x := x) (y := y) (bad := bad)
  have k := side_ok h1 h2 h3 h4 rl rm h
  have k' := side_ok h3 h4 h1 h2 rm rl (sw.1.symm.trans h)
  have e := sw.2 h
  have len := k.len
  have len' := k'.len
  rw [wideV_swap] at len'
  have lo := k.lo
  have hi := k.hi
  have lo' := k'.lo
  have hi' := k'.hi
  clear k k' sw h
  generalize oneSide (trim f l) (trim g m) x y bad = u at *
  generalize oneSide (trim g m) (trim f l) y x bad = v at *
  refine canon (trim_tight (by omega) (by omega)) (trim_tight (by omega) (by omega)) fun p => ?_
  rw [trim_at (by omega) (by omega), trim_at (by omega) (by omega)]
  exact e p
def Side (s : Int × List Int) : Prop := ∃ f l, s = trim f l ∧ (-2147483648 ≤ f ∧ f < 2147483648) ∧ l.length ≤ 1500 ∧ R64 l
theorem side_swap' {s t : Int × List Int} (hs : Side s) (ht : Side t) {x y : Nat} {bad : Bool} {most : Int} (hm : most ≤ 320) (hw : wideV s t x y ≤ most) (h : (oneSide s t x y bad).2.2 = false) :
    trim (oneSide s t x y bad).1 (oneSide s t x y bad).2.1 = trim (oneSide t s y x bad).1 (oneSide t s y x bad).2.1 := by
  obtain ⟨f, l, rfl, h1, h2, h3⟩ := hs
  obtain ⟨g, m, rfl, h4, h5, h6⟩ := ht
  exact side_swap h1 h2 h4 h5 h3 h6 hm hw h
theorem sdP_side {a : ExpD} (h : Fits a) (r : R64 a.cP) : Side (sdP a) := ⟨_, _, rfl, bifoff a.hasP ⟨h.2.2.1, h.2.2.2.1⟩, Nat.le_trans (side_len a.hasP a.cP) h.1, bif_r r⟩
theorem sdN_side {a : ExpD} (h : Fits a) (r : R64 a.cN) : Side (sdN a) := ⟨_, _, rfl, bifoff a.hasN ⟨h.2.2.2.2.1, h.2.2.2.2.2.1⟩, Nat.le_trans (side_len a.hasN a.cN) h.2.1, bif_r r⟩
theorem addP_def (a b : ExpD) (x y : Nat) : addP a b x y = oneSide (sdP a) (sdP b) x y (cntBad a b) := rfl
theorem addNn_def (a b : ExpD) (x y : Nat) : addNn a b x y = oneSide (sdN a) (sdN b) x y (addP a b x y).2.2 := rfl
theorem addBad_def (a b : ExpD) (x y : Nat) : addBad a b x y = ((addNn a b x y).2.2 || (bigS (addP a b x y).1 (addP a b x y).2.1 || bigS (addNn a b x y).1 (addNn a b x y).2.1)) := rfl
/-- points added: a + b, b + a -/
theorem exp_swap {a b : ExpD} {most : Int} {x y : Nat} (pA : Side (sdP a)) (nA : Side (sdN a)) (pB : Side (sdP b)) (nB : Side (sdN b)) (hc : cntBad a b = cntBad b a)
    (hm : most ≤ 320) (w1 : wideV (sdP a) (sdP b) x y ≤ most) (w2 : wideV (sdN a) (sdN b) x y ≤ most) :
    addBad a b x y = addBad b a y x ∧
    (addBad a b x y = false → trim (addP a b x y).1 (addP a b x y).2.1 = trim (addP b a y x).1 (addP b a y x).2.1 ∧ trim (addNn a b x y).1 (addNn a b x y).2.1 = trim (addNn b a y x).1 (addNn b a y x).2.1) := by
  rw [addBad_def, addBad_def, addNn_def, addNn_def b a, addP_def, addP_def b a, ← hc]
  generalize cntBad a b = bad
  generalize sdP a = p at *
  generalize sdP b = q at *
  generalize sdN a = m at *
  generalize sdN b = n at *
  have e1 := (oneSide_swap (s := p) (t := q) (x := x) (y := y) (bad := bad)).1
  rw [← e1]
  have s1 := side_swap' pA pB (bad := bad) hm w1
  generalize hb2 : (oneSide p q x y bad).2.2 = bad2 at *
  have e2 := (oneSide_swap (s := m) (t := n) (x := x) (y := y) (bad := bad2)).1
  rw [← e2]
  have s2 := side_swap' nA nB (bad := bad2) hm w2
  have k2 : (oneSide m n x y bad2).2.2 = false → bad2 = false := fun h => (oneSide_sem.1.1 h).1
  unfold bigS
  cases h : (oneSide m n x y bad2).2.2 with
  | true => simp
  | false =>
    rw [s1 (k2 h), s2 h]
    simp
end Sx
/-! Contracts: the reference's look at a histogram, as far as it is asked. -/
namespace Sx
open Go Go.Proofs
set_option linter.unusedVariables false
set_option maxRecDepth 30000
variable {G : Glob}
def anyB : Out SV := .all Bool (fun _ => True) ⟨true, trivial⟩ fun b => one (Bo b)
def anyI : Out SV := .all Int (fun _ => True) ⟨0, trivial⟩ fun n => one (I64 n)
def rszS : List U → Out SV
  | [.c (.v (.int .u64 x))] => anyU
  | _ => .fail
theorem rsz_ok : Ok G 112 rszS := by
  refine okP noneS Tryd.func112 rfl (by decide) fun K us hk => ?_
  unfold rszS at hk
  split at hk
  · refine ⟨by show 1 ≤ _; decide, ?_⟩
    conv => whnf
    exact hk _ trivial
  · exact hk.elim
def rngS : List U → Out SV
  | [.c (.v (.int .u64 x))] => anyB
  | _ => .fail
theorem rng_ok : Ok G 113 rngS := by
  refine okP noneS Tryd.func113 rfl (by decide) fun K us hk => ?_
  unfold rngS at hk
  split at hk
  · refine ⟨by show 1 ≤ _; decide, ?_⟩
    conv => whnf
    refine ⟨by decide, ?_⟩
    conv => whnf
    exact hk _ trivial
  · exact hk.elim
def rclsS : List U → Out SV
  | [.c (.v (.int .u64 x))] => anyI
  | _ => .fail
theorem rcls_ok : Ok G 97 rclsS := by
  refine okP noneS Tryd.func97 rfl (by decide) fun K us hk => ?_
  unfold rclsS at hk
  split at hk
  · refine ⟨by show 1 ≤ _; decide, ?_⟩
    conv => whnf
    refine ⟨by decide, ?_⟩
    conv => whnf
    repeat' first
      | exact hk _ trivial
      | (refine Ask.i (fun _ => ?_) (fun _ => ?_) <;> conv => whnf)
  · exact hk.elim
def rlessS : List U → Out SV
  | [.c (.v (.int .u64 x)), .c (.v (.int .u64 y))] => anyB
  | _ => .fail
theorem rless_ok : Ok G 98 rlessS := by
  have hS : AllSound (B [(97, .pure (normG (B []) [41] rclsS)), (112, .pure (normG (B []) [41] rszS)), (113, .pure (normG (B []) [41] rngS))]) G := .cons _ rcls_ok (.cons _ rsz_ok (.cons _ rng_ok noneS))
  refine okP hS Tryd.func98 rfl (by decide) fun K us hk => ?_
  unfold rlessS at hk
  split at hk
  · refine ⟨by show 2 ≤ _; decide, ?_⟩
    conv => whnf
    repeat' first
      | exact hk _ trivial
      | (refine Ask.i (fun _ => ?_) (fun _ => ?_) <;> conv => whnf)
      | (intro z hz; conv => whnf)
  · exact hk.elim
def upsideS : List U → Out SV
  | [.a [.v (.bool h), .v (.int .u64 n)], .a [.v (.bool h'), .v (.int .u64 n')]] => anyB
  | _ => .fail
theorem upside_ok : Ok G 64 upsideS := by
  have hS : AllSound (B [(98, .pure (normG (B []) [41, 41] rlessS))]) G := .cons _ rless_ok noneS
  refine okP hS Tryd.func64 rfl (by decide) fun K us hk => ?_
  unfold upsideS at hk
  split at hk
  · refine ⟨by show 2 ≤ _; decide, ?_⟩
    conv => whnf
    repeat' first
      | exact hk _ trivial
      | (refine Ask.i (fun _ => ?_) (fun _ => ?_) <;> conv => whnf)
      | (intro z hz; conv => whnf)
  · exact hk.elim
def twiceS : List U → Out SV
  | [.c (.d 40 x)] => .need (Typ TB (.sl 40) x) anyB
  | _ => .fail
theorem twice_ok : Ok G 96 twiceS := by
  refine okP noneS Tryd.func96 rfl (by decide) fun K us hk => ?_
  unfold twiceS at hk
  split at hk
  · rename_i x
    refine ⟨by show 1 ≤ _; decide, ?_⟩
    obtain ⟨hT, hk⟩ := hk
    obtain ⟨l, rfl, hl, hrow⟩ := hT.sl rfl
    conv => whnf
    refine ⟨[], _, _, rfl, Nat, (fun i => ([(0, .u (.c (.d 40 (.rows l)))), (3, .u (.c (I64 (i : Nat))))], [])),
      (fun i => i ≤ l.length), (fun i => l.length - i), fun x _ => rfl, ⟨0, Nat.zero_le _, ⟨rfl, rfl, trivial⟩, trivial⟩, ?_⟩
    intro i hi0
    conv => whnf
    refine Ask.i (fun c1 => ?_) (fun c1 => ?_)
    · have c1 : (i : Int) < ((l.length : Nat) : Int) := of_decide_eq_true c1
      have hi : i < l.length := by omega
      conv => whnf
      refine ⟨[], _, _, rfl, Nat, (fun j => ([(0, .u (.c (.d 40 (.rows l)))), (3, .u (.c (I64 (i : Nat)))), (4, .u (.c (I64 (j : Nat))))], [])),
        (fun j => j ≤ i), (fun j => i - j), fun x _ => rfl, ⟨0, Nat.zero_le _, ⟨rfl, rfl, rfl, trivial⟩, trivial⟩, ?_⟩
      intro j hj0
      conv => whnf
      refine Ask.i (fun c2 => ?_) (fun c2 => ?_)
      · have c2 : (j : Int) < (i : Int) := of_decide_eq_true c2
        conv => whnf
        refine ⟨mixed, [], [], [], by kernel_rfl, ?_⟩
        conv => whnf
        refine ⟨⟨by omega, c1⟩, ?_⟩
        conv => whnf
        refine ⟨⟨by omega, by show (j : Int) < ((l.length : Nat) : Int); omega⟩, ?_⟩
        conv => whnf
        refine Ask.i (fun c3 => ?_) (fun c3 => ?_)
        · conv => whnf
          exact hk _ trivial
        · conv => whnf
          exact ⟨j + 1, by omega, by show i - (j + 1) < i - j; omega, ⟨rfl, rfl, congrArg (fun z : Int => some (SV.u (.c (I64 z)))) (w64_eq (n := (j : Int) + 1) (by omega)), trivial⟩, trivial⟩
      · conv => whnf
        exact ⟨i + 1, hi, by show l.length - (i + 1) < l.length - i; omega, ⟨rfl, congrArg (fun z : Int => some (SV.u (.c (I64 z)))) (w64_eq (n := (i : Int) + 1) (by omega)), trivial⟩, trivial⟩
    · conv => whnf
      exact hk _ trivial
  · exact hk.elim
def baseS : List U → Out SV
  | [.c (.v (.int .u64 s)), .c (.v (.int .u64 t)), .c (.d 40 x)] => .need (Typ TB (.sl 40) x) (.all Int (fun n => n = 0 ∨ n = 4 ∨ n = 5 ∨ n = 6) ⟨0, .inl rfl⟩ fun n => one (I64 n))
  | _ => .fail
theorem base_ok : Ok G 61 baseS := by
  have hS : AllSound (B [(96, .pure (normG (B []) [40] twiceS))]) G := .cons _ twice_ok noneS
  refine okP hS Tryd.func61 rfl (by decide) fun K us hk => ?_
  unfold baseS at hk
  split at hk
  · refine ⟨by show 3 ≤ _; decide, ?_⟩
    obtain ⟨hT, hk⟩ := hk
    conv => whnf
    refine Ask.i (fun _ => ?_) (fun _ => ?_)
    · conv => whnf
      exact hk 4 (.inr (.inl rfl))
    · conv => whnf
      refine Ask.i (fun _ => ?_) (fun _ => ?_)
      · conv => whnf
        exact hk 5 (.inr (.inr (.inl rfl)))
      · conv => whnf
        refine ⟨hT, ?_⟩
        conv => whnf
        intro b hb
        cases b
        · conv => whnf
          exact hk 0 (.inl rfl)
        · conv => whnf
          exact hk 6 (.inr (.inr (.inr rfl)))
  · exact hk.elim
def risesS : List U → Out SV
  | [.c (.d 22 (.ints l))] => .need (l.length ≤ 68719476736) anyB
  | _ => .fail
theorem rises_ok : Ok G 63 risesS := by
  have hS : AllSound (B [(97, .pure (normG (B []) [41] rclsS)), (98, .pure (normG (B []) [41, 41] rlessS))]) G := .cons _ rcls_ok (.cons _ rless_ok noneS)
  refine okP hS Tryd.func63 rfl (by decide) fun K us hk => ?_
  unfold risesS at hk
  split at hk
  · rename_i l
    refine ⟨by show 1 ≤ _; decide, ?_⟩
    obtain ⟨hl, hk⟩ := hk
    conv => whnf
    refine ⟨[], _, _, rfl, Nat, (fun i => ([(0, .u (.c (.d 22 (.ints l)))), (3, .u (.c (I64 (i : Nat))))], [])),
      (fun i => i ≤ l.length), (fun i => l.length - i), fun x _ => rfl, ⟨0, Nat.zero_le _, ⟨rfl, rfl, trivial⟩, trivial⟩, ?_⟩
    intro i hi0
    conv => whnf
    refine Ask.i (fun c1 => ?_) (fun c1 => ?_)
    · have c1 : (i : Int) < ((l.length : Nat) : Int) := of_decide_eq_true c1
      have hi : i < l.length := by omega
      conv => whnf
      refine ⟨mixed, [], [], [], by kernel_rfl, ?_⟩
      conv => whnf
      refine ⟨⟨by omega, c1⟩, ?_⟩
      conv => whnf
      intro cl _
      conv => whnf
      refine Ask.i (fun c2 => ?_) (fun c2 => ?_)
      · conv => whnf
        exact hk _ trivial
      · conv => whnf
        refine Ask.i (fun c3 => ?_) (fun c3 => ?_)
        · have c3 : (i : Int) > 0 := of_decide_eq_true c3
          have hw : w64 ((i : Int) - 1) = (i : Int) - 1 := w64_eq (by omega)
          conv => whnf
          refine ⟨by show 0 ≤ w64 ((i : Int) - 1) ∧ w64 ((i : Int) - 1) < ((l.length : Nat) : Int); rw [hw]; omega, ?_⟩
          conv => whnf
          refine ⟨⟨by omega, c1⟩, ?_⟩
          conv => whnf
          intro b _
          cases b
          · conv => whnf
            exact hk _ trivial
          · conv => whnf
            exact ⟨i + 1, hi, by show l.length - (i + 1) < l.length - i; omega, ⟨rfl, congrArg (fun z : Int => some (SV.u (.c (I64 z)))) (w64_eq (n := (i : Int) + 1) (by omega)), trivial⟩, trivial⟩
        · conv => whnf
          exact ⟨i + 1, hi, by show l.length - (i + 1) < l.length - i; omega, ⟨rfl, congrArg (fun z : Int => some (SV.u (.c (I64 z)))) (w64_eq (n := (i : Int) + 1) (by omega)), trivial⟩, trivial⟩
    · conv => whnf
      exact hk _ trivial
  · exact hk.elim
def remV : Int → List Int → Bool
  | n, [] => n == 0
  | n, x :: l => bif decide (x > n) then false else remV (x64 (n - x)) l
theorem remV_S : ∀ (l : List Int) (n : Int), R64 l → 0 ≤ n ∧ n < 18446744073709551616 → remV n l = decide (n = S l)
  | [], n, _, _ => by rw [remV, S_nil]; rfl
  | x :: l, n, hl, hn => by
    have hx := hl x List.mem_cons_self
    have hr : R64 l := fun y hy => hl y (List.mem_cons_of_mem _ hy)
    have hs := S_nn hr
    rw [remV, S_cons]
    by_cases h : x > n
    · rw [decide_eq_true h, cond_true, decide_eq_false (by omega)]
    · rw [decide_eq_false h, cond_false, x64_eq (by omega), remV_S l (n - x) hr (by omega)]
      exact decide_eq_decide.2 (by omega)
def remS : List U → Out SV
  | [.c (.v (.int .u64 n)), .c (.d 22 (.ints l))] => .need (l.length ≤ 68719476736) (one (Bo (remV n l)))
  | _ => .fail
theorem rem_ok : Ok G 62 remS := by
  refine okP noneS Tryd.func62 rfl (by decide) fun K us hk => ?_
  unfold remS at hk
  split at hk
  · rename_i n l
    refine ⟨by show 2 ≤ _; decide, ?_⟩
    obtain ⟨hl, hk⟩ := hk
    conv => whnf
    refine ⟨[], _, _, rfl, Nat × Int, (fun y => ([(0, .u (.c (U64 y.2))), (1, .u (.c (.d 22 (.ints l)))), (5, .u (.c (I64 (y.1 : Nat))))], [])),
      (fun y => y.1 ≤ l.length ∧ remV y.2 (l.drop y.1) = remV n l), (fun y => l.length - y.1), fun x _ => rfl, ⟨(0, n), ⟨Nat.zero_le _, rfl⟩, ⟨rfl, rfl, rfl, trivial⟩, trivial⟩, ?_⟩
    rintro ⟨i, m⟩ ⟨p1, p2⟩
    simp only at p1 p2
    conv => whnf
    refine Ask.i (fun c1 => ?_) (fun c1 => ?_)
    · have c1 : (i : Int) < ((l.length : Nat) : Int) := of_decide_eq_true c1
      have hi : i < l.length := by omega
      have he : l.drop i = l.getD i 0 :: l.drop (i + 1) := by
        rw [List.drop_eq_getElem_cons hi, List.getD_eq_getElem?_getD, List.getElem?_eq_getElem hi]; rfl
      rw [he, remV] at p2
      conv => whnf
      refine ⟨⟨by omega, c1⟩, ?_⟩
      conv => whnf
      refine Ask.i (fun c2 => ?_) (fun c2 => ?_)
      · have c2 : decide (l.getD i 0 > m) = true := c2
        rw [c2] at p2
        conv => whnf
        rw [← p2] at hk
        exact hk
      · have c2 : decide (l.getD i 0 > m) = false := c2
        rw [c2] at p2
        conv => whnf
        refine ⟨⟨by omega, c1⟩, ?_⟩
        conv => whnf
        exact ⟨(i + 1, x64 (m - l.getD i 0)), ⟨hi, p2⟩, by show l.length - (i + 1) < l.length - i; omega, ⟨rfl, rfl, congrArg (fun z : Int => some (SV.u (.c (I64 z)))) (w64_eq (n := (i : Int) + 1) (by omega)), trivial⟩, trivial⟩
    · have c1 : ¬ (i : Int) < ((l.length : Nat) : Int) := of_decide_eq_false c1
      have hi : i = l.length := by omega
      rw [hi, List.drop_length, remV] at p2
      conv => whnf
      rw [← p2] at hk
      exact hk
  · exact hk.elim
/-- its counts fit its bounds and its total -/
def OkC (e : HistD) : Prop := e.cs.length + e.bs.length = 0 ∨ e.cs.length = e.bs.length + 1 ∧ e.count = S e.cs
def h18S : List U → Out SV
  | [.a l] => match asHist l with
    | some e => .need (Typ TB (.sl 40) e.attrs ∧ e.cs.length ≤ 1500 ∧ e.bs.length ≤ 1500 ∧ HR e) (.all Int (fun r => (r = 0 → OkC e) ∧ (r = 8 → ¬ OkC e)) ⟨1, by simp⟩ fun r => one (I64 r))
    | none => .fail
  | _ => .fail
theorem h18_ok : Ok G 26 h18S := by
  have hS : AllSound (B [(61, .pure (normG (B []) [41, 41, 40] baseS)), (62, .pure (normG (B []) [41, 22] remS)), (63, .pure (normG (B []) [22] risesS)), (64, .pure (normG (B []) [43, 43] upsideS))]) G := .cons _ base_ok (.cons _ rem_ok (.cons _ rises_ok (.cons _ upside_ok noneS)))
  refine okP hS Tryd.func26 rfl (by decide) fun K us hk => ?_
  unfold h18S at hk
  split at hk
  · rename_i l
    split at hk
    · rename_i e he
      rw [asHist_eq he]
      refine ⟨by show 1 ≤ _; decide, ?_⟩
      obtain ⟨⟨hT, h1, h2, hR⟩, hk⟩ := hk
      have hk : ∀ r : Int, (r = 0 → OkC e) ∧ (r = 8 → ¬ OkC e) → K (.u (.c (I64 r))) := hk
      have hrem := remV_S e.cs e.count hR.r hR.ct
      conv => whnf
      refine ⟨hT, ?_⟩
      conv => whnf
      intro r hr
      have hr : r = 0 ∨ r = 4 ∨ r = 5 ∨ r = 6 := hr
      conv => whnf
      refine Ask.i (fun c1 => ?_) (fun c1 => ?_)
      · have c1 : r > 0 := of_decide_eq_true c1
        conv => whnf
        exact hk r ⟨fun h => by omega, fun h => by omega⟩
      · conv => whnf
        have w1 : w64 (((e.cs.length : Nat) : Int) + ((e.bs.length : Nat) : Int)) = (e.cs.length : Nat) + (e.bs.length : Nat) := w64_eq (by omega)
        have w2 : w64 (((e.bs.length : Nat) : Int) + 1) = (e.bs.length : Nat) + 1 := w64_eq (by omega)
        have tail : OkC e → True := fun _ => trivial
        refine Ask.i (fun c2 => ?_) (fun c2 => ?_)
        · have c2 : w64 (((e.cs.length : Nat) : Int) + ((e.bs.length : Nat) : Int)) > 0 := of_decide_eq_true c2
          rw [w1] at c2
          conv => whnf
          refine Ask.i (fun c3 => ?_) (fun c3 => ?_)
          · have c3 : (((e.cs.length : Nat) : Int) != w64 (((e.bs.length : Nat) : Int) + 1)) = true := c3
            rw [w2] at c3
            simp only [bne_iff_ne, ne_eq] at c3
            conv => whnf
            exact hk 8 ⟨fun h => (by cases h), fun _ h => by rcases h with h | h <;> omega⟩
          · have c3 : (((e.cs.length : Nat) : Int) != w64 (((e.bs.length : Nat) : Int) + 1)) = false := c3
            rw [w2] at c3
            simp only [bne_eq_false_iff_eq] at c3
            conv => whnf
            refine ⟨by show e.cs.length ≤ 68719476736; omega, ?_⟩
            conv => whnf
            refine Ask.i (fun c4 => ?_) (fun c4 => ?_)
            · have c4 : (!(remV e.count e.cs)) = true := c4
              rw [hrem] at c4
              simp only [Bool.not_eq_true', decide_eq_false_iff_not] at c4
              conv => whnf
              exact hk 8 ⟨fun h => (by cases h), fun _ h => by rcases h with h | h; omega; exact c4 h.2⟩
            · have c4 : (!(remV e.count e.cs)) = false := c4
              rw [hrem] at c4
              simp only [Bool.not_eq_false', decide_eq_true_eq] at c4
              have good : OkC e := .inr ⟨by omega, c4⟩
              conv => whnf
              refine ⟨by show e.bs.length ≤ 68719476736; omega, ?_⟩
              conv => whnf
              intro b1 _
              cases b1
              · conv => whnf
                exact hk 9 ⟨fun h => (by cases h), fun h => by cases h⟩
              · conv => whnf
                intro b2 _
                cases b2
                · conv => whnf
                  exact hk 0 ⟨fun _ => good, fun h => by cases h⟩
                · conv => whnf
                  exact hk 11 ⟨fun h => (by cases h), fun h => by cases h⟩
        · have c2 : ¬ w64 (((e.cs.length : Nat) : Int) + ((e.bs.length : Nat) : Int)) > 0 := of_decide_eq_false c2
          rw [w1] at c2
          have good : OkC e := .inl (by omega)
          conv => whnf
          refine ⟨by show e.bs.length ≤ 68719476736; omega, ?_⟩
          conv => whnf
          intro b1 _
          cases b1
          · conv => whnf
            exact hk 9 ⟨fun h => (by cases h), fun h => by cases h⟩
          · conv => whnf
            intro b2 _
            cases b2
            · conv => whnf
              exact hk 0 ⟨fun _ => good, fun h => by cases h⟩
            · conv => whnf
              exact hk 11 ⟨fun h => (by cases h), fun h => by cases h⟩
    · exact hk.elim
  · exact hk.elim
end Sx
/-! The law MergeOrder: true. -/
namespace Sx
open Go Go.Proofs
set_option linter.unusedVariables false
set_option maxRecDepth 30000
variable {G : Glob}
def outH (p : Option HistD × Int) : Out SV := match p.1 with
  | none => .ret (.t [.a noH.cells, .c (errV p.2)])
  | some u => .ret (.t [.a u.cells, .c nilV])
def mhistW (k : Nat) : List U → Out SV
  | [.a la, .a lb] => match asHist la, asHist lb with
    | some a, some b => .need (HGood k b ∧ a.cs.length ≤ 1500 ∧ a.bs.length ≤ 1500) (.all (Option HistD × Int) (fun p => ∃ z, p.1 = bif histO a b then none else some (histE a b z)) ⟨(_, 0), 0, rfl⟩ outH)
    | _, _ => .fail
  | _ => .fail
theorem mhistW_ok {k : Nat} : Ok G 23 (mhistW k) := (mhist_ok (k := k)).mono fun us K hk => by
  unfold mhistW at hk
  split at hk
  · split at hk
    · rename_i la lb _ _ a b ha hb
      obtain ⟨⟨h1, h2, h3⟩, hk⟩ := hk
      unfold mhistS
      simp only [ha, hb]
      refine ⟨⟨h1, h2, h3, trivial⟩, fun c hc => ?_⟩
      cases c with
      | true => exact hk (none, 13) ⟨0, by unfold histO; rw [hc]; rfl⟩
      | false =>
        refine fun z _ c' hc' => ?_
        cases c' with
        | true => exact hk (none, 9) ⟨0, by unfold histO; rw [hc, hc']; rfl⟩
        | false => exact hk (some (histE a b z), 0) ⟨z, by unfold histO; rw [hc, hc']; rfl⟩
    · exact hk.elim
  · exact hk.elim
def expO (a b : ExpD) (most z : Int) : Option ExpD := bif a.thr != b.thr then none else match shV a b most with
  | none => none
  | some r => bif addBad a b r.1.toNat r.2.1.toNat then none else some (addE a b r.1.toNat r.2.1.toNat r.2.2 z)
def mexpX (k : Nat) : List U → Out SV
  | [.a la, .a lb, .c (.v (.int .i64 most))] => match asExp la, asExp lb with
    | some a, some b => .need (Good k a ∧ Good k b) (.all (Option ExpD × Int) (fun p => ∃ z, p.1 = expO a b most z) ⟨(_, 0), 0, rfl⟩ outE)
    | _, _ => .fail
  | _ => .fail
theorem mexpX_ok {k : Nat} : Ok G 28 (mexpX k) := (mexp_ok (k := k)).mono fun us K hk => by
  unfold mexpX at hk
  split at hk
  · split at hk
    · rename_i la lb most _ _ a b ha hb
      obtain ⟨⟨hA, hB⟩, hk⟩ := hk
      unfold mexpS
      simp only [ha, hb]
      refine ⟨⟨hA.fits, hB.fits, hB.t.attrs, hB.d.1, hB.t.ex, hB.d.2⟩, fun c hc => ?_⟩
      cases c with
      | true => exact hk (none, 13) ⟨0, by unfold expO; rw [hc]; rfl⟩
      | false =>
        refine fun o ho => ?_
        cases o with
        | none => exact hk (none, 9) ⟨0, by unfold expO; rw [hc, ho]; rfl⟩
        | some r =>
          refine ⟨?_, fun z _ c hc' => ?_⟩
          · unfold shV at ho
            obtain ⟨j, b1, rfl, b3, b4, b5, b6, _⟩ := shGo_spec ho
            have := lesser_le a.scale b.scale
            simp only; omega
          · cases c with
            | true => exact hk (none, 9) ⟨0, by unfold expO; simp only [hc, ho, cond_false]; rw [hc']; rfl⟩
            | false => exact hk (some (addE a b r.1.toNat r.2.1.toNat r.2.2 z), 0) ⟨z, by unfold expO; simp only [hc, ho, cond_false]; rw [hc']; rfl⟩
    · exact hk.elim
  · exact hk.elim
structure SameE (u v : ExpD) : Prop where
  scale : u.scale = v.scale
  count : u.count = v.count
  zero : u.zero = v.zero
  offP : u.offP = v.offP
  cP : u.cP = v.cP
  cN : u.cN = v.cN
  lP : u.cP.length ≤ 320
  lN : u.cN.length ≤ 320
theorem exp_order {k : Nat} {a b : ExpD} {most z z' : Int} (gA : Good k a) (gB : Good k b) : (expO a b most z = none ∧ expO b a most z' = none) ∨ ∃ u v, expO a b most z = some u ∧ expO b a most z' = some v ∧ SameE u v := by
  unfold expO
  have et : (b.thr != a.thr) = (a.thr != b.thr) := by
    cases h : (a.thr != b.thr) with
    | false =>
      simp only [bne_eq_false_iff_eq] at h ⊢
      exact h.symm
    | true =>
      simp only [bne_iff_ne, ne_eq] at h ⊢
      exact fun e => h e.symm
  rw [et, shV_swap a b]
  cases (a.thr != b.thr) with
  | true => exact .inl ⟨rfl, rfl⟩
  | false =>
    cases hr : shV a b most with
    | none => exact .inl ⟨rfl, rfl⟩
    | some r =>
      have hr' := hr
      unfold shV at hr'
      obtain ⟨j, _, _, m1, m2, _, _, _, w1, w2, _⟩ := shGo_spec hr'
      have e1 : r.1 = a.scale - lesser a.scale b.scale + (j : Int) := by rename_i h _ _ _ _; rw [h]
      have e2 : r.2.1 = b.scale - lesser a.scale b.scale + (j : Int) := by rename_i h _ _ _ _; rw [h]
      rw [← e1, ← e2] at w1 w2
      have hc := cntBad_swap gA.c.ct gB.c.ct gA.c.zr gB.c.zr
      have sw := exp_swap (sdP_side gA.fits gA.t.rP) (sdN_side gA.fits gA.t.rN) (sdP_side gB.fits gB.t.rP) (sdN_side gB.fits gB.t.rN) hc m2 w1 w2
      simp only [cond_false, Option.map_some]
      rw [← sw.1]
      cases hb : addBad a b r.1.toNat r.2.1.toNat with
      | true => exact .inl ⟨rfl, rfl⟩
      | false =>
        obtain ⟨t1, t2⟩ := sw.2 hb
        have fit := (add_ok' (z := z) gA.fits gB.fits gA.c.ct gB.c.ct gA.c.zr gB.c.zr gA.t.rP gA.t.rN gB.t.rP gB.t.rN hr hb).fit
        have lP := fit.lP
        have lN := fit.lN
        refine .inr ⟨_, _, rfl, rfl, ⟨rfl, ?_, ?_, ?_, ?_, ?_, by omega, by omega⟩⟩
        · show x64 (a.count + b.count) = x64 (b.count + a.count); rw [Int.add_comm]
        · show x64 (a.zero + b.zero) = x64 (b.zero + a.zero); rw [Int.add_comm]
        · show w32 (trim _ _).1 = w32 (trim _ _).1; rw [t1]
        · show (trim _ _).2 = (trim _ _).2; rw [t1]
        · show (trim _ _).2 = (trim _ _).2; rw [t2]
theorem HGood.add {k : Nat} {a b : HistD} {z : Int} (hB : HGood k b) : HGood k (histE a b z) := by
  refine ⟨hB.1, hB.2.1, hB.2.2.1, hB.2.2.2.1, ?_, hB.2.2.2.2.2⟩
  have := hB.2.2.2.2.1
  show (List.zipWith _ a.cs b.cs).length ≤ 1500
  rw [List.length_zipWith]; omega
theorem typ_nil {t : TypeId} {c : List Ct} (h : TB t = some (.rows c)) : Typ TB (.sl t) (.rows []) := .rows h (by simp) (fun r hr => by cases hr) (fun r hr => by cases hr)
theorem HGood.no {k : Nat} : HGood (k + 1) noH := ⟨typ_nil (t := 40) (c := [.str, .bool, .int .i64, .str, .bool, .int .u64, .sl 148, .sl 40, .str, .str, .str]) rfl, .rows (by simp) (by simp), typ_nil (t := 44) (c := [.sl 40, .int .u64, .int .i64, .int .u64, .str, .str, .str]) rfl, .rows (by simp) (by simp), by decide, by decide⟩
def lawOrderS (k : Nat) : List U → Out SV
  | [.a la, .a lb, .a lc, .a lx, .a ly, .c (.v (.int .i64 most))] => match asHist la, asHist lb, asHist lc, asExp lx, asExp ly with
    | some a, some b, some c, some x, some y => .need (a.Typ ∧ b.Typ ∧ c.Typ ∧ x.Typ ∧ y.Typ ∧ x.Cnt ∧ y.Cnt ∧ (a.Small → b.Small → c.Small → DpH (k + 1) a ∧ DpH (k + 1) b ∧ DpH (k + 1) c) ∧ (x.Small → y.Small → DpE (k + 1) x ∧ DpE (k + 1) y)) (one (Bo true))
    | _, _, _, _, _ => .fail
  | _ => .fail
set_option maxHeartbeats 8000000 in
theorem lawOrder_ok {k : Nat} : Ok G1 8 (lawOrderS k) := by
  have hS : AllSound (B [(10, .pure (normG (B []) [] firstS)), (22, .pure (normG (B []) [58] fewHS)), (18, .pure (normG (B []) [49] fewS)), (23, .pure (normG (B []) [56, 56] (mhistW (k + 1)))), (24, .pure (normG (B []) [22, 22] numsS)), (28, .pure (normG (B []) [47, 47, 3] (mexpX (k + 1))))]) G1 :=
    .cons _ first_ok (.cons _ fewH_ok (.cons _ few_ok (.cons _ mhistW_ok (.cons _ nums_ok (.cons _ mexpX_ok noneS)))))
  refine okP hS Tryd.func8 rfl (by decide) fun K us hk => ?_
  unfold lawOrderS at hk
  split at hk
  · split at hk
    · rename_i la lb lc lx ly most _ _ _ _ _ a b c x y ha hb hc hx hy
      rw [asHist_eq ha, asHist_eq hb, asHist_eq hc, asExp_eq hx, asExp_eq hy]
      refine ⟨by show 6 ≤ _; decide, ?_⟩
      obtain ⟨⟨tA, tB, tC, tX, tY, cX, cY, dH, dE⟩, hk⟩ := hk
      conv => whnf
      refine ⟨⟨tA, tB, tC⟩, ?_⟩
      conv => whnf
      intro f hf
      have hf : f = true → a.Small ∧ b.Small ∧ c.Small := hf
      cases f with
      | false =>
        conv => whnf
        exact hk
      | true =>
      obtain ⟨sA, sB, sC⟩ := hf rfl
      conv => whnf
      refine ⟨⟨tX, tY⟩, ?_⟩
      conv => whnf
      intro f hf
      have hf : f = true → x.Small ∧ y.Small := hf
      cases f with
      | false =>
        conv => whnf
        exact hk
      | true =>
      obtain ⟨sX, sY⟩ := hf rfl
      obtain ⟨d1, d2, d3⟩ := dH sA sB sC
      obtain ⟨d4, d5⟩ := dE sX sY
      have gX : Good (k + 1) x := ⟨tX, cX, sX, d4⟩
      have gY : Good (k + 1) y := ⟨tY, cY, sY, d5⟩
      have gB : HGood (k + 1) b := ⟨tB.attrs, d2.1, tB.ex, d2.2, sB.lC, sB.lB⟩
      have gC : HGood (k + 1) c := ⟨tC.attrs, d3.1, tC.ex, d3.2, sC.lC, sC.lB⟩
      have rA : HR a := ⟨tA.rC, tA.ct⟩
      have rB : HR b := ⟨tB.rC, tB.ct⟩
      have rC : HR c := ⟨tC.rC, tC.ct⟩
      conv => whnf
      refine ⟨⟨gB, sA.lC, sA.lB⟩, ?_⟩
      conv => whnf
      rintro ⟨o1, r1⟩ ⟨z1, h1⟩
      have h1 : o1 = bif histO a b then none else some (histE a b z1) := h1
      cases q1 : histO a b with
      | true =>
        rw [q1] at h1
        obtain rfl : o1 = none := h1
        conv => whnf
        refine ⟨⟨gC, by decide, by decide⟩, ?_⟩
        conv => whnf
        rintro ⟨o2, r2⟩ ⟨z2, h2⟩
        have h2 : o2 = bif histO noH c then none else some (histE noH c z2) := h2
        cases q2 : histO noH c with
        | true =>
          rw [q2] at h2
          obtain rfl : o2 = none := h2
          conv => whnf
          refine ⟨⟨gC, sB.lC, sB.lB⟩, ?_⟩
          conv => whnf
          rintro ⟨o3, r3⟩ ⟨z3, h3⟩
          have h3 : o3 = bif histO b c then none else some (histE b c z3) := h3
          cases q3 : histO b c with
          | true =>
            rw [q3] at h3
            obtain rfl : o3 = none := h3
            conv => whnf
            refine ⟨⟨HGood.no, sA.lC, sA.lB⟩, ?_⟩
            conv => whnf
            rintro ⟨o4, r4⟩ ⟨z4, h4⟩
            have h4 : o4 = bif histO a noH then none else some (histE a noH z4) := h4
            cases q4 : histO a noH with
            | true =>
              rw [q4] at h4
              obtain rfl : o4 = none := h4
              conv => whnf
              refine ⟨mixed, [], [], [], by kernel_rfl, ?_⟩
              conv => whnf
              refine ⟨⟨gX, gY⟩, ?_⟩
              conv => whnf
              rintro ⟨o5, r5⟩ ⟨z5, h5⟩
              have h5 : o5 = expO x y most z5 := h5
              have sw := fun z => exp_order (most := most) (z := z5) (z' := z) gX gY
              rw [← h5] at sw
              cases o5 with
              | none =>
                conv => whnf
                refine ⟨⟨gY, gX⟩, ?_⟩
                conv => whnf
                rintro ⟨o6, r6⟩ ⟨z6, h6⟩
                have h6 : o6 = expO y x most z6 := h6
                have sw := sw z6
                rw [← h6] at sw
                rcases sw with ⟨_, rfl⟩ | ⟨u, v, h, _⟩
                · conv => whnf
                  refine ⟨mixed, [], [], [], by kernel_rfl, ?_⟩
                  conv => whnf
                  exact hk
                · cases h
              | some u =>
                conv => whnf
                refine ⟨⟨gY, gX⟩, ?_⟩
                conv => whnf
                rintro ⟨o6, r6⟩ ⟨z6, h6⟩
                have h6 : o6 = expO y x most z6 := h6
                have sw := sw z6
                rw [← h6] at sw
                rcases sw with ⟨h, _⟩ | ⟨u', v, h, rfl, sm⟩
                · cases h
                obtain rfl := Option.some.inj h
                have lP := sm.lP
                have lN := sm.lN
                conv => whnf
                refine ⟨mixed, [], [], [], by kernel_rfl, ?_⟩
                conv => whnf
                refine Ask.i (fun _ => ?_) (fun c => by have c : (u.scale == v.scale) = false := c; rw [sm.scale] at c; simp at c)
                conv => whnf
                refine Ask.i (fun _ => ?_) (fun c => by have c : (u.count == v.count) = false := c; rw [sm.count] at c; simp at c)
                conv => whnf
                refine Ask.i (fun _ => ?_) (fun c => by have c : (u.zero == v.zero) = false := c; rw [sm.zero] at c; simp at c)
                conv => whnf
                refine Ask.i (fun _ => ?_) (fun c => by have c : (u.offP == v.offP) = false := c; rw [sm.offP] at c; simp at c)
                conv => whnf
                refine ⟨⟨by show u.cP.length ≤ 68719476736; omega, by show v.cP.length ≤ 68719476736; rw [← sm.cP]; omega⟩, ?_⟩
                conv => whnf
                refine Ask.i (fun _ => ?_) (fun c => absurd sm.cP (of_decide_eq_false c))
                conv => whnf
                refine ⟨⟨by show u.cN.length ≤ 68719476736; omega, by show v.cN.length ≤ 68719476736; rw [← sm.cN]; omega⟩, ?_⟩
                conv => whnf
                exact fin hk (congrArg (fun z : Bool => SV.u (.c (Bo z))) (decide_eq_true sm.cN).symm)
            | false =>
              rw [q4] at h4
              obtain rfl : o4 = some (histE a noH z4) := h4
              conv => whnf
              refine ⟨mixed, [], [], [], by kernel_rfl, ?_⟩
              conv => whnf
              refine ⟨⟨gX, gY⟩, ?_⟩
              conv => whnf
              rintro ⟨o5, r5⟩ ⟨z5, h5⟩
              have h5 : o5 = expO x y most z5 := h5
              have sw := fun z => exp_order (most := most) (z := z5) (z' := z) gX gY
              rw [← h5] at sw
              cases o5 with
              | none =>
                conv => whnf
                refine ⟨⟨gY, gX⟩, ?_⟩
                conv => whnf
                rintro ⟨o6, r6⟩ ⟨z6, h6⟩
                have h6 : o6 = expO y x most z6 := h6
                have sw := sw z6
                rw [← h6] at sw
                rcases sw with ⟨_, rfl⟩ | ⟨u, v, h, _⟩
                · conv => whnf
                  refine ⟨mixed, [], [], [], by kernel_rfl, ?_⟩
                  conv => whnf
                  exact hk
                · cases h
              | some u =>
                conv => whnf
                refine ⟨⟨gY, gX⟩, ?_⟩
                conv => whnf
                rintro ⟨o6, r6⟩ ⟨z6, h6⟩
                have h6 : o6 = expO y x most z6 := h6
                have sw := sw z6
                rw [← h6] at sw
                rcases sw with ⟨h, _⟩ | ⟨u', v, h, rfl, sm⟩
                · cases h
                obtain rfl := Option.some.inj h
                have lP := sm.lP
                have lN := sm.lN
                conv => whnf
                refine ⟨mixed, [], [], [], by kernel_rfl, ?_⟩
                conv => whnf
                refine Ask.i (fun _ => ?_) (fun c => by have c : (u.scale == v.scale) = false := c; rw [sm.scale] at c; simp at c)
                conv => whnf
                refine Ask.i (fun _ => ?_) (fun c => by have c : (u.count == v.count) = false := c; rw [sm.count] at c; simp at c)
                conv => whnf
                refine Ask.i (fun _ => ?_) (fun c => by have c : (u.zero == v.zero) = false := c; rw [sm.zero] at c; simp at c)
                conv => whnf
                refine Ask.i (fun _ => ?_) (fun c => by have c : (u.offP == v.offP) = false := c; rw [sm.offP] at c; simp at c)
                conv => whnf
                refine ⟨⟨by show u.cP.length ≤ 68719476736; omega, by show v.cP.length ≤ 68719476736; rw [← sm.cP]; omega⟩, ?_⟩
                conv => whnf
                refine Ask.i (fun _ => ?_) (fun c => absurd sm.cP (of_decide_eq_false c))
                conv => whnf
                refine ⟨⟨by show u.cN.length ≤ 68719476736; omega, by show v.cN.length ≤ 68719476736; rw [← sm.cN]; omega⟩, ?_⟩
                conv => whnf
                exact fin hk (congrArg (fun z : Bool => SV.u (.c (Bo z))) (decide_eq_true sm.cN).symm)
          | false =>
            rw [q3] at h3
            obtain rfl : o3 = some (histE b c z3) := h3
            conv => whnf
            refine ⟨⟨gC.add, sA.lC, sA.lB⟩, ?_⟩
            conv => whnf
            rintro ⟨o4, r4⟩ ⟨z4, h4⟩
            have h4 : o4 = bif histO a (histE b c z3) then none else some (histE a (histE b c z3) z4) := h4
            cases q4 : histO a (histE b c z3) with
            | true =>
              rw [q4] at h4
              obtain rfl : o4 = none := h4
              conv => whnf
              refine ⟨mixed, [], [], [], by kernel_rfl, ?_⟩
              conv => whnf
              refine ⟨⟨gX, gY⟩, ?_⟩
              conv => whnf
              rintro ⟨o5, r5⟩ ⟨z5, h5⟩
              have h5 : o5 = expO x y most z5 := h5
              have sw := fun z => exp_order (most := most) (z := z5) (z' := z) gX gY
              rw [← h5] at sw
              cases o5 with
              | none =>
                conv => whnf
                refine ⟨⟨gY, gX⟩, ?_⟩
                conv => whnf
                rintro ⟨o6, r6⟩ ⟨z6, h6⟩
                have h6 : o6 = expO y x most z6 := h6
                have sw := sw z6
                rw [← h6] at sw
                rcases sw with ⟨_, rfl⟩ | ⟨u, v, h, _⟩
                · conv => whnf
                  refine ⟨mixed, [], [], [], by kernel_rfl, ?_⟩
                  conv => whnf
                  exact hk
                · cases h
              | some u =>
                conv => whnf
                refine ⟨⟨gY, gX⟩, ?_⟩
                conv => whnf
                rintro ⟨o6, r6⟩ ⟨z6, h6⟩
                have h6 : o6 = expO y x most z6 := h6
                have sw := sw z6
                rw [← h6] at sw
                rcases sw with ⟨h, _⟩ | ⟨u', v, h, rfl, sm⟩
                · cases h
                obtain rfl := Option.some.inj h
                have lP := sm.lP
                have lN := sm.lN
                conv => whnf
                refine ⟨mixed, [], [], [], by kernel_rfl, ?_⟩
                conv => whnf
                refine Ask.i (fun _ => ?_) (fun c => by have c : (u.scale == v.scale) = false := c; rw [sm.scale] at c; simp at c)
                conv => whnf
                refine Ask.i (fun _ => ?_) (fun c => by have c : (u.count == v.count) = false := c; rw [sm.count] at c; simp at c)
                conv => whnf
                refine Ask.i (fun _ => ?_) (fun c => by have c : (u.zero == v.zero) = false := c; rw [sm.zero] at c; simp at c)
                conv => whnf
                refine Ask.i (fun _ => ?_) (fun c => by have c : (u.offP == v.offP) = false := c; rw [sm.offP] at c; simp at c)
                conv => whnf
                refine ⟨⟨by show u.cP.length ≤ 68719476736; omega, by show v.cP.length ≤ 68719476736; rw [← sm.cP]; omega⟩, ?_⟩
                conv => whnf
                refine Ask.i (fun _ => ?_) (fun c => absurd sm.cP (of_decide_eq_false c))
                conv => whnf
                refine ⟨⟨by show u.cN.length ≤ 68719476736; omega, by show v.cN.length ≤ 68719476736; rw [← sm.cN]; omega⟩, ?_⟩
                conv => whnf
                exact fin hk (congrArg (fun z : Bool => SV.u (.c (Bo z))) (decide_eq_true sm.cN).symm)
            | false =>
              rw [q4] at h4
              obtain rfl : o4 = some (histE a (histE b c z3) z4) := h4
              conv => whnf
              refine ⟨mixed, [], [], [], by kernel_rfl, ?_⟩
              conv => whnf
              refine ⟨⟨gX, gY⟩, ?_⟩
              conv => whnf
              rintro ⟨o5, r5⟩ ⟨z5, h5⟩
              have h5 : o5 = expO x y most z5 := h5
              have sw := fun z => exp_order (most := most) (z := z5) (z' := z) gX gY
              rw [← h5] at sw
              cases o5 with
              | none =>
                conv => whnf
                refine ⟨⟨gY, gX⟩, ?_⟩
                conv => whnf
                rintro ⟨o6, r6⟩ ⟨z6, h6⟩
                have h6 : o6 = expO y x most z6 := h6
                have sw := sw z6
                rw [← h6] at sw
                rcases sw with ⟨_, rfl⟩ | ⟨u, v, h, _⟩
                · conv => whnf
                  refine ⟨mixed, [], [], [], by kernel_rfl, ?_⟩
                  conv => whnf
                  exact hk
                · cases h
              | some u =>
                conv => whnf
                refine ⟨⟨gY, gX⟩, ?_⟩
                conv => whnf
                rintro ⟨o6, r6⟩ ⟨z6, h6⟩
                have h6 : o6 = expO y x most z6 := h6
                have sw := sw z6
                rw [← h6] at sw
                rcases sw with ⟨h, _⟩ | ⟨u', v, h, rfl, sm⟩
                · cases h
                obtain rfl := Option.some.inj h
                have lP := sm.lP
                have lN := sm.lN
                conv => whnf
                refine ⟨mixed, [], [], [], by kernel_rfl, ?_⟩
                conv => whnf
                refine Ask.i (fun _ => ?_) (fun c => by have c : (u.scale == v.scale) = false := c; rw [sm.scale] at c; simp at c)
                conv => whnf
                refine Ask.i (fun _ => ?_) (fun c => by have c : (u.count == v.count) = false := c; rw [sm.count] at c; simp at c)
                conv => whnf
                refine Ask.i (fun _ => ?_) (fun c => by have c : (u.zero == v.zero) = false := c; rw [sm.zero] at c; simp at c)
                conv => whnf
                refine Ask.i (fun _ => ?_) (fun c => by have c : (u.offP == v.offP) = false := c; rw [sm.offP] at c; simp at c)
                conv => whnf
                refine ⟨⟨by show u.cP.length ≤ 68719476736; omega, by show v.cP.length ≤ 68719476736; rw [← sm.cP]; omega⟩, ?_⟩
                conv => whnf
                refine Ask.i (fun _ => ?_) (fun c => absurd sm.cP (of_decide_eq_false c))
                conv => whnf
                refine ⟨⟨by show u.cN.length ≤ 68719476736; omega, by show v.cN.length ≤ 68719476736; rw [← sm.cN]; omega⟩, ?_⟩
                conv => whnf
                exact fin hk (congrArg (fun z : Bool => SV.u (.c (Bo z))) (decide_eq_true sm.cN).symm)
        | false =>
          rw [q2] at h2
          obtain rfl : o2 = some (histE noH c z2) := h2
          conv => whnf
          refine ⟨⟨gC, sB.lC, sB.lB⟩, ?_⟩
          conv => whnf
          rintro ⟨o3, r3⟩ ⟨z3, h3⟩
          have h3 : o3 = bif histO b c then none else some (histE b c z3) := h3
          cases q3 : histO b c with
          | true =>
            rw [q3] at h3
            obtain rfl : o3 = none := h3
            conv => whnf
            refine ⟨⟨HGood.no, sA.lC, sA.lB⟩, ?_⟩
            conv => whnf
            rintro ⟨o4, r4⟩ ⟨z4, h4⟩
            have h4 : o4 = bif histO a noH then none else some (histE a noH z4) := h4
            cases q4 : histO a noH with
            | true =>
              rw [q4] at h4
              obtain rfl : o4 = none := h4
              conv => whnf
              refine ⟨mixed, [], [], [], by kernel_rfl, ?_⟩
              conv => whnf
              refine ⟨⟨gX, gY⟩, ?_⟩
              conv => whnf
              rintro ⟨o5, r5⟩ ⟨z5, h5⟩
              have h5 : o5 = expO x y most z5 := h5
              have sw := fun z => exp_order (most := most) (z := z5) (z' := z) gX gY
              rw [← h5] at sw
              cases o5 with
              | none =>
                conv => whnf
                refine ⟨⟨gY, gX⟩, ?_⟩
                conv => whnf
                rintro ⟨o6, r6⟩ ⟨z6, h6⟩
                have h6 : o6 = expO y x most z6 := h6
                have sw := sw z6
                rw [← h6] at sw
                rcases sw with ⟨_, rfl⟩ | ⟨u, v, h, _⟩
                · conv => whnf
                  refine ⟨mixed, [], [], [], by kernel_rfl, ?_⟩
                  conv => whnf
                  exact hk
                · cases h
              | some u =>
                conv => whnf
                refine ⟨⟨gY, gX⟩, ?_⟩
                conv => whnf
                rintro ⟨o6, r6⟩ ⟨z6, h6⟩
                have h6 : o6 = expO y x most z6 := h6
                have sw := sw z6
                rw [← h6] at sw
                rcases sw with ⟨h, _⟩ | ⟨u', v, h, rfl, sm⟩
                · cases h
                obtain rfl := Option.some.inj h
                have lP := sm.lP
                have lN := sm.lN
                conv => whnf
                refine ⟨mixed, [], [], [], by kernel_rfl, ?_⟩
                conv => whnf
                refine Ask.i (fun _ => ?_) (fun c => by have c : (u.scale == v.scale) = false := c; rw [sm.scale] at c; simp at c)
                conv => whnf
                refine Ask.i (fun _ => ?_) (fun c => by have c : (u.count == v.count) = false := c; rw [sm.count] at c; simp at c)
                conv => whnf
                refine Ask.i (fun _ => ?_) (fun c => by have c : (u.zero == v.zero) = false := c; rw [sm.zero] at c; simp at c)
                conv => whnf
                refine Ask.i (fun _ => ?_) (fun c => by have c : (u.offP == v.offP) = false := c; rw [sm.offP] at c; simp at c)
                conv => whnf
                refine ⟨⟨by show u.cP.length ≤ 68719476736; omega, by show v.cP.length ≤ 68719476736; rw [← sm.cP]; omega⟩, ?_⟩
                conv => whnf
                refine Ask.i (fun _ => ?_) (fun c => absurd sm.cP (of_decide_eq_false c))
                conv => whnf
                refine ⟨⟨by show u.cN.length ≤ 68719476736; omega, by show v.cN.length ≤ 68719476736; rw [← sm.cN]; omega⟩, ?_⟩
                conv => whnf
                exact fin hk (congrArg (fun z : Bool => SV.u (.c (Bo z))) (decide_eq_true sm.cN).symm)
            | false =>
              rw [q4] at h4
              obtain rfl : o4 = some (histE a noH z4) := h4
              conv => whnf
              refine ⟨mixed, [], [], [], by kernel_rfl, ?_⟩
              conv => whnf
              refine ⟨⟨gX, gY⟩, ?_⟩
              conv => whnf
              rintro ⟨o5, r5⟩ ⟨z5, h5⟩
              have h5 : o5 = expO x y most z5 := h5
              have sw := fun z => exp_order (most := most) (z := z5) (z' := z) gX gY
              rw [← h5] at sw
              cases o5 with
              | none =>
                conv => whnf
                refine ⟨⟨gY, gX⟩, ?_⟩
                conv => whnf
                rintro ⟨o6, r6⟩ ⟨z6, h6⟩
                have h6 : o6 = expO y x most z6 := h6
                have sw := sw z6
                rw [← h6] at sw
                rcases sw with ⟨_, rfl⟩ | ⟨u, v, h, _⟩
                · conv => whnf
                  refine ⟨mixed, [], [], [], by kernel_rfl, ?_⟩
                  conv => whnf
                  exact hk
                · cases h
              | some u =>
                conv => whnf
                refine ⟨⟨gY, gX⟩, ?_⟩
                conv => whnf
                rintro ⟨o6, r6⟩ ⟨z6, h6⟩
                have h6 : o6 = expO y x most z6 := h6
                have sw := sw z6
                rw [← h6] at sw
                rcases sw with ⟨h, _⟩ | ⟨u', v, h, rfl, sm⟩
                · cases h
                obtain rfl := Option.some.inj h
                have lP := sm.lP
                have lN := sm.lN
                conv => whnf
                refine ⟨mixed, [], [], [], by kernel_rfl, ?_⟩
                conv => whnf
                refine Ask.i (fun _ => ?_) (fun c => by have c : (u.scale == v.scale) = false := c; rw [sm.scale] at c; simp at c)
                conv => whnf
                refine Ask.i (fun _ => ?_) (fun c => by have c : (u.count == v.count) = false := c; rw [sm.count] at c; simp at c)
                conv => whnf
                refine Ask.i (fun _ => ?_) (fun c => by have c : (u.zero == v.zero) = false := c; rw [sm.zero] at c; simp at c)
                conv => whnf
                refine Ask.i (fun _ => ?_) (fun c => by have c : (u.offP == v.offP) = false := c; rw [sm.offP] at c; simp at c)
                conv => whnf
                refine ⟨⟨by show u.cP.length ≤ 68719476736; omega, by show v.cP.length ≤ 68719476736; rw [← sm.cP]; omega⟩, ?_⟩
                conv => whnf
                refine Ask.i (fun _ => ?_) (fun c => absurd sm.cP (of_decide_eq_false c))
                conv => whnf
                refine ⟨⟨by show u.cN.length ≤ 68719476736; omega, by show v.cN.length ≤ 68719476736; rw [← sm.cN]; omega⟩, ?_⟩
                conv => whnf
                exact fin hk (congrArg (fun z : Bool => SV.u (.c (Bo z))) (decide_eq_true sm.cN).symm)
          | false =>
            rw [q3] at h3
            obtain rfl : o3 = some (histE b c z3) := h3
            conv => whnf
            refine ⟨⟨gC.add, sA.lC, sA.lB⟩, ?_⟩
            conv => whnf
            rintro ⟨o4, r4⟩ ⟨z4, h4⟩
            have h4 : o4 = bif histO a (histE b c z3) then none else some (histE a (histE b c z3) z4) := h4
            cases q4 : histO a (histE b c z3) with
            | true =>
              rw [q4] at h4
              obtain rfl : o4 = none := h4
              conv => whnf
              refine ⟨mixed, [], [], [], by kernel_rfl, ?_⟩
              conv => whnf
              refine ⟨⟨gX, gY⟩, ?_⟩
              conv => whnf
              rintro ⟨o5, r5⟩ ⟨z5, h5⟩
              have h5 : o5 = expO x y most z5 := h5
              have sw := fun z => exp_order (most := most) (z := z5) (z' := z) gX gY
              rw [← h5] at sw
              cases o5 with
              | none =>
                conv => whnf
                refine ⟨⟨gY, gX⟩, ?_⟩
                conv => whnf
                rintro ⟨o6, r6⟩ ⟨z6, h6⟩
                have h6 : o6 = expO y x most z6 := h6
                have sw := sw z6
                rw [← h6] at sw
                rcases sw with ⟨_, rfl⟩ | ⟨u, v, h, _⟩
                · conv => whnf
                  refine ⟨mixed, [], [], [], by kernel_rfl, ?_⟩
                  conv => whnf
                  exact hk
                · cases h
              | some u =>
                conv => whnf
                refine ⟨⟨gY, gX⟩, ?_⟩
                conv => whnf
                rintro ⟨o6, r6⟩ ⟨z6, h6⟩
                have h6 : o6 = expO y x most z6 := h6
                have sw := sw z6
                rw [← h6] at sw
                rcases sw with ⟨h, _⟩ | ⟨u', v, h, rfl, sm⟩
                · cases h
                obtain rfl := Option.some.inj h
                have lP := sm.lP
                have lN := sm.lN
                conv => whnf
                refine ⟨mixed, [], [], [], by kernel_rfl, ?_⟩
                conv => whnf
                refine Ask.i (fun _ => ?_) (fun c => by have c : (u.scale == v.scale) = false := c; rw [sm.scale] at c; simp at c)
                conv => whnf
                refine Ask.i (fun _ => ?_) (fun c => by have c : (u.count == v.count) = false := c; rw [sm.count] at c; simp at c)
                conv => whnf
                refine Ask.i (fun _ => ?_) (fun c => by have c : (u.zero == v.zero) = false := c; rw [sm.zero] at c; simp at c)
                conv => whnf
                refine Ask.i (fun _ => ?_) (fun c => by have c : (u.offP == v.offP) = false := c; rw [sm.offP] at c; simp at c)
                conv => whnf
                refine ⟨⟨by show u.cP.length ≤ 68719476736; omega, by show v.cP.length ≤ 68719476736; rw [← sm.cP]; omega⟩, ?_⟩
                conv => whnf
                refine Ask.i (fun _ => ?_) (fun c => absurd sm.cP (of_decide_eq_false c))
                conv => whnf
                refine ⟨⟨by show u.cN.length ≤ 68719476736; omega, by show v.cN.length ≤ 68719476736; rw [← sm.cN]; omega⟩, ?_⟩
                conv => whnf
                exact fin hk (congrArg (fun z : Bool => SV.u (.c (Bo z))) (decide_eq_true sm.cN).symm)
            | false =>
              rw [q4] at h4
              obtain rfl : o4 = some (histE a (histE b c z3) z4) := h4
              conv => whnf
              refine ⟨mixed, [], [], [], by kernel_rfl, ?_⟩
              conv => whnf
              refine ⟨⟨gX, gY⟩, ?_⟩
              conv => whnf
              rintro ⟨o5, r5⟩ ⟨z5, h5⟩
              have h5 : o5 = expO x y most z5 := h5
              have sw := fun z => exp_order (most := most) (z := z5) (z' := z) gX gY
              rw [← h5] at sw
              cases o5 with
              | none =>
                conv => whnf
                refine ⟨⟨gY, gX⟩, ?_⟩
                conv => whnf
                rintro ⟨o6, r6⟩ ⟨z6, h6⟩
                have h6 : o6 = expO y x most z6 := h6
                have sw := sw z6
                rw [← h6] at sw
                rcases sw with ⟨_, rfl⟩ | ⟨u, v, h, _⟩
                · conv => whnf
                  refine ⟨mixed, [], [], [], by kernel_rfl, ?_⟩
                  conv => whnf
                  exact hk
                · cases h
              | some u =>
                conv => whnf
                refine ⟨⟨gY, gX⟩, ?_⟩
                conv => whnf
                rintro ⟨o6, r6⟩ ⟨z6, h6⟩
                have h6 : o6 = expO y x most z6 := h6
                have sw := sw z6
                rw [← h6] at sw
                rcases sw with ⟨h, _⟩ | ⟨u', v, h, rfl, sm⟩
                · cases h
                obtain rfl := Option.some.inj h
                have lP := sm.lP
                have lN := sm.lN
                conv => whnf
                refine ⟨mixed, [], [], [], by kernel_rfl, ?_⟩
                conv => whnf
                refine Ask.i (fun _ => ?_) (fun c => by have c : (u.scale == v.scale) = false := c; rw [sm.scale] at c; simp at c)
                conv => whnf
                refine Ask.i (fun _ => ?_) (fun c => by have c : (u.count == v.count) = false := c; rw [sm.count] at c; simp at c)
                conv => whnf
                refine Ask.i (fun _ => ?_) (fun c => by have c : (u.zero == v.zero) = false := c; rw [sm.zero] at c; simp at c)
                conv => whnf
                refine Ask.i (fun _ => ?_) (fun c => by have c : (u.offP == v.offP) = false := c; rw [sm.offP] at c; simp at c)
                conv => whnf
                refine ⟨⟨by show u.cP.length ≤ 68719476736; omega, by show v.cP.length ≤ 68719476736; rw [← sm.cP]; omega⟩, ?_⟩
                conv => whnf
                refine Ask.i (fun _ => ?_) (fun c => absurd sm.cP (of_decide_eq_false c))
                conv => whnf
                refine ⟨⟨by show u.cN.length ≤ 68719476736; omega, by show v.cN.length ≤ 68719476736; rw [← sm.cN]; omega⟩, ?_⟩
                conv => whnf
                exact fin hk (congrArg (fun z : Bool => SV.u (.c (Bo z))) (decide_eq_true sm.cN).symm)
      | false =>
        rw [q1] at h1
        obtain rfl : o1 = some (histE a b z1) := h1
        have gP : HGood (k + 1) (histE a b z1) := gB.add
        conv => whnf
        refine ⟨⟨gC, gP.2.2.2.2.1, gP.2.2.2.2.2⟩, ?_⟩
        conv => whnf
        rintro ⟨o2, r2⟩ ⟨z2, h2⟩
        have h2 : o2 = bif histO (histE a b z1) c then none else some (histE (histE a b z1) c z2) := h2
        cases q2 : histO (histE a b z1) c with
        | true =>
          rw [q2] at h2
          obtain rfl : o2 = none := h2
          conv => whnf
          refine ⟨⟨gC, sB.lC, sB.lB⟩, ?_⟩
          conv => whnf
          rintro ⟨o3, r3⟩ ⟨z3, h3⟩
          have h3 : o3 = bif histO b c then none else some (histE b c z3) := h3
          cases q3 : histO b c with
          | true =>
            rw [q3] at h3
            obtain rfl : o3 = none := h3
            conv => whnf
            refine ⟨⟨HGood.no, sA.lC, sA.lB⟩, ?_⟩
            conv => whnf
            rintro ⟨o4, r4⟩ ⟨z4, h4⟩
            have h4 : o4 = bif histO a noH then none else some (histE a noH z4) := h4
            cases q4 : histO a noH with
            | true =>
              rw [q4] at h4
              obtain rfl : o4 = none := h4
              conv => whnf
              refine ⟨mixed, [], [], [], by kernel_rfl, ?_⟩
              conv => whnf
              refine ⟨⟨gX, gY⟩, ?_⟩
              conv => whnf
              rintro ⟨o5, r5⟩ ⟨z5, h5⟩
              have h5 : o5 = expO x y most z5 := h5
              have sw := fun z => exp_order (most := most) (z := z5) (z' := z) gX gY
              rw [← h5] at sw
              cases o5 with
              | none =>
                conv => whnf
                refine ⟨⟨gY, gX⟩, ?_⟩
                conv => whnf
                rintro ⟨o6, r6⟩ ⟨z6, h6⟩
                have h6 : o6 = expO y x most z6 := h6
                have sw := sw z6
                rw [← h6] at sw
                rcases sw with ⟨_, rfl⟩ | ⟨u, v, h, _⟩
                · conv => whnf
                  refine ⟨mixed, [], [], [], by kernel_rfl, ?_⟩
                  conv => whnf
                  exact hk
                · cases h
              | some u =>
                conv => whnf
                refine ⟨⟨gY, gX⟩, ?_⟩
                conv => whnf
                rintro ⟨o6, r6⟩ ⟨z6, h6⟩
                have h6 : o6 = expO y x most z6 := h6
                have sw := sw z6
                rw [← h6] at sw
                rcases sw with ⟨h, _⟩ | ⟨u', v, h, rfl, sm⟩
                · cases h
                obtain rfl := Option.some.inj h
                have lP := sm.lP
                have lN := sm.lN
                conv => whnf
                refine ⟨mixed, [], [], [], by kernel_rfl, ?_⟩
                conv => whnf
                refine Ask.i (fun _ => ?_) (fun c => by have c : (u.scale == v.scale) = false := c; rw [sm.scale] at c; simp at c)
                conv => whnf
                refine Ask.i (fun _ => ?_) (fun c => by have c : (u.count == v.count) = false := c; rw [sm.count] at c; simp at c)
                conv => whnf
                refine Ask.i (fun _ => ?_) (fun c => by have c : (u.zero == v.zero) = false := c; rw [sm.zero] at c; simp at c)
                conv => whnf
                refine Ask.i (fun _ => ?_) (fun c => by have c : (u.offP == v.offP) = false := c; rw [sm.offP] at c; simp at c)
                conv => whnf
                refine ⟨⟨by show u.cP.length ≤ 68719476736; omega, by show v.cP.length ≤ 68719476736; rw [← sm.cP]; omega⟩, ?_⟩
                conv => whnf
                refine Ask.i (fun _ => ?_) (fun c => absurd sm.cP (of_decide_eq_false c))
                conv => whnf
                refine ⟨⟨by show u.cN.length ≤ 68719476736; omega, by show v.cN.length ≤ 68719476736; rw [← sm.cN]; omega⟩, ?_⟩
                conv => whnf
                exact fin hk (congrArg (fun z : Bool => SV.u (.c (Bo z))) (decide_eq_true sm.cN).symm)
            | false =>
              rw [q4] at h4
              obtain rfl : o4 = some (histE a noH z4) := h4
              conv => whnf
              refine ⟨mixed, [], [], [], by kernel_rfl, ?_⟩
              conv => whnf
              refine ⟨⟨gX, gY⟩, ?_⟩
              conv => whnf
              rintro ⟨o5, r5⟩ ⟨z5, h5⟩
              have h5 : o5 = expO x y most z5 := h5
              have sw := fun z => exp_order (most := most) (z := z5) (z' := z) gX gY
              rw [← h5] at sw
              cases o5 with
              | none =>
                conv => whnf
                refine ⟨⟨gY, gX⟩, ?_⟩
                conv => whnf
                rintro ⟨o6, r6⟩ ⟨z6, h6⟩
                have h6 : o6 = expO y x most z6 := h6
                have sw := sw z6
                rw [← h6] at sw
                rcases sw with ⟨_, rfl⟩ | ⟨u, v, h, _⟩
                · conv => whnf
                  refine ⟨mixed, [], [], [], by kernel_rfl, ?_⟩
                  conv => whnf
                  exact hk
                · cases h
              | some u =>
                conv => whnf
                refine ⟨⟨gY, gX⟩, ?_⟩
                conv => whnf
                rintro ⟨o6, r6⟩ ⟨z6, h6⟩
                have h6 : o6 = expO y x most z6 := h6
                have sw := sw z6
                rw [← h6] at sw
                rcases sw with ⟨h, _⟩ | ⟨u', v, h, rfl, sm⟩
                · cases h
                obtain rfl := Option.some.inj h
                have lP := sm.lP
                have lN := sm.lN
                conv => whnf
                refine ⟨mixed, [], [], [], by kernel_rfl, ?_⟩
                conv => whnf
                refine Ask.i (fun _ => ?_) (fun c => by have c : (u.scale == v.scale) = false := c; rw [sm.scale] at c; simp at c)
                conv => whnf
                refine Ask.i (fun _ => ?_) (fun c => by have c : (u.count == v.count) = false := c; rw [sm.count] at c; simp at c)
                conv => whnf
                refine Ask.i (fun _ => ?_) (fun c => by have c : (u.zero == v.zero) = false := c; rw [sm.zero] at c; simp at c)
                conv => whnf
                refine Ask.i (fun _ => ?_) (fun c => by have c : (u.offP == v.offP) = false := c; rw [sm.offP] at c; simp at c)
                conv => whnf
                refine ⟨⟨by show u.cP.length ≤ 68719476736; omega, by show v.cP.length ≤ 68719476736; rw [← sm.cP]; omega⟩, ?_⟩
                conv => whnf
                refine Ask.i (fun _ => ?_) (fun c => absurd sm.cP (of_decide_eq_false c))
                conv => whnf
                refine ⟨⟨by show u.cN.length ≤ 68719476736; omega, by show v.cN.length ≤ 68719476736; rw [← sm.cN]; omega⟩, ?_⟩
                conv => whnf
                exact fin hk (congrArg (fun z : Bool => SV.u (.c (Bo z))) (decide_eq_true sm.cN).symm)
          | false =>
            rw [q3] at h3
            obtain rfl : o3 = some (histE b c z3) := h3
            conv => whnf
            refine ⟨⟨gC.add, sA.lC, sA.lB⟩, ?_⟩
            conv => whnf
            rintro ⟨o4, r4⟩ ⟨z4, h4⟩
            have h4 : o4 = bif histO a (histE b c z3) then none else some (histE a (histE b c z3) z4) := h4
            have asc := hist_assoc (z := z1) (z' := z3) rA rB rC q1 q3
            rw [q2] at asc
            rw [← asc.1] at h4
            obtain rfl : o4 = none := h4
            conv => whnf
            refine ⟨mixed, [], [], [], by kernel_rfl, ?_⟩
            conv => whnf
            refine ⟨⟨gX, gY⟩, ?_⟩
            conv => whnf
            rintro ⟨o5, r5⟩ ⟨z5, h5⟩
            have h5 : o5 = expO x y most z5 := h5
            have sw := fun z => exp_order (most := most) (z := z5) (z' := z) gX gY
            rw [← h5] at sw
            cases o5 with
            | none =>
              conv => whnf
              refine ⟨⟨gY, gX⟩, ?_⟩
              conv => whnf
              rintro ⟨o6, r6⟩ ⟨z6, h6⟩
              have h6 : o6 = expO y x most z6 := h6
              have sw := sw z6
              rw [← h6] at sw
              rcases sw with ⟨_, rfl⟩ | ⟨u, v, h, _⟩
              · conv => whnf
                refine ⟨mixed, [], [], [], by kernel_rfl, ?_⟩
                conv => whnf
                exact hk
              · cases h
            | some u =>
              conv => whnf
              refine ⟨⟨gY, gX⟩, ?_⟩
              conv => whnf
              rintro ⟨o6, r6⟩ ⟨z6, h6⟩
              have h6 : o6 = expO y x most z6 := h6
              have sw := sw z6
              rw [← h6] at sw
              rcases sw with ⟨h, _⟩ | ⟨u', v, h, rfl, sm⟩
              · cases h
              obtain rfl := Option.some.inj h
              have lP := sm.lP
              have lN := sm.lN
              conv => whnf
              refine ⟨mixed, [], [], [], by kernel_rfl, ?_⟩
              conv => whnf
              refine Ask.i (fun _ => ?_) (fun c => by have c : (u.scale == v.scale) = false := c; rw [sm.scale] at c; simp at c)
              conv => whnf
              refine Ask.i (fun _ => ?_) (fun c => by have c : (u.count == v.count) = false := c; rw [sm.count] at c; simp at c)
              conv => whnf
              refine Ask.i (fun _ => ?_) (fun c => by have c : (u.zero == v.zero) = false := c; rw [sm.zero] at c; simp at c)
              conv => whnf
              refine Ask.i (fun _ => ?_) (fun c => by have c : (u.offP == v.offP) = false := c; rw [sm.offP] at c; simp at c)
              conv => whnf
              refine ⟨⟨by show u.cP.length ≤ 68719476736; omega, by show v.cP.length ≤ 68719476736; rw [← sm.cP]; omega⟩, ?_⟩
              conv => whnf
              refine Ask.i (fun _ => ?_) (fun c => absurd sm.cP (of_decide_eq_false c))
              conv => whnf
              refine ⟨⟨by show u.cN.length ≤ 68719476736; omega, by show v.cN.length ≤ 68719476736; rw [← sm.cN]; omega⟩, ?_⟩
              conv => whnf
              exact fin hk (congrArg (fun z : Bool => SV.u (.c (Bo z))) (decide_eq_true sm.cN).symm)
        | false =>
          rw [q2] at h2
          obtain rfl : o2 = some (histE (histE a b z1) c z2) := h2
          conv => whnf
          refine ⟨⟨gC, sB.lC, sB.lB⟩, ?_⟩
          conv => whnf
          rintro ⟨o3, r3⟩ ⟨z3, h3⟩
          have h3 : o3 = bif histO b c then none else some (histE b c z3) := h3
          cases q3 : histO b c with
          | true =>
            rw [q3] at h3
            obtain rfl : o3 = none := h3
            conv => whnf
            refine ⟨⟨HGood.no, sA.lC, sA.lB⟩, ?_⟩
            conv => whnf
            rintro ⟨o4, r4⟩ ⟨z4, h4⟩
            have h4 : o4 = bif histO a noH then none else some (histE a noH z4) := h4
            cases q4 : histO a noH with
            | true =>
              rw [q4] at h4
              obtain rfl : o4 = none := h4
              conv => whnf
              refine ⟨mixed, [], [], [], by kernel_rfl, ?_⟩
              conv => whnf
              refine ⟨⟨gX, gY⟩, ?_⟩
              conv => whnf
              rintro ⟨o5, r5⟩ ⟨z5, h5⟩
              have h5 : o5 = expO x y most z5 := h5
              have sw := fun z => exp_order (most := most) (z := z5) (z' := z) gX gY
              rw [← h5] at sw
              cases o5 with
              | none =>
                conv => whnf
                refine ⟨⟨gY, gX⟩, ?_⟩
                conv => whnf
                rintro ⟨o6, r6⟩ ⟨z6, h6⟩
                have h6 : o6 = expO y x most z6 := h6
                have sw := sw z6
                rw [← h6] at sw
                rcases sw with ⟨_, rfl⟩ | ⟨u, v, h, _⟩
                · conv => whnf
                  refine ⟨mixed, [], [], [], by kernel_rfl, ?_⟩
                  conv => whnf
                  exact hk
                · cases h
              | some u =>
                conv => whnf
                refine ⟨⟨gY, gX⟩, ?_⟩
                conv => whnf
                rintro ⟨o6, r6⟩ ⟨z6, h6⟩
                have h6 : o6 = expO y x most z6 := h6
                have sw := sw z6
                rw [← h6] at sw
                rcases sw with ⟨h, _⟩ | ⟨u', v, h, rfl, sm⟩
                · cases h
                obtain rfl := Option.some.inj h
                have lP := sm.lP
                have lN := sm.lN
                conv => whnf
                refine ⟨mixed, [], [], [], by kernel_rfl, ?_⟩
                conv => whnf
                refine Ask.i (fun _ => ?_) (fun c => by have c : (u.scale == v.scale) = false := c; rw [sm.scale] at c; simp at c)
                conv => whnf
                refine Ask.i (fun _ => ?_) (fun c => by have c : (u.count == v.count) = false := c; rw [sm.count] at c; simp at c)
                conv => whnf
                refine Ask.i (fun _ => ?_) (fun c => by have c : (u.zero == v.zero) = false := c; rw [sm.zero] at c; simp at c)
                conv => whnf
                refine Ask.i (fun _ => ?_) (fun c => by have c : (u.offP == v.offP) = false := c; rw [sm.offP] at c; simp at c)
                conv => whnf
                refine ⟨⟨by show u.cP.length ≤ 68719476736; omega, by show v.cP.length ≤ 68719476736; rw [← sm.cP]; omega⟩, ?_⟩
                conv => whnf
                refine Ask.i (fun _ => ?_) (fun c => absurd sm.cP (of_decide_eq_false c))
                conv => whnf
                refine ⟨⟨by show u.cN.length ≤ 68719476736; omega, by show v.cN.length ≤ 68719476736; rw [← sm.cN]; omega⟩, ?_⟩
                conv => whnf
                exact fin hk (congrArg (fun z : Bool => SV.u (.c (Bo z))) (decide_eq_true sm.cN).symm)
            | false =>
              rw [q4] at h4
              obtain rfl : o4 = some (histE a noH z4) := h4
              conv => whnf
              refine ⟨mixed, [], [], [], by kernel_rfl, ?_⟩
              conv => whnf
              refine ⟨⟨gX, gY⟩, ?_⟩
              conv => whnf
              rintro ⟨o5, r5⟩ ⟨z5, h5⟩
              have h5 : o5 = expO x y most z5 := h5
              have sw := fun z => exp_order (most := most) (z := z5) (z' := z) gX gY
              rw [← h5] at sw
              cases o5 with
              | none =>
                conv => whnf
                refine ⟨⟨gY, gX⟩, ?_⟩
                conv => whnf
                rintro ⟨o6, r6⟩ ⟨z6, h6⟩
                have h6 : o6 = expO y x most z6 := h6
                have sw := sw z6
                rw [← h6] at sw
                rcases sw with ⟨_, rfl⟩ | ⟨u, v, h, _⟩
                · conv => whnf
                  refine ⟨mixed, [], [], [], by kernel_rfl, ?_⟩
                  conv => whnf
                  exact hk
                · cases h
              | some u =>
                conv => whnf
                refine ⟨⟨gY, gX⟩, ?_⟩
                conv => whnf
                rintro ⟨o6, r6⟩ ⟨z6, h6⟩
                have h6 : o6 = expO y x most z6 := h6
                have sw := sw z6
                rw [← h6] at sw
                rcases sw with ⟨h, _⟩ | ⟨u', v, h, rfl, sm⟩
                · cases h
                obtain rfl := Option.some.inj h
                have lP := sm.lP
                have lN := sm.lN
                conv => whnf
                refine ⟨mixed, [], [], [], by kernel_rfl, ?_⟩
                conv => whnf
                refine Ask.i (fun _ => ?_) (fun c => by have c : (u.scale == v.scale) = false := c; rw [sm.scale] at c; simp at c)
                conv => whnf
                refine Ask.i (fun _ => ?_) (fun c => by have c : (u.count == v.count) = false := c; rw [sm.count] at c; simp at c)
                conv => whnf
                refine Ask.i (fun _ => ?_) (fun c => by have c : (u.zero == v.zero) = false := c; rw [sm.zero] at c; simp at c)
                conv => whnf
                refine Ask.i (fun _ => ?_) (fun c => by have c : (u.offP == v.offP) = false := c; rw [sm.offP] at c; simp at c)
                conv => whnf
                refine ⟨⟨by show u.cP.length ≤ 68719476736; omega, by show v.cP.length ≤ 68719476736; rw [← sm.cP]; omega⟩, ?_⟩
                conv => whnf
                refine Ask.i (fun _ => ?_) (fun c => absurd sm.cP (of_decide_eq_false c))
                conv => whnf
                refine ⟨⟨by show u.cN.length ≤ 68719476736; omega, by show v.cN.length ≤ 68719476736; rw [← sm.cN]; omega⟩, ?_⟩
                conv => whnf
                exact fin hk (congrArg (fun z : Bool => SV.u (.c (Bo z))) (decide_eq_true sm.cN).symm)
          | false =>
            rw [q3] at h3
            obtain rfl : o3 = some (histE b c z3) := h3
            conv => whnf
            refine ⟨⟨gC.add, sA.lC, sA.lB⟩, ?_⟩
            conv => whnf
            rintro ⟨o4, r4⟩ ⟨z4, h4⟩
            have h4 : o4 = bif histO a (histE b c z3) then none else some (histE a (histE b c z3) z4) := h4
            have asc := hist_assoc (z := z1) (z' := z3) rA rB rC q1 q3
            rw [q2] at asc
            rw [← asc.1] at h4
            obtain rfl : o4 = some (histE a (histE b c z3) z4) := h4
            have asc := asc.2 rfl
            have hp : (hZip (histE a b z1).cs c.cs).length ≤ 1500 ∧ (hZip a.cs (histE b c z3).cs).length ≤ 1500 := ⟨(gC.add (a := histE a b z1) (z := 0)).2.2.2.2.1, ((gC.add (a := b) (z := z3)).add (a := a) (z := 0)).2.2.2.2.1⟩
            conv => whnf
            refine ⟨mixed, [], [], [], by kernel_rfl, ?_⟩
            conv => whnf
            refine ⟨⟨by show (hZip (histE a b z1).cs c.cs).length ≤ 68719476736; have := hp.1; omega, by show (hZip a.cs (histE b c z3).cs).length ≤ 68719476736; have := hp.2; omega⟩, ?_⟩
            conv => whnf
            refine Ask.i (fun c0 => by have c0 : (!(decide (hZip (histE a b z1).cs c.cs = hZip a.cs (histE b c z3).cs))) = true := c0; rw [decide_eq_true asc.1] at c0; cases c0) (fun _ => ?_)
            conv => whnf
            refine Ask.i (fun c0 => by have c0 : (x64 ((histE a b z1).count + c.count) != x64 (a.count + (histE b c z3).count)) = true := c0; rw [asc.2] at c0; simp [bne] at c0) (fun _ => ?_)
            conv => whnf
            refine Ask.i (fun c0 => nt a.start c0) (fun _ => ?_)
            conv => whnf
            refine Ask.i (fun c0 => nt c.time c0) (fun _ => ?_)
            conv => whnf
            refine ⟨⟨gX, gY⟩, ?_⟩
            conv => whnf
            rintro ⟨o5, r5⟩ ⟨z5, h5⟩
            have h5 : o5 = expO x y most z5 := h5
            have sw := fun z => exp_order (most := most) (z := z5) (z' := z) gX gY
            rw [← h5] at sw
            cases o5 with
            | none =>
              conv => whnf
              refine ⟨⟨gY, gX⟩, ?_⟩
              conv => whnf
              rintro ⟨o6, r6⟩ ⟨z6, h6⟩
              have h6 : o6 = expO y x most z6 := h6
              have sw := sw z6
              rw [← h6] at sw
              rcases sw with ⟨_, rfl⟩ | ⟨u, v, h, _⟩
              · conv => whnf
                refine ⟨mixed, [], [], [], by kernel_rfl, ?_⟩
                conv => whnf
                exact hk
              · cases h
            | some u =>
              conv => whnf
              refine ⟨⟨gY, gX⟩, ?_⟩
              conv => whnf
              rintro ⟨o6, r6⟩ ⟨z6, h6⟩
              have h6 : o6 = expO y x most z6 := h6
              have sw := sw z6
              rw [← h6] at sw
              rcases sw with ⟨h, _⟩ | ⟨u', v, h, rfl, sm⟩
              · cases h
              obtain rfl := Option.some.inj h
              have lP := sm.lP
              have lN := sm.lN
              conv => whnf
              refine ⟨mixed, [], [], [], by kernel_rfl, ?_⟩
              conv => whnf
              refine Ask.i (fun _ => ?_) (fun c => by have c : (u.scale == v.scale) = false := c; rw [sm.scale] at c; simp at c)
              conv => whnf
              refine Ask.i (fun _ => ?_) (fun c => by have c : (u.count == v.count) = false := c; rw [sm.count] at c; simp at c)
              conv => whnf
              refine Ask.i (fun _ => ?_) (fun c => by have c : (u.zero == v.zero) = false := c; rw [sm.zero] at c; simp at c)
              conv => whnf
              refine Ask.i (fun _ => ?_) (fun c => by have c : (u.offP == v.offP) = false := c; rw [sm.offP] at c; simp at c)
              conv => whnf
              refine ⟨⟨by show u.cP.length ≤ 68719476736; omega, by show v.cP.length ≤ 68719476736; rw [← sm.cP]; omega⟩, ?_⟩
              conv => whnf
              refine Ask.i (fun _ => ?_) (fun c => absurd sm.cP (of_decide_eq_false c))
              conv => whnf
              refine ⟨⟨by show u.cN.length ≤ 68719476736; omega, by show v.cN.length ≤ 68719476736; rw [← sm.cN]; omega⟩, ?_⟩
              conv => whnf
              exact fin hk (congrArg (fun z : Bool => SV.u (.c (Bo z))) (decide_eq_true sm.cN).symm)
    · exact hk.elim
  · exact hk.elim
end Sx
/-! The law MergeLeast: true. -/
namespace Sx
open Go Go.Proofs
set_option linter.unusedVariables false
set_option maxRecDepth 30000
variable {G : Glob}
theorem less_self (a : Int) : lessV a a = false := by
  unfold lessV eqV
  cases nanV a <;> simp
theorem less_asym {a b : Int} (h : lessV a b = true) : lessV b a = false := by
  unfold lessV at *
  simp only [Bool.and_eq_true, Bool.not_eq_true', decide_eq_true_eq] at h
  obtain ⟨h1, h2, h3, h4⟩ := h
  unfold cmpV at *
  have h5 : rankV a < rankV b := by
    by_cases h : rankV a < rankV b
    · exact h
    · rw [decide_eq_false h, cond_false] at h4
      by_cases h' : rankV a > rankV b
      · rw [decide_eq_true h', cond_true] at h4; omega
      · rw [decide_eq_false h', cond_false] at h4; omega
  rw [decide_eq_false (show ¬ rankV b < rankV a by omega), cond_false, decide_eq_true (show rankV b > rankV a by omega), cond_true]
  simp
theorem less_nan {a b : Int} (h : nanV a = true ∨ nanV b = true) : lessV a b = false := by
  unfold lessV
  rcases h with h | h <;> rw [h] <;> simp
theorem min_least (a b : Int) : lessV a (minV a b) = false ∧ lessV b (minV a b) = false := by
  unfold minV
  cases h1 : lessV b a with
  | true => exact ⟨less_asym h1, less_self b⟩
  | false =>
    cases h2 : otherV a b with
    | true =>
      unfold otherV at h2
      simp only [Bool.and_eq_true] at h2
      exact ⟨less_nan (.inl h2.1), less_self b⟩
    | false => exact ⟨less_self a, h1⟩
theorem max_most (a b : Int) : lessV (maxV a b) a = false ∧ lessV (maxV a b) b = false := by
  unfold maxV
  cases h1 : lessV a b with
  | true => exact ⟨less_asym h1, less_self b⟩
  | false =>
    cases h2 : otherV a b with
    | true =>
      unfold otherV at h2
      simp only [Bool.and_eq_true] at h2
      exact ⟨less_nan (.inr h2.1), less_self b⟩
    | false => exact ⟨less_self a, h1⟩
theorem S_hZip : ∀ {l m : List Int}, l.length = m.length → R64 l → R64 m → (∀ i, l.getD i 0 + m.getD i 0 < 18446744073709551616) → S (hZip l m) = S l + S m
  | [], [], _, _, _, _ => rfl
  | [], _ :: _, h, _, _, _ => by simp at h
  | _ :: _, [], h, _, _, _ => by simp at h
  | x :: l, y :: m, h, hl, hm, ho => by
    have hx := hl x List.mem_cons_self
    have hy := hm y List.mem_cons_self
    have h0 := ho 0
    simp only [List.getD_cons_zero] at h0
    have ih := S_hZip (l := l) (m := m) (by simpa using h) (fun z hz => hl z (List.mem_cons_of_mem _ hz)) (fun z hz => hm z (List.mem_cons_of_mem _ hz)) fun i => ho (i + 1)
    show S (x64 (x + y) :: hZip l m) = _
    rw [S_cons, S_cons, S_cons, ih, x64_eq (by omega)]
    omega
def mhistL (k : Nat) : List U → Out SV
  | [.a la, .a lb] => match asHist la, asHist lb with
    | some a, some b => .need (HGood k b ∧ a.cs.length ≤ 1500 ∧ a.bs.length ≤ 1500) (.all (Option HistD × Int) (fun p => (unlikeB a b = true ∧ p = (none, 13)) ∨ (unlikeB a b = false ∧ hBad a b = true ∧ p = (none, 9)) ∨ (unlikeB a b = false ∧ hBad a b = false ∧ ∃ z, p = (some (histE a b z), 0)))
      (by cases h1 : unlikeB a b with
          | true => exact ⟨_, .inl ⟨rfl, rfl⟩⟩
          | false => cases h2 : hBad a b with
            | true => exact ⟨_, .inr (.inl ⟨rfl, rfl, rfl⟩)⟩
            | false => exact ⟨_, .inr (.inr ⟨rfl, rfl, 0, rfl⟩)⟩) outH)
    | _, _ => .fail
  | _ => .fail
theorem mhistL_ok {k : Nat} : Ok G 23 (mhistL k) := (mhist_ok (k := k)).mono fun us K hk => by
  unfold mhistL at hk
  split at hk
  · split at hk
    · rename_i la lb _ _ a b ha hb
      obtain ⟨⟨h1, h2, h3⟩, hk⟩ := hk
      unfold mhistS
      simp only [ha, hb]
      refine ⟨⟨h1, h2, h3, trivial⟩, fun c hc => ?_⟩
      cases c with
      | true => exact hk (none, 13) (.inl ⟨hc, rfl⟩)
      | false =>
        refine fun z _ c' hc' => ?_
        cases c' with
        | true => exact hk (none, 9) (.inr (.inl ⟨hc, hc', rfl⟩))
        | false => exact hk (some (histE a b z), 0) (.inr (.inr ⟨hc, hc', z, rfl⟩))
    · exact hk.elim
  · exact hk.elim
def lawLeastS (k : Nat) : List U → Out SV
  | [.a la, .a lb] => match asHist la, asHist lb with
    | some a, some b => .need (a.Typ ∧ b.Typ ∧ (a.Small → b.Small → DpH k a ∧ DpH k b)) (one (Bo true))
    | _, _ => .fail
  | _ => .fail
set_option maxHeartbeats 8000000 in
theorem lawLeast_ok {k : Nat} : Ok G1 6 (lawLeastS k) := by
  have hS : AllSound (B [(10, .pure (normG (B []) [] firstS)), (22, .pure (normG (B []) [58] fewHS)), (23, .pure (normG (B []) [56, 56] (mhistL k))), (13, .pure (normG (B []) [28] codeS)), (24, .pure (normG (B []) [22, 22] numsS)), (25, .pure (normG (B []) [41, 41] lessFS)), (26, .pure (normG (B []) [56] h18S))]) G1 :=
    .cons _ first_ok (.cons _ fewH_ok (.cons _ mhistL_ok (.cons _ code_ok (.cons _ nums_ok (.cons _ lessF_ok (.cons _ h18_ok noneS))))))
  refine okP hS Tryd.func6 rfl (by decide) fun K us hk => ?_
  unfold lawLeastS at hk
  split at hk
  · split at hk
    · rename_i la lb _ _ a b ha hb
      rw [asHist_eq ha, asHist_eq hb]
      refine ⟨by show 2 ≤ _; decide, ?_⟩
      obtain ⟨⟨tA, tB, dH⟩, hk⟩ := hk
      conv => whnf
      refine ⟨⟨tA, tB⟩, ?_⟩
      conv => whnf
      intro f hf
      have hf : f = true → a.Small ∧ b.Small := hf
      cases f with
      | false =>
        conv => whnf
        exact hk
      | true =>
      obtain ⟨sA, sB⟩ := hf rfl
      obtain ⟨d1, d2⟩ := dH sA sB
      have gB : HGood k b := ⟨tB.attrs, d2.1, tB.ex, d2.2, sB.lC, sB.lB⟩
      have rA : HR a := ⟨tA.rC, tA.ct⟩
      have rB : HR b := ⟨tB.rC, tB.ct⟩
      have lbA := sA.lB
      have lbB := sB.lB
      have lcA := sA.lC
      have lcB := sB.lC
      conv => whnf
      refine ⟨⟨gB, sA.lC, sA.lB⟩, ?_⟩
      conv => whnf
      rintro ⟨o, er⟩ ho
      have ho : (unlikeB a b = true ∧ (o, er) = (none, 13)) ∨ (unlikeB a b = false ∧ hBad a b = true ∧ (o, er) = (none, 9)) ∨ (unlikeB a b = false ∧ hBad a b = false ∧ ∃ z, (o, er) = (some (histE a b z), 0)) := ho
      rcases ho with ⟨u, ho⟩ | ⟨u, hb, ho⟩ | ⟨u, hb, z, ho⟩
      · obtain ⟨rfl, rfl⟩ := Prod.mk.inj ho
        conv => whnf
        refine ⟨mixed, [], [], [], by kernel_rfl, ?_⟩
        conv => whnf
        refine ⟨⟨by show a.bs.length ≤ 68719476736; omega, by show b.bs.length ≤ 68719476736; omega⟩, ?_⟩
        conv => whnf
        refine Ask.i (fun c => ?_) (fun c => ?_)
        · conv => whnf
          exact hk
        · have c : (!(decide (a.bs = b.bs))) = false := c
          conv => whnf
          refine fin hk (congrArg (fun z : Bool => SV.u (.c (Bo z))) (?_ : true = (true == (((a.cs.length : Nat) : Int) != ((b.cs.length : Nat) : Int)))))
          unfold unlikeB at u
          rw [c, Bool.or_false] at u
          rw [u]; rfl
      · obtain ⟨rfl, rfl⟩ := Prod.mk.inj ho
        obtain ⟨u1, u2⟩ := unlike_len u
        conv => whnf
        refine ⟨mixed, [], [], [], by kernel_rfl, ?_⟩
        conv => whnf
        refine ⟨⟨by show a.bs.length ≤ 68719476736; omega, by show b.bs.length ≤ 68719476736; omega⟩, ?_⟩
        conv => whnf
        refine Ask.i (fun c => ?_) (fun c => ?_)
        · have c : (!(decide (a.bs = b.bs))) = true := c
          rw [decide_eq_true u2] at c
          cases c
        · conv => whnf
          refine fin hk (congrArg (fun z : Bool => SV.u (.c (Bo z))) (?_ : true = (false == (((a.cs.length : Nat) : Int) != ((b.cs.length : Nat) : Int)))))
          rw [u1]; simp [bne]
      · obtain ⟨rfl, rfl⟩ := Prod.mk.inj ho
        obtain ⟨u1, u2⟩ := unlike_len u
        have ov := (hBad_iff rA rB u1).1 hb
        have ct : x64 (a.count + b.count) = a.count + b.count := x64_eq ⟨by have := rA.ct; have := rB.ct; omega, ov.1⟩
        have hl := hZip_len a.cs b.cs u1
        conv => whnf
        refine Ask.i (fun m1 => ?_) (fun m1 => ?_)
        all_goals
          conv => whnf
          refine Ask.i (fun c => by first | (have mm : a.minH = true := m1; have c : ((a.minH && b.minH) != b.minH) = true := c; rw [mm] at c; simp [bne] at c) | (have mm : a.minH = false := m1; have c : ((a.minH && b.minH) != false) = true := c; rw [mm] at c; simp [bne] at c)) (fun _ => ?_)
          conv => whnf
          refine Ask.i (fun m2 => ?_) (fun m2 => ?_)
        all_goals
          conv => whnf
          refine Ask.i (fun c => by first | (have mm : a.maxH = true := m2; have c : ((a.maxH && b.maxH) != b.maxH) = true := c; rw [mm] at c; simp [bne] at c) | (have mm : a.maxH = false := m2; have c : ((a.maxH && b.maxH) != false) = true := c; rw [mm] at c; simp [bne] at c)) (fun _ => ?_)
          conv => whnf
          refine Ask.i (fun m3 => ?_) (fun m3 => ?_)
        all_goals
          conv => whnf
          refine Ask.i (fun c => by first | (have mm : a.sumH = true := m3; have c : ((a.sumH && b.sumH) != b.sumH) = true := c; rw [mm] at c; simp [bne] at c) | (have mm : a.sumH = false := m3; have c : ((a.sumH && b.sumH) != false) = true := c; rw [mm] at c; simp [bne] at c)) (fun _ => ?_)
          conv => whnf
          refine Ask.i (fun c => by have c : x64 (a.count + b.count) < a.count := of_decide_eq_true c; rw [ct] at c; have := rB.ct.1; omega) (fun _ => ?_)
          conv => whnf
          refine Ask.i (fun c => by have c : x64 (a.count + b.count) < b.count := of_decide_eq_true c; rw [ct] at c; have := rA.ct.1; omega) (fun _ => ?_)
          conv => whnf
          refine Ask.i (fun c => by have c : (((hZip a.cs b.cs).length : Nat) : Int) != ((a.cs.length : Nat) : Int) := c; rw [hl, u1] at c; simp [bne] at c) (fun _ => ?_)
          conv => whnf
          refine Ask.i (fun c => by have c : ((b.cs.length : Nat) : Int) != ((a.cs.length : Nat) : Int) := c; rw [u1] at c; simp [bne] at c) (fun _ => ?_)
          conv => whnf
          refine Ask.i (fun h1 => ?_) (fun h1 => ?_)
        all_goals first
          | (have mm : a.minH = false := m1
             have h1 : (a.minH && b.minH) = true := h1
             rw [mm] at h1; cases h1)
          | (have h1 : (a.minH && b.minH) = true := h1
             have e1 : (bif a.minH && b.minH then minV a.min b.min else 0) = minV a.min b.min := by rw [h1]; rfl
             conv => whnf
             refine Ask.i (fun c => by have c : lessV a.min (bif a.minH && b.minH then minV a.min b.min else 0) = true := c; rw [e1, (min_least a.min b.min).1] at c; cases c) (fun _ => ?_)
             conv => whnf
             refine Ask.i (fun c => by have c : lessV b.min (bif a.minH && b.minH then minV a.min b.min else 0) = true := c; rw [e1, (min_least a.min b.min).2] at c; cases c) (fun _ => ?_)
             conv => whnf
             refine Ask.i (fun h2 => ?_) (fun h2 => ?_))
          | (have h1 : (a.minH && b.minH) = false := h1
             conv => whnf
             refine Ask.i (fun h2 => ?_) (fun h2 => ?_))
        all_goals first
          | (have mm : a.maxH = false := m2
             have h2 : (a.maxH && b.maxH) = true := h2
             rw [mm] at h2; cases h2)
          | (have h2 : (a.maxH && b.maxH) = true := h2
             have e1 : (bif a.maxH && b.maxH then maxV a.max b.max else 0) = maxV a.max b.max := by rw [h2]; rfl
             conv => whnf
             refine Ask.i (fun c => by have c : lessV (bif a.maxH && b.maxH then maxV a.max b.max else 0) a.max = true := c; rw [e1, (max_most a.max b.max).1] at c; cases c) (fun _ => ?_)
             conv => whnf
             refine Ask.i (fun c => by have c : lessV (bif a.maxH && b.maxH then maxV a.max b.max else 0) b.max = true := c; rw [e1, (max_most a.max b.max).2] at c; cases c) (fun _ => ?_)
             conv => whnf)
          | (have h2 : (a.maxH && b.maxH) = false := h2
             conv => whnf)
        all_goals
          refine ⟨[], _, _, rfl, Nat, (fun i => ([(2, .u (.c (.p 2 0))), (3, .u (.c (.p 3 0))), (5, .u (.c (.p 5 0))), (7, .u (.c (I64 (i : Nat))))],
              [(2, .cells 56 a.cells), (3, .cells 56 b.cells), (5, .cells 56 (histE a b z).cells)])),
            (fun i => i ≤ b.cs.length), (fun i => b.cs.length - i), fun x _ => rfl, ⟨0, Nat.zero_le _, ⟨rfl, rfl, rfl, rfl, trivial⟩, ⟨rfl, rfl, rfl, trivial⟩⟩, ?_⟩
          intro i hi0
          conv => whnf
          refine Ask.i (fun c1 => ?_) (fun c1 => ?_)
          · have c1 : (i : Int) < (((hZip a.cs b.cs).length : Nat) : Int) := of_decide_eq_true c1
            rw [hl] at c1
            have hi : i < b.cs.length := by omega
            have g := (hZip_get i u1).trans (x64_eq ⟨by have := getD_r rA.r i; have := getD_r rB.r i; omega, ov.2 i⟩)
            have ga := getD_r rA.r i
            have gb := getD_r rB.r i
            have n1 : 0 ≤ (i : Int) ∧ (i : Int) < (((hZip a.cs b.cs).length : Nat) : Int) := by rw [hl]; omega
            have n2 : 0 ≤ (i : Int) ∧ (i : Int) < ((a.cs.length : Nat) : Int) := by rw [u1]; omega
            have n3 : 0 ≤ (i : Int) ∧ (i : Int) < ((b.cs.length : Nat) : Int) := by omega
            conv => whnf
            refine ⟨mixed, [], [], [], by kernel_rfl, ?_⟩
            conv => whnf
            refine ⟨n1, ?_⟩
            conv => whnf
            refine ⟨n2, ?_⟩
            conv => whnf
            refine Ask.i (fun c => by have c : (hZip a.cs b.cs).getD i 0 < a.cs.getD i 0 := of_decide_eq_true c; rw [g] at c; omega) (fun _ => ?_)
            conv => whnf
            refine ⟨n1, ?_⟩
            conv => whnf
            refine ⟨n2, ?_⟩
            conv => whnf
            refine ⟨n3, ?_⟩
            conv => whnf
            refine Ask.i (fun c => by have c : (x64 ((hZip a.cs b.cs).getD i 0 - a.cs.getD i 0) != b.cs.getD i 0) = true := c; rw [g, show a.cs.getD i 0 + b.cs.getD i 0 - a.cs.getD i 0 = b.cs.getD i 0 by omega, x64_eq gb] at c; simp [bne] at c) (fun _ => ?_)
            conv => whnf
            exact ⟨i + 1, hi, by show b.cs.length - (i + 1) < b.cs.length - i; omega, ⟨rfl, rfl, rfl, congrArg (fun z : Int => some (SV.u (.c (I64 z)))) (w64_eq (n := (i : Int) + 1) (by omega)), trivial⟩, ⟨rfl, rfl, rfl, trivial⟩⟩
          · conv => whnf
            refine ⟨⟨tA.attrs, lcA, lbA, rA⟩, ?_⟩
            conv => whnf
            rintro r1 ⟨r1a, _⟩
            have r1a : r1 = 0 → OkC a := r1a
            conv => whnf
            refine Ask.i (fun q1 => ?_) (fun q1 => ?_)
            · have q1 : (r1 == 0) = true := q1
              have q1 : r1 = 0 := by simpa using q1
              conv => whnf
              refine ⟨⟨tB.attrs, lcB, lbB, rB⟩, ?_⟩
              conv => whnf
              rintro r2 ⟨r2a, _⟩
              have r2a : r2 = 0 → OkC b := r2a
              conv => whnf
              refine Ask.i (fun q2 => ?_) (fun q2 => ?_)
              · conv => whnf
                exact hk
              · have q2 : (!(r2 == 0)) = false := q2
                have q2 : r2 = 0 := by simpa using q2
                conv => whnf
                refine Ask.i (fun q3 => ?_) (fun q3 => ?_)
                · conv => whnf
                  exact hk
                · have q3 : ((((hZip a.cs b.cs).length : Nat) : Int) == 0) = false := q3
                  rw [hl] at q3
                  simp only [beq_eq_false_iff_ne, ne_eq] at q3
                  have okX : OkC (histE a b z) := by
                    have oA := r1a q1
                    have oB := r2a q2
                    rcases oA with oA | ⟨oA1, oA2⟩
                    · omega
                    rcases oB with oB | ⟨oB1, oB2⟩
                    · omega
                    refine .inr ⟨hl.trans oB1, ?_⟩
                    show x64 (a.count + b.count) = S (hZip a.cs b.cs)
                    rw [ct, S_hZip u1 rA.r rB.r ov.2, oA2, oB2]
                  conv => whnf
                  refine ⟨⟨tB.attrs, by show (hZip a.cs b.cs).length ≤ 1500; omega, lbB, HR.add (a := a) (b := b) z⟩, ?_⟩
                  conv => whnf
                  rintro r3 ⟨_, r3b⟩
                  have r3b : r3 = 8 → ¬ OkC (histE a b z) := r3b
                  conv => whnf
                  refine fin hk (congrArg (fun z : Bool => SV.u (.c (Bo z))) (?_ : true = (r3 != 8)))
                  have : r3 ≠ 8 := fun h => r3b h okX
                  simpa [bne] using this
            · conv => whnf
              exact hk
    · exact hk.elim
  · exact hk.elim
end Sx
/-! MergeLeast, at any input. -/
namespace Sx
open Go Go.Proofs Go.RowKit
set_option linter.unusedVariables false
set_option maxRecDepth 30000
theorem deep2H (a b : HistD) : ∃ k, a.Small → b.Small → DpH k a ∧ DpH k b := by
  by_cases ha : a.Small
  · by_cases hb : b.Small
    · obtain ⟨k, hk⟩ := ha.dpH
      obtain ⟨m, hm⟩ := hb.dpH
      exact ⟨k + m, fun _ _ => ⟨⟨hk.1.mono (by omega), hk.2.mono (by omega)⟩, ⟨hm.1.mono (by omega), hm.2.mono (by omega)⟩⟩⟩
    · exact ⟨0, fun _ h => absurd h hb⟩
  · exact ⟨0, fun h => absurd h ha⟩
theorem mergeLeast_walk {H : Type} {enc : TypeId × Value → H} {W : World} {base : Nat} {spare : Nat → Bool} {held : Bool} {n0 n1 : Nat} {c0 c1 : List Value} {x0 x1 : DataW H × List MemPlace}
    (h0 : DataW.trod enc Tryd.prog W base spare held n0 56 c0 = some x0) (h1 : DataW.trod enc Tryd.prog W base spare held n1 56 c1 = some x1) (hg : YtcmghblegllmlaaDoor.Cd.Lays W) :
    Calls Tryd.prog 6 #[.agg c0.toArray, .agg c1.toArray] W fun e W' => e = .returned (.bool true) ∧ Below W.heap.size W W' := by
  obtain ⟨a, tA, dA⟩ := open_hist h0
  obtain ⟨b, tB, dB⟩ := open_hist h1
  obtain ⟨k, hk⟩ := deep2H a b
  have := (lawLeast_ok (k := k)).2 (fun s => s = .u (.c (Bo true))) [.a a.cells, .a b.cells] (fun _ => False) W [.agg c0.toArray, .agg c1.toArray]
    ⟨⟨tA, tB, hk⟩, rfl⟩ (GOk1 hg) (fun b h => h.elim) ⟨⟨c0, rfl, dA⟩, ⟨c1, rfl, dB⟩, trivial⟩
  refine this.mono fun e' W' ⟨r, v, h1, h2, h3, h4⟩ => ?_
  subst h2
  obtain ⟨rfl, _⟩ := h3
  exact ⟨h1, h4.below⟩
end Sx
