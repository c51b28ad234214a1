/- Part of the proof: a machine of states for walks, and contracts of functions over it. Conditions: those that each theorem names. -/
import Derived.Test.YtcmghblegllmlaaDoorSums
import Derived.Test.YtcmghblegllmlaaDoorHists
import Derived.Test.YtcmghblegllmlaaDoorCon5
set_option linter.unusedVariables false
set_option linter.unusedSimpArgs false
/-! Plain: a side as what it holds at each place. -/
namespace Sx
open Go Go.Proofs
set_option linter.unusedVariables false
set_option maxRecDepth 30000
def sAt (f : Int) (l : List Int) (p : Int) : Int := if f ≤ p then l.getD (p - f).toNat 0 else 0
theorem sAt_nil (f p : Int) : sAt f [] p = 0 := by unfold sAt; split <;> simp
theorem sAt_r {l : List Int} (h : R64 l) (f p : Int) : 0 ≤ sAt f l p ∧ sAt f l p < 18446744073709551616 := by
  unfold sAt
  split
  · exact getD_r h _
  · decide
theorem getD_out {l : List Int} {i : Nat} (h : l.length ≤ i) : l.getD i 0 = 0 := by rw [List.getD_eq_getElem?_getD, List.getElem?_eq_none h]; rfl
theorem sAt_out {f p : Int} {l : List Int} (h : ¬ (f ≤ p ∧ p < f + l.length)) : sAt f l p = 0 := by
  unfold sAt
  split
  · exact getD_out (by omega)
  · rfl
theorem sAt_in {f p : Int} {l : List Int} (h : sAt f l p ≠ 0) : f ≤ p ∧ p < f + l.length := Classical.byContradiction fun hn => h (sAt_out hn)
theorem sAt_at (f : Int) (l : List Int) (j : Nat) : sAt f l (f + j) = l.getD j 0 := by
  unfold sAt
  rw [if_pos (by omega)]
  congr 1
  omega
theorem getD_rep (k i : Nat) : (List.replicate k (0 : Int)).getD i 0 = 0 := by
  rw [List.getD_eq_getElem?_getD, List.getElem?_replicate]
  split <;> rfl
theorem getD_app (a b : List Int) (i : Nat) : (a ++ b).getD i 0 = if i < a.length then a.getD i 0 else b.getD (i - a.length) 0 := by
  rw [List.getD_eq_getElem?_getD]
  by_cases h : i < a.length
  · rw [if_pos h, List.getElem?_append_left h, ← List.getD_eq_getElem?_getD]
  · rw [if_neg h, List.getElem?_append_right (by omega), ← List.getD_eq_getElem?_getD]
theorem trim_at {f : Int} {l : List Int} (h1 : -4611686018427387904 ≤ f) (h2 : f + l.length ≤ 4611686018427387904) (p : Int) : sAt (trim f l).1 (trim f l).2 p = sAt f l p := by
  rcases trim_spec l f h1 h2 with ⟨h, h0⟩ | ⟨k, m, c, h, hc, _, _, hll⟩
  · rw [h, sAt_nil]
    unfold sAt
    split
    · by_cases hi : (p - f).toNat < l.length
      · exact (h0 _ (getD_mem (a := 0) hi)).symm
      · exact (getD_out (by omega)).symm
    · rfl
  · rw [h]
    subst hll
    unfold sAt
    simp only
    by_cases h3 : f + (k : Int) ≤ p
    · rw [if_pos h3, if_pos (by omega), getD_app, if_neg (by simp; omega), getD_app, List.length_replicate]
      have e : (p - f).toNat - k = (p - (f + k)).toNat := by omega
      rw [e]
      split
      · rfl
      · rw [getD_rep, getD_out (by omega)]
    · rw [if_neg h3]
      split
      · rw [getD_app, List.length_replicate, if_pos (by omega), getD_rep]
      · rfl
theorem tight_le {f g : Int} {l m : List Int} (h1 : l.getD 0 0 ≠ 0) (h2 : l.getD (l.length - 1) 0 ≠ 0) (hl : l ≠ []) (h : ∀ p, sAt f l p = sAt g m p) : g ≤ f ∧ f + l.length ≤ g + m.length := by
  have a1 := sAt_at f l 0
  have a2 := sAt_at f l (l.length - 1)
  have : 0 < l.length := List.length_pos_iff.2 hl
  rw [← a1, h] at h1
  rw [← a2, h] at h2
  have b1 := sAt_in h1
  have b2 := sAt_in h2
  omega
/-- sides without zeros at their ends that hold the same are the same -/
theorem canon {s t : Int × List Int} (hs : Tight s) (ht : Tight t) (h : ∀ p, sAt s.1 s.2 p = sAt t.1 t.2 p) : s = t := by
  obtain ⟨f, l⟩ := s
  obtain ⟨g, m⟩ := t
  simp only at h
  rcases hs with hs | ⟨h1, h2, h3⟩
  · obtain ⟨rfl, rfl⟩ := Prod.mk.inj hs
    rcases ht with ht | ⟨h4, h5, h6⟩
    · exact ht.symm
    · exfalso
      have := sAt_at g m 0
      rw [← h, sAt_nil] at this
      exact h5 this.symm
  · rcases ht with ht | ⟨h4, h5, h6⟩
    · exfalso
      obtain ⟨rfl, rfl⟩ := Prod.mk.inj ht
      have := sAt_at f l 0
      rw [h, sAt_nil] at this
      exact h2 this.symm
    · have a := tight_le h2 h3 h1 h
      have b := tight_le h5 h6 h4 fun p => (h p).symm
      simp only at a b
      obtain rfl : f = g := by omega
      have hl : l.length = m.length := by omega
      have : l = m := by
        refine List.ext_getElem hl fun i i1 i2 => ?_
        have := h (f + i)
        rw [sAt_at, sAt_at, List.getD_eq_getElem?_getD, List.getD_eq_getElem?_getD, List.getElem?_eq_getElem i1, List.getElem?_eq_getElem i2] at this
        exact this
      rw [this]
theorem getD_set (c : List Int) (q p : Nat) (v : Int) (hq : q < c.length) : (c.set q v).getD p 0 = if p = q then v else c.getD p 0 := by
  rw [List.getD_eq_getElem?_getD, List.getElem?_set]
  by_cases h : q = p
  · subst h
    rw [if_pos rfl, if_pos rfl, if_pos hq]; rfl
  · rw [if_neg h, if_neg (fun e => h e.symm), List.getD_eq_getElem?_getD]
theorem addGo_get (o : Nat) : ∀ (l : List Int) (i : Nat) (c : List Int) (bad : Bool) (p : Nat), o + i + l.length ≤ c.length →
    (addGo o i l c bad).1.getD p 0 = if o + i ≤ p ∧ p < o + i + l.length then x64 (c.getD p 0 + l.getD (p - (o + i)) 0) else c.getD p 0
  | [], i, c, bad, p, _ => by
    rw [addGo, if_neg (by simp only [List.length_nil]; omega)]
  | x :: l, i, c, bad, p, h => by
    simp only [List.length_cons] at h
    rw [addGo, addGo_get o l (i + 1) _ _ p (by simp only [List.length_set]; omega), getD_set _ _ _ _ (by omega)]
    simp only [List.length_cons]
    by_cases h1 : p = o + i
    · subst h1
      rw [if_neg (by omega), if_pos rfl, if_pos (by omega), Nat.sub_self]; rfl
    · rw [if_neg h1]
      by_cases h2 : o + i + 1 ≤ p ∧ p < o + i + 1 + l.length
      · rw [if_pos (by omega), if_pos (by omega)]
        have e : p - (o + i) = p - (o + (i + 1)) + 1 := by omega
        rw [e, List.getD_cons_succ]
      · rw [if_neg (by omega), if_neg (by omega)]
theorem addGo_flag (o : Nat) : ∀ (l : List Int) (i : Nat) (c : List Int) (bad : Bool), o + i + l.length ≤ c.length →
    ((addGo o i l c bad).2 = false ↔ bad = false ∧ ∀ j, j < l.length → ¬ x64 (c.getD (o + i + j) 0 + l.getD j 0) < c.getD (o + i + j) 0)
  | [], i, c, bad, _ => by rw [addGo]; simp
  | x :: l, i, c, bad, h => by
    simp only [List.length_cons] at h
    rw [addGo, addGo_flag o l (i + 1) _ _ (by simp only [List.length_set]; omega), Bool.or_eq_false_iff, decide_eq_false_iff_not]
    constructor
    · rintro ⟨⟨h1, h2⟩, h3⟩
      refine ⟨h1, fun j hj => ?_⟩
      cases j with
      | zero => simpa using h2
      | succ j =>
        have := h3 j (by simpa using hj)
        rw [getD_set _ _ _ _ (by omega), if_neg (by omega)] at this
        rw [List.getD_cons_succ, show o + i + (j + 1) = o + (i + 1) + j by omega]
        exact this
    · rintro ⟨h1, h2⟩
      refine ⟨⟨h1, by simpa using h2 0 (by simp)⟩, fun j hj => ?_⟩
      have := h2 (j + 1) (by simpa using hj)
      rw [List.getD_cons_succ, show o + i + (j + 1) = o + (i + 1) + j by omega] at this
      rw [getD_set _ _ _ _ (by omega), if_neg (by omega)]
      exact this
theorem wrap_lt {a b : Int} (ha : 0 ≤ a ∧ a < 18446744073709551616) (hb : 0 ≤ b ∧ b < 18446744073709551616) : x64 (a + b) < a ↔ 18446744073709551616 ≤ a + b := by
  have e : x64 (a + b) = (a + b) % 18446744073709551616 := by
    show IntKind.u64.wrap (a + b) = _
    rw [IntKind.wrap_u64]
  rw [e]; omega
/-- two sides added, place by place -/
theorem addL_sem {f g : Int} {l m : List Int} (hl : R64 l) (hm : R64 m) (bad : Bool) :
    ((addL (f, l) (g, m) bad).2.2 = false ↔ bad = false ∧ ∀ p, sAt f l p + sAt g m p < 18446744073709551616) ∧
    ((addL (f, l) (g, m) bad).2.2 = false → ∀ p, sAt (addL (f, l) (g, m) bad).1 (addL (f, l) (g, m) bad).2.1 p = sAt f l p + sAt g m p) := by
  cases l with
  | nil =>
    refine ⟨⟨fun h => ⟨h, fun p => by rw [sAt_nil]; have := (sAt_r hm g p).2; omega⟩, fun h => h.1⟩, fun _ p => ?_⟩
    rw [sAt_nil, Int.zero_add]; rfl
  | cons a r =>
    cases m with
    | nil =>
      refine ⟨⟨fun h => ⟨h, fun p => by rw [sAt_nil]; have := (sAt_r hl f p).2; omega⟩, fun h => h.1⟩, fun _ p => ?_⟩
      rw [sAt_nil, Int.add_zero]; rfl
    | cons b q =>
      have lo : lo2 f g ≤ f ∧ lo2 f g ≤ g := by unfold lo2; split <;> omega
      have hi : f + ((a :: r).length : Nat) ≤ hi2 (f + ((a :: r).length : Nat)) (g + ((b :: q).length : Nat)) ∧ g + ((b :: q).length : Nat) ≤ hi2 (f + ((a :: r).length : Nat)) (g + ((b :: q).length : Nat)) := by unfold hi2; split <;> omega
      simp only [addL]
      have hN : addN f (a :: r) g (b :: q) = hi2 (f + ((a :: r).length : Nat)) (g + ((b :: q).length : Nat)) - lo2 f g := rfl
      generalize lo2 f g = first at *
      generalize addN f (a :: r) g (b :: q) = N at *
      generalize hL : a :: r = L at *
      generalize hM : b :: q = M at *
      have len1 : (f - first).toNat + 0 + L.length ≤ (List.replicate N.toNat (0 : Int)).length := by rw [List.length_replicate]; omega
      have flag1 : (addGo (f - first).toNat 0 L (List.replicate N.toNat 0) bad).2 = bad := by
        cases bad with
        | true => exact addGo_bad _ _ _ _
        | false =>
          refine (addGo_flag _ _ _ _ _ len1).2 ⟨rfl, fun j hj => ?_⟩
          rw [getD_rep, Int.zero_add, x64_eq (getD_r hl j)]
          have := (getD_r hl j).1
          omega
      have get1 : ∀ p : Nat, (addGo (f - first).toNat 0 L (List.replicate N.toNat 0) bad).1.getD p 0 = sAt f L (first + p) := by
        intro p
        rw [addGo_get _ _ _ _ _ _ len1, getD_rep]
        split
        · rw [Int.zero_add, x64_eq (getD_r hl _)]
          unfold sAt
          rw [if_pos (by omega)]
          congr 1
          omega
        · exact (sAt_out (by omega)).symm
      rw [flag1]
      have len2 : (g - first).toNat + 0 + M.length ≤ (addGo (f - first).toNat 0 L (List.replicate N.toNat 0) bad).1.length := by rw [addGo_len, List.length_replicate]; omega
      have fl := addGo_flag (g - first).toNat M 0 (addGo (f - first).toNat 0 L (List.replicate N.toNat 0) bad).1 bad len2
      have get2 : ∀ p : Nat, (addGo (g - first).toNat 0 M (addGo (f - first).toNat 0 L (List.replicate N.toNat 0) bad).1 bad).1.getD p 0 = if (g - first).toNat ≤ p ∧ p < (g - first).toNat + M.length then x64 (sAt f L (first + p) + sAt g M (first + p)) else sAt f L (first + p) := by
        intro p
        rw [addGo_get _ _ _ _ _ _ len2, get1]
        simp only [Nat.add_zero]
        split
        · congr 2
          unfold sAt
          rw [if_pos (by omega)]
          congr 1
          omega
        · rfl
      have key : (∀ j, j < M.length → ¬ x64 ((addGo (f - first).toNat 0 L (List.replicate N.toNat 0) bad).1.getD ((g - first).toNat + 0 + j) 0 + M.getD j 0) < (addGo (f - first).toNat 0 L (List.replicate N.toNat 0) bad).1.getD ((g - first).toNat + 0 + j) 0) ↔ ∀ p, sAt f L p + sAt g M p < 18446744073709551616 := by
        constructor
        · intro h p
          by_cases h0 : sAt g M p = 0
          · rw [h0]; have := (sAt_r hl f p).2; omega
          · have hp := sAt_in h0
            have := h (p - g).toNat (by omega)
            rw [get1, ← sAt_at g M] at this
            have e1 : first + (((g - first).toNat + 0 + (p - g).toNat : Nat) : Int) = p := by omega
            have e2 : g + (((p - g).toNat : Nat) : Int) = p := by omega
            rw [e1, e2, wrap_lt (sAt_r hl f p) (sAt_r hm g p)] at this
            omega
        · intro h j hj
          rw [get1, ← sAt_at g M]
          have e1 : first + (((g - first).toNat + 0 + j : Nat) : Int) = g + j := by omega
          rw [e1, wrap_lt (sAt_r hl f _) (sAt_r hm g _)]
          have := h (g + j)
          omega
      rw [fl, key]
      refine ⟨Iff.rfl, fun h p => ?_⟩
      have hs := h.2 p
      have r1 := sAt_r hl f p
      have r2 := sAt_r hm g p
      by_cases hp : first ≤ p
      · have e := get2 (p - first).toNat
        have e1 : first + (((p - first).toNat : Nat) : Int) = p := by omega
        rw [e1] at e
        rw [show sAt first (addGo (g - first).toNat 0 M (addGo (f - first).toNat 0 L (List.replicate N.toNat 0) bad).1 bad).1 p = _ from if_pos hp, e]
        split
        · exact x64_eq (by omega)
        · rename_i hx
          have : sAt g M p = 0 := sAt_out (by omega)
          rw [this, Int.add_zero]
      · rw [sAt_out (f := f) (l := L) (by omega), sAt_out (f := g) (l := M) (by omega)]
        unfold sAt
        rw [if_neg hp]; rfl
end Sx
/-! Plain: in whatever order. -/
namespace Sx
open Go Go.Proofs
set_option linter.unusedVariables false
set_option maxRecDepth 30000
theorem hBadL_iff : ∀ {l m : List Int} (bad : Bool), l.length = m.length → R64 l → R64 m → (hBadL l m bad = false ↔ bad = false ∧ ∀ i, l.getD i 0 + m.getD i 0 < 18446744073709551616)
  | [], [], bad, _, _, _ => by rw [hBadL_nil]; simp
  | [], _ :: _, _, h, _, _ => by simp at h
  | _ :: _, [], _, h, _, _ => by simp at h
  | x :: l, y :: m, bad, h, hl, hm => by
    have hx := hl x List.mem_cons_self
    have hy := hm y List.mem_cons_self
    rw [hBadL, hBadL_iff _ (by simpa using h) (fun z hz => hl z (List.mem_cons_of_mem _ hz)) (fun z hz => hm z (List.mem_cons_of_mem _ hz)), Bool.or_eq_false_iff, decide_eq_false_iff_not, wrap_lt hx hy]
    constructor
    · rintro ⟨⟨h1, h2⟩, h3⟩
      refine ⟨h1, fun i => ?_⟩
      cases i with
      | zero => simp only [List.getD_cons_zero]; omega
      | succ i => exact h3 i
    · rintro ⟨h1, h2⟩
      exact ⟨⟨h1, by have := h2 0; simp only [List.getD_cons_zero] at this; omega⟩, fun i => h2 (i + 1)⟩
theorem hZip_get : ∀ {l m : List Int} (i : Nat), l.length = m.length → (hZip l m).getD i 0 = x64 (l.getD i 0 + m.getD i 0)
  | [], [], i, _ => by simp [hZip]; decide
  | [], _ :: _, _, h => by simp at h
  | _ :: _, [], _, h => by simp at h
  | x :: l, y :: m, 0, h => rfl
  | x :: l, y :: m, i + 1, h => hZip_get i (by simpa using h)
theorem hZip_r (l m : List Int) : R64 (hZip l m) := by
  intro x hx
  unfold hZip at hx
  obtain ⟨i, hi, rfl⟩ := List.getElem_of_mem hx
  rw [List.getElem_zipWith]
  exact x64_r _
theorem ext_getD {l m : List Int} (h : l.length = m.length) (hg : ∀ i, l.getD i 0 = m.getD i 0) : l = m := by
  refine List.ext_getElem h fun i i1 i2 => ?_
  have := hg i
  rw [List.getD_eq_getElem?_getD, List.getD_eq_getElem?_getD, List.getElem?_eq_getElem i1, List.getElem?_eq_getElem i2] at this
  exact this
def histO (a b : HistD) : Bool := unlikeB a b || hBad a b
structure HR (a : HistD) : Prop where
  r : R64 a.cs
  ct : 0 ≤ a.count ∧ a.count < 18446744073709551616
theorem hBad_iff {a b : HistD} (hA : HR a) (hB : HR b) (h : a.cs.length = b.cs.length) : hBad a b = false ↔ a.count + b.count < 18446744073709551616 ∧ ∀ i, a.cs.getD i 0 + b.cs.getD i 0 < 18446744073709551616 := by
  unfold hBad
  rw [hBadL_iff _ h hA.r hB.r, Bool.false_or, decide_eq_false_iff_not, wrap_lt hA.ct hB.ct]
  constructor
  · rintro ⟨h1, h2⟩; exact ⟨by omega, h2⟩
  · rintro ⟨h1, h2⟩; exact ⟨by omega, h2⟩
theorem HR.add {a b : HistD} (z : Int) : HR (histE a b z) := ⟨hZip_r _ _, x64_r _⟩
theorem like_iff {a b : HistD} : unlikeB a b = false ↔ a.cs.length = b.cs.length ∧ a.bs = b.bs := by
  constructor
  · exact unlike_len
  · rintro ⟨h1, h2⟩
    unfold unlikeB
    rw [h1, h2]; simp
/-- histograms added: (a + b) + c, a + (b + c) -/
theorem hist_assoc {a b c : HistD} {z z' : Int} (hA : HR a) (hB : HR b) (hC : HR c) (h1 : histO a b = false) (h2 : histO b c = false) :
    histO (histE a b z) c = histO a (histE b c z') ∧ (histO (histE a b z) c = false → hZip (histE a b z).cs c.cs = hZip a.cs (histE b c z').cs ∧ x64 ((histE a b z).count + c.count) = x64 (a.count + (histE b c z').count)) := by
  unfold histO at h1 h2
  rw [Bool.or_eq_false_iff] at h1 h2
  obtain ⟨u1, k1⟩ := h1
  obtain ⟨u2, k2⟩ := h2
  obtain ⟨l1, s1⟩ := like_iff.1 u1
  obtain ⟨l2, s2⟩ := like_iff.1 u2
  have kk1 := (hBad_iff hA hB l1).1 k1
  have kk2 := (hBad_iff hB hC l2).1 k2
  have lP : (histE a b z).cs.length = b.cs.length := hZip_len _ _ l1
  have lR : (histE b c z').cs.length = c.cs.length := hZip_len _ _ l2
  have uP : unlikeB (histE a b z) c = false := like_iff.2 ⟨by omega, s2⟩
  have uR : unlikeB a (histE b c z') = false := like_iff.2 ⟨by omega, s1.trans s2⟩
  have cP : (histE a b z).count = a.count + b.count := x64_eq ⟨by have := hA.ct; have := hB.ct; omega, kk1.1⟩
  have cR : (histE b c z').count = b.count + c.count := x64_eq ⟨by have := hB.ct; have := hC.ct; omega, kk2.1⟩
  have gP : ∀ i, (histE a b z).cs.getD i 0 = a.cs.getD i 0 + b.cs.getD i 0 := fun i => (hZip_get i l1).trans (x64_eq ⟨by have := getD_r hA.r i; have := getD_r hB.r i; omega, kk1.2 i⟩)
  have gR : ∀ i, (histE b c z').cs.getD i 0 = b.cs.getD i 0 + c.cs.getD i 0 := fun i => (hZip_get i l2).trans (x64_eq ⟨by have := getD_r hB.r i; have := getD_r hC.r i; omega, kk2.2 i⟩)
  have iP := hBad_iff (HR.add (a := a) (b := b) z) hC (by omega)
  have iR := hBad_iff hA (HR.add (a := b) (b := c) z') (by omega)
  have same : hBad (histE a b z) c = false ↔ hBad a (histE b c z') = false := by
    rw [iP, iR, cP, cR]
    constructor
    · rintro ⟨q1, q2⟩
      exact ⟨by omega, fun i => by have := q2 i; rw [gP] at this; rw [gR]; omega⟩
    · rintro ⟨q1, q2⟩
      exact ⟨by omega, fun i => by have := q2 i; rw [gR] at this; rw [gP]; omega⟩
  refine ⟨?_, fun h => ?_⟩
  · unfold histO
    rw [uP, uR, Bool.false_or, Bool.false_or]
    cases h3 : hBad (histE a b z) c with
    | false => exact (same.1 h3).symm
    | true =>
      cases h4 : hBad a (histE b c z') with
      | true => rfl
      | false => rw [same.2 h4] at h3; cases h3
  · refine ⟨ext_getD ?_ fun i => ?_, by rw [cP, cR, Int.add_assoc]⟩
    · rw [hZip_len _ _ (by omega), hZip_len _ _ (by omega), lR]
    · rw [hZip_get i (by omega), hZip_get i (by omega), gP, gR, Int.add_assoc]
theorem downGo_flag (f : Int) (n : Nat) : ∀ (l : List Int) (i : Nat) (c : List Int) (bad : Bool), downGo f n i l c bad = ((downGo f n i l c false).1, bad || (downGo f n i l c false).2)
  | [], _, _, bad => by simp [downGo]
  | x :: l, i, c, bad => by
    rw [downGo, downGo_flag f n l, downGo, downGo_flag f n l (i + 1) _ (false || _)]
    simp [Bool.or_assoc]
theorem downL_flag (f : Int) (l : List Int) (n : Nat) (bad : Bool) : downL f l n bad = ((downL f l n false).1, (downL f l n false).2.1, bad || (downL f l n false).2.2) := by
  unfold downL
  split
  · simp
  · rw [downGo_flag]
/-- one side of two, shifted and added -/
theorem oneSide_sem {s t : Int × List Int} {x y : Nat} {bad : Bool} :
    ((oneSide s t x y bad).2.2 = false ↔ bad = false ∧ (downL s.1 s.2 x false).2.2 = false ∧ (downL t.1 t.2 y false).2.2 = false ∧ ∀ p, sAt (downL s.1 s.2 x false).1 (downL s.1 s.2 x false).2.1 p + sAt (downL t.1 t.2 y false).1 (downL t.1 t.2 y false).2.1 p < 18446744073709551616) ∧
    ((oneSide s t x y bad).2.2 = false → ∀ p, sAt (oneSide s t x y bad).1 (oneSide s t x y bad).2.1 p = sAt (downL s.1 s.2 x false).1 (downL s.1 s.2 x false).2.1 p + sAt (downL t.1 t.2 y false).1 (downL t.1 t.2 y false).2.1 p) := by
  have h := addL_sem (f := (downL s.1 s.2 x false).1) (g := (downL t.1 t.2 y false).1) (downL_r s.1 s.2 x false) (downL_r t.1 t.2 y false) ((bad || (downL s.1 s.2 x false).2.2) || (downL t.1 t.2 y false).2.2)
  unfold oneSide
  rw [downL_flag s.1 s.2 x bad, downL_flag t.1 t.2 y _]
  simp only
  refine ⟨?_, h.2⟩
  rw [h.1, Bool.or_eq_false_iff, Bool.or_eq_false_iff, and_assoc, and_assoc]
theorem oneSide_swap {s t : Int × List Int} {x y : Nat} {bad : Bool} : ((oneSide s t x y bad).2.2 = (oneSide t s y x bad).2.2) ∧
    ((oneSide s t x y bad).2.2 = false → ∀ p, sAt (oneSide s t x y bad).1 (oneSide s t x y bad).2.1 p = sAt (oneSide t s y x bad).1 (oneSide t s y x bad).2.1 p) := by
  have a := oneSide_sem (s := s) (t := t) (x := x) (y := y) (bad := bad)
  have b := oneSide_sem (s := t) (t := s) (x := y) (y := x) (bad := bad)
  have e : (oneSide s t x y bad).2.2 = false ↔ (oneSide t s y x bad).2.2 = false := by
    rw [a.1, b.1]
    constructor
    · rintro ⟨h1, h2, h3, h4⟩; exact ⟨h1, h3, h2, fun p => by rw [Int.add_comm]; exact h4 p⟩
    · rintro ⟨h1, h2, h3, h4⟩; exact ⟨h1, h3, h2, fun p => by rw [Int.add_comm]; exact h4 p⟩
  refine ⟨?_, fun h p => by rw [a.2 h, b.2 (e.1 h), Int.add_comm]⟩
  cases h1 : (oneSide s t x y bad).2.2 with
  | false => exact (e.1 h1).symm
  | true =>
    cases h2 : (oneSide t s y x bad).2.2 with
    | true => rfl
    | false => rw [e.2 h2] at h1; cases h1
theorem wideV_swap (s t : Int × List Int) (x y : Nat) : wideV s t x y = wideV t s y x := by
  unfold wideV
  cases s.2 with
  | nil => cases t.2 <;> rfl
  | cons a r => cases t.2 with
    | nil => rfl
    | cons b q => simp only; split <;> split <;> split <;> split <;> omega
theorem shGo_swap (p1 p2 n1 n2 : Int × List Int) (most : Int) : ∀ (k : Nat) (x y s : Int) (d : Nat), shGo p2 p1 n2 n1 most k y x s d = (shGo p1 p2 n1 n2 most k x y s d).map fun r => (r.2.1, r.1, r.2.2)
  | 0, _, _, _, _ => rfl
  | k + 1, x, y, s, d => by
    rw [shGo, shGo, wideV_swap p2 p1, wideV_swap n2 n1, shGo_swap p1 p2 n1 n2 most k]
    have e : (if x > y then x else y) = (if y > x then y else x) := by split <;> split <;> omega
    rw [e]
    generalize (if y > x then y else x) = mx
    by_cases h1 : most < 1 ∨ most > 320 ∨ mx > 31 ∨ (0 < d ∧ s < -10)
    · rw [if_pos h1, if_pos h1]; rfl
    · rw [if_neg h1, if_neg h1]
      by_cases h2 : wideV p1 p2 x.toNat y.toNat ≤ most ∧ wideV n1 n2 x.toNat y.toNat ≤ most
      · rw [if_pos h2, if_pos h2]; rfl
      · rw [if_neg h2, if_neg h2]
theorem lesser_comm (a b : Int) : lesser a b = lesser b a := by unfold lesser; split <;> split <;> omega
theorem shV_swap (a b : ExpD) (most : Int) : shV b a most = (shV a b most).map fun r => (r.2.1, r.1, r.2.2) := by
  unfold shV
  rw [lesser_comm b.scale a.scale, shGo_swap]
theorem cntBad_swap {a b : ExpD} (ca : 0 ≤ a.count ∧ a.count < 18446744073709551616) (cb : 0 ≤ b.count ∧ b.count < 18446744073709551616) (za : 0 ≤ a.zero ∧ a.zero < 18446744073709551616) (zb : 0 ≤ b.zero ∧ b.zero < 18446744073709551616) : cntBad a b = cntBad b a := by
  unfold cntBad
  have e1 : decide (x64 (a.count + b.count) < a.count) = decide (x64 (b.count + a.count) < b.count) := decide_eq_decide.2 (by rw [wrap_lt ca cb, wrap_lt cb ca, Int.add_comm])
  have e2 : decide (x64 (a.zero + b.zero) < a.zero) = decide (x64 (b.zero + a.zero) < b.zero) := decide_eq_decide.2 (by rw [wrap_lt za zb, wrap_lt zb za, Int.add_comm])
  rw [e1, e2]
theorem side_swap {f g : Int} {l m : List Int} (h1 : -2147483648 ≤ f ∧ f < 2147483648) (h2 : l.length ≤ 1500) (h3 : -2147483648 ≤ g ∧ g < 2147483648) (h4 : m.length ≤ 1500) (rl : R64 l) (rm : R64 m) {x y : Nat} {bad : Bool} {most : Int} (hm : most ≤ 320)
    (hw : wideV (trim f l) (trim g m) x y ≤ most) (h : (oneSide (trim f l) (trim g m) x y bad).2.2 = false) :
    trim (oneSide (trim f l) (trim g m) x y bad).1 (oneSide (trim f l) (trim g m) x y bad).2.1 = trim (oneSide (trim g m) (trim f l) y x bad).1 (oneSide (trim g m) (trim f l) y x bad).2.1 := by
  have sw := oneSide_swap (s := trim f l) (t := trim g m) (x := x) (y := y) (bad := bad)
  have k := side_ok h1 h2 h3 h4 rl rm h
  have k' := side_ok h3 h4 h1 h2 rm rl (sw.1.symm.trans h)
  have e := sw.2 h
  have len := k.len
  have len' := k'.len
  rw [wideV_swap] at len'
  have lo := k.lo
  have hi := k.hi
  have lo' := k'.lo
  have hi' := k'.hi
  clear k k' sw h
  generalize oneSide (trim f l) (trim g m) x y bad = u at *
  generalize oneSide (trim g m) (trim f l) y x bad = v at *
  refine canon (trim_tight (by omega) (by omega)) (trim_tight (by omega) (by omega)) fun p => ?_
  rw [trim_at (by omega) (by omega), trim_at (by omega) (by omega)]
  exact e p
def Side (s : Int × List Int) : Prop := ∃ f l, s = trim f l ∧ (-2147483648 ≤ f ∧ f < 2147483648) ∧ l.length ≤ 1500 ∧ R64 l
theorem side_swap' {s t : Int × List Int} (hs : Side s) (ht : Side t) {x y : Nat} {bad : Bool} {most : Int} (hm : most ≤ 320) (hw : wideV s t x y ≤ most) (h : (oneSide s t x y bad).2.2 = false) :
    trim (oneSide s t x y bad).1 (oneSide s t x y bad).2.1 = trim (oneSide t s y x bad).1 (oneSide t s y x bad).2.1 := by
  obtain ⟨f, l, rfl, h1, h2, h3⟩ := hs
  obtain ⟨g, m, rfl, h4, h5, h6⟩ := ht
  exact side_swap h1 h2 h4 h5 h3 h6 hm hw h
theorem sdP_side {a : ExpD} (h : Fits a) (r : R64 a.cP) : Side (sdP a) := ⟨_, _, rfl, bifoff a.hasP ⟨h.2.2.1, h.2.2.2.1⟩, Nat.le_trans (side_len a.hasP a.cP) h.1, bif_r r⟩
theorem sdN_side {a : ExpD} (h : Fits a) (r : R64 a.cN) : Side (sdN a) := ⟨_, _, rfl, bifoff a.hasN ⟨h.2.2.2.2.1, h.2.2.2.2.2.1⟩, Nat.le_trans (side_len a.hasN a.cN) h.2.1, bif_r r⟩
theorem addP_def (a b : ExpD) (x y : Nat) : addP a b x y = oneSide (sdP a) (sdP b) x y (cntBad a b) := rfl
theorem addNn_def (a b : ExpD) (x y : Nat) : addNn a b x y = oneSide (sdN a) (sdN b) x y (addP a b x y).2.2 := rfl
theorem addBad_def (a b : ExpD) (x y : Nat) : addBad a b x y = ((addNn a b x y).2.2 || (bigS (addP a b x y).1 (addP a b x y).2.1 || bigS (addNn a b x y).1 (addNn a b x y).2.1)) := rfl
/-- points added: a + b, b + a -/
theorem exp_swap {a b : ExpD} {most : Int} {x y : Nat} (pA : Side (sdP a)) (nA : Side (sdN a)) (pB : Side (sdP b)) (nB : Side (sdN b)) (hc : cntBad a b = cntBad b a)
    (hm : most ≤ 320) (w1 : wideV (sdP a) (sdP b) x y ≤ most) (w2 : wideV (sdN a) (sdN b) x y ≤ most) :
    addBad a b x y = addBad b a y x ∧
    (addBad a b x y = false → trim (addP a b x y).1 (addP a b x y).2.1 = trim (addP b a y x).1 (addP b a y x).2.1 ∧ trim (addNn a b x y).1 (addNn a b x y).2.1 = trim (addNn b a y x).1 (addNn b a y x).2.1) := by
  rw [addBad_def, addBad_def, addNn_def, addNn_def b a, addP_def, addP_def b a, ← hc]
  generalize cntBad a b = bad
  generalize sdP a = p at *
  generalize sdP b = q at *
  generalize sdN a = m at *
  generalize sdN b = n at *
  have e1 := (oneSide_swap (s := p) (t := q) (x := x) (y := y) (bad := bad)).1
  rw [← e1]
  have s1 := side_swap' pA pB (bad := bad) hm w1
  generalize hb2 : (oneSide p q x y bad).2.2 = bad2 at *
  have e2 := (oneSide_swap (s := m) (t := n) (x := x) (y := y) (bad := bad2)).1
  rw [← e2]
  have s2 := side_swap' nA nB (bad := bad2) hm w2
  have k2 : (oneSide m n x y bad2).2.2 = false → bad2 = false := fun h => (oneSide_sem.1.1 h).1
  unfold bigS
  cases h : (oneSide m n x y bad2).2.2 with
  | true => simp
  | false =>
    rw [s1 (k2 h), s2 h]
    simp
end Sx
/-! The law MergeOrder: true. -/
namespace Sx
open Go Go.Proofs
set_option linter.unusedVariables false
set_option maxRecDepth 30000
variable {G : Glob}
def outH (p : Option HistD × Int) : Out SV := match p.1 with
  | none => .ret (.t [.a noH.cells, .c (errV p.2)])
  | some u => .ret (.t [.a u.cells, .c nilV])
def mhistW (k : Nat) : List U → Out SV
  | [.a la, .a lb] => match asHist la, asHist lb with
    | some a, some b => .need (HGood k b ∧ a.cs.length ≤ 1500 ∧ a.bs.length ≤ 1500) (.all (Option HistD × Int) (fun p => ∃ z, p.1 = bif histO a b then none else some (histE a b z)) ⟨(_, 0), 0, rfl⟩ outH)
    | _, _ => .fail
  | _ => .fail
theorem mhistW_ok {k : Nat} : Ok G 23 (mhistW k) := (mhist_ok (k := k)).mono fun us K hk => by
  unfold mhistW at hk
  split at hk
  · split at hk
    · rename_i la lb _ _ a b ha hb
      obtain ⟨⟨h1, h2, h3⟩, hk⟩ := hk
      unfold mhistS
      simp only [ha, hb]
      refine ⟨⟨h1, h2, h3, trivial⟩, fun c hc => ?_⟩
      cases c with
      | true => exact hk (none, 13) ⟨0, by unfold histO; rw [hc]; rfl⟩
      | false =>
        refine fun z _ c' hc' => ?_
        cases c' with
        | true => exact hk (none, 9) ⟨0, by unfold histO; rw [hc, hc']; rfl⟩
        | false => exact hk (some (histE a b z), 0) ⟨z, by unfold histO; rw [hc, hc']; rfl⟩
    · exact hk.elim
  · exact hk.elim
def expO (a b : ExpD) (most z : Int) : Option ExpD := bif a.thr != b.thr then none else match shV a b most with
  | none => none
  | some r => bif addBad a b r.1.toNat r.2.1.toNat then none else some (addE a b r.1.toNat r.2.1.toNat r.2.2 z)
def mexpX (k : Nat) : List U → Out SV
  | [.a la, .a lb, .c (.v (.int .i64 most))] => match asExp la, asExp lb with
    | some a, some b => .need (Good k a ∧ Good k b) (.all (Option ExpD × Int) (fun p => ∃ z, p.1 = expO a b most z) ⟨(_, 0), 0, rfl⟩ outE)
    | _, _ => .fail
  | _ => .fail
theorem mexpX_ok {k : Nat} : Ok G 28 (mexpX k) := (mexp_ok (k := k)).mono fun us K hk => by
  unfold mexpX at hk
  split at hk
  · split at hk
    · rename_i la lb most _ _ a b ha hb
      obtain ⟨⟨hA, hB⟩, hk⟩ := hk
      unfold mexpS
      simp only [ha, hb]
      refine ⟨⟨hA.fits, hB.fits, hB.t.attrs, hB.d.1, hB.t.ex, hB.d.2⟩, fun c hc => ?_⟩
      cases c with
      | true => exact hk (none, 13) ⟨0, by unfold expO; rw [hc]; rfl⟩
      | false =>
        refine fun o ho => ?_
        cases o with
        | none => exact hk (none, 9) ⟨0, by unfold expO; rw [hc, ho]; rfl⟩
        | some r =>
          refine ⟨?_, fun z _ c hc' => ?_⟩
          · unfold shV at ho
            obtain ⟨j, b1, rfl, b3, b4, b5, b6, _⟩ := shGo_spec ho
            have := lesser_le a.scale b.scale
            simp only; omega
          · cases c with
            | true => exact hk (none, 9) ⟨0, by unfold expO; simp only [hc, ho, cond_false]; rw [hc']; rfl⟩
            | false => exact hk (some (addE a b r.1.toNat r.2.1.toNat r.2.2 z), 0) ⟨z, by unfold expO; simp only [hc, ho, cond_false]; rw [hc']; rfl⟩
    · exact hk.elim
  · exact hk.elim
structure SameE (u v : ExpD) : Prop where
  scale : u.scale = v.scale
  count : u.count = v.count
  zero : u.zero = v.zero
  offP : u.offP = v.offP
  cP : u.cP = v.cP
  cN : u.cN = v.cN
  lP : u.cP.length ≤ 320
  lN : u.cN.length ≤ 320
theorem exp_order {k : Nat} {a b : ExpD} {most z z' : Int} (gA : Good k a) (gB : Good k b) : (expO a b most z = none ∧ expO b a most z' = none) ∨ ∃ u v, expO a b most z = some u ∧ expO b a most z' = some v ∧ SameE u v := by
  unfold expO
  have et : (b.thr != a.thr) = (a.thr != b.thr) := by
    cases h : (a.thr != b.thr) with
    | false =>
      simp only [bne_eq_false_iff_eq] at h ⊢
      exact h.symm
    | true =>
      simp only [bne_iff_ne, ne_eq] at h ⊢
      exact fun e => h e.symm
  rw [et, shV_swap a b]
  cases (a.thr != b.thr) with
  | true => exact .inl ⟨rfl, rfl⟩
  | false =>
    cases hr : shV a b most with
    | none => exact .inl ⟨rfl, rfl⟩
    | some r =>
      have hr' := hr
      unfold shV at hr'
      obtain ⟨j, _, _, m1, m2, _, _, _, w1, w2, _⟩ := shGo_spec hr'
      have e1 : r.1 = a.scale - lesser a.scale b.scale + (j : Int) := by rename_i h _ _ _ _; rw [h]
      have e2 : r.2.1 = b.scale - lesser a.scale b.scale + (j : Int) := by rename_i h _ _ _ _; rw [h]
      rw [← e1, ← e2] at w1 w2
      have hc := cntBad_swap gA.c.ct gB.c.ct gA.c.zr gB.c.zr
      have sw := exp_swap (sdP_side gA.fits gA.t.rP) (sdN_side gA.fits gA.t.rN) (sdP_side gB.fits gB.t.rP) (sdN_side gB.fits gB.t.rN) hc m2 w1 w2
      simp only [cond_false, Option.map_some]
      rw [← sw.1]
      cases hb : addBad a b r.1.toNat r.2.1.toNat with
      | true => exact .inl ⟨rfl, rfl⟩
      | false =>
        obtain ⟨t1, t2⟩ := sw.2 hb
        have fit := (add_ok' (z := z) gA.fits gB.fits gA.c.ct gB.c.ct gA.c.zr gB.c.zr gA.t.rP gA.t.rN gB.t.rP gB.t.rN hr hb).fit
        have lP := fit.lP
        have lN := fit.lN
        refine .inr ⟨_, _, rfl, rfl, ⟨rfl, ?_, ?_, ?_, ?_, ?_, by omega, by omega⟩⟩
        · show x64 (a.count + b.count) = x64 (b.count + a.count); rw [Int.add_comm]
        · show x64 (a.zero + b.zero) = x64 (b.zero + a.zero); rw [Int.add_comm]
        · show w32 (trim _ _).1 = w32 (trim _ _).1; rw [t1]
        · show (trim _ _).2 = (trim _ _).2; rw [t1]
        · show (trim _ _).2 = (trim _ _).2; rw [t2]
theorem HGood.add {k : Nat} {a b : HistD} {z : Int} (hB : HGood k b) : HGood k (histE a b z) := by
  refine ⟨hB.1, hB.2.1, hB.2.2.1, hB.2.2.2.1, ?_, hB.2.2.2.2.2⟩
  have := hB.2.2.2.2.1
  show (List.zipWith _ a.cs b.cs).length ≤ 1500
  rw [List.length_zipWith]; omega
theorem typ_nil {t : TypeId} {c : List Ct} (h : TB t = some (.rows c)) : Typ TB (.sl t) (.rows []) := .rows h (by simp) (fun r hr => by cases hr) (fun r hr => by cases hr)
theorem HGood.no {k : Nat} : HGood (k + 1) noH := ⟨typ_nil (t := 40) (c := [.str, .bool, .int .i64, .str, .bool, .int .u64, .sl 148, .sl 40, .str, .str, .str]) rfl, .rows (by simp) (by simp), typ_nil (t := 44) (c := [.sl 40, .int .u64, .int .i64, .int .u64, .str, .str, .str]) rfl, .rows (by simp) (by simp), by decide, by decide⟩
def lawOrderS (k : Nat) : List U → Out SV
  | [.a la, .a lb, .a lc, .a lx, .a ly, .c (.v (.int .i64 most))] => match asHist la, asHist lb, asHist lc, asExp lx, asExp ly with
    | some a, some b, some c, some x, some y => .need (a.Typ ∧ b.Typ ∧ c.Typ ∧ x.Typ ∧ y.Typ ∧ x.Cnt ∧ y.Cnt ∧ (a.Small → b.Small → c.Small → DpH (k + 1) a ∧ DpH (k + 1) b ∧ DpH (k + 1) c) ∧ (x.Small → y.Small → DpE (k + 1) x ∧ DpE (k + 1) y)) (one (Bo true))
    | _, _, _, _, _ => .fail
  | _ => .fail
set_option maxHeartbeats 8000000 in
theorem lawOrder_ok {k : Nat} : Ok G1 8 (lawOrderS k) := by
  have hS : AllSound (B [(10, .pure (normG (B []) [] firstS)), (22, .pure (normG (B []) [58] fewHS)), (18, .pure (normG (B []) [49] fewS)), (23, .pure (normG (B []) [56, 56] (mhistW (k + 1)))), (24, .pure (normG (B []) [22, 22] numsS)), (28, .pure (normG (B []) [47, 47, 3] (mexpX (k + 1))))]) G1 :=
    .cons _ first_ok (.cons _ fewH_ok (.cons _ few_ok (.cons _ mhistW_ok (.cons _ nums_ok (.cons _ mexpX_ok noneS)))))
  refine okP hS Tryd.func8 rfl (by decide) fun K us hk => ?_
  unfold lawOrderS at hk
  split at hk
  · split at hk
    · rename_i la lb lc lx ly most _ _ _ _ _ a b c x y ha hb hc hx hy
      rw [asHist_eq ha, asHist_eq hb, asHist_eq hc, asExp_eq hx, asExp_eq hy]
      refine ⟨by show 6 ≤ _; decide, ?_⟩
      obtain ⟨⟨tA, tB, tC, tX, tY, cX, cY, dH, dE⟩, hk⟩ := hk
      conv => whnf
      refine ⟨⟨tA, tB, tC⟩, ?_⟩
      conv => whnf
      intro f hf
      have hf : f = true → a.Small ∧ b.Small ∧ c.Small := hf
      cases f with
      | false =>
        conv => whnf
        exact hk
      | true =>
      obtain ⟨sA, sB, sC⟩ := hf rfl
      conv => whnf
      refine ⟨⟨tX, tY⟩, ?_⟩
      conv => whnf
      intro f hf
      have hf : f = true → x.Small ∧ y.Small := hf
      cases f with
      | false =>
        conv => whnf
        exact hk
      | true =>
      obtain ⟨sX, sY⟩ := hf rfl
      obtain ⟨d1, d2, d3⟩ := dH sA sB sC
      obtain ⟨d4, d5⟩ := dE sX sY
      have gX : Good (k + 1) x := ⟨tX, cX, sX, d4⟩
      have gY : Good (k + 1) y := ⟨tY, cY, sY, d5⟩
      have gB : HGood (k + 1) b := ⟨tB.attrs, d2.1, tB.ex, d2.2, sB.lC, sB.lB⟩
      have gC : HGood (k + 1) c := ⟨tC.attrs, d3.1, tC.ex, d3.2, sC.lC, sC.lB⟩
      have rA : HR a := ⟨tA.rC, tA.ct⟩
      have rB : HR b := ⟨tB.rC, tB.ct⟩
      have rC : HR c := ⟨tC.rC, tC.ct⟩
      conv => whnf
      refine ⟨⟨gB, sA.lC, sA.lB⟩, ?_⟩
      conv => whnf
      rintro ⟨o1, r1⟩ ⟨z1, h1⟩
      have h1 : o1 = bif histO a b then none else some (histE a b z1) := h1
      cases q1 : histO a b with
      | true =>
        rw [q1] at h1
        obtain rfl : o1 = none := h1
        conv => whnf
        refine ⟨⟨gC, by decide, by decide⟩, ?_⟩
        conv => whnf
        rintro ⟨o2, r2⟩ ⟨z2, h2⟩
        have h2 : o2 = bif histO noH c then none else some (histE noH c z2) := h2
        cases q2 : histO noH c with
        | true =>
          rw [q2] at h2
          obtain rfl : o2 = none := h2
          conv => whnf
          refine ⟨⟨gC, sB.lC, sB.lB⟩, ?_⟩
          conv => whnf
          rintro ⟨o3, r3⟩ ⟨z3, h3⟩
          have h3 : o3 = bif histO b c then none else some (histE b c z3) := h3
          cases q3 : histO b c with
          | true =>
            rw [q3] at h3
            obtain rfl : o3 = none := h3
            conv => whnf
            refine ⟨⟨HGood.no, sA.lC, sA.lB⟩, ?_⟩
            conv => whnf
            rintro ⟨o4, r4⟩ ⟨z4, h4⟩
            have h4 : o4 = bif histO a noH then none else some (histE a noH z4) := h4
            cases q4 : histO a noH with
            | true =>
              rw [q4] at h4
              obtain rfl : o4 = none := h4
              conv => whnf
              refine ⟨mixed, [], [], [], by kernel_rfl, ?_⟩
              conv => whnf
              refine ⟨⟨gX, gY⟩, ?_⟩
              conv => whnf
              rintro ⟨o5, r5⟩ ⟨z5, h5⟩
              have h5 : o5 = expO x y most z5 := h5
              have sw := fun z => exp_order (most := most) (z := z5) (z' := z) gX gY
              rw [← h5] at sw
              cases o5 with
              | none =>
                conv => whnf
                refine ⟨⟨gY, gX⟩, ?_⟩
                conv => whnf
                rintro ⟨o6, r6⟩ ⟨z6, h6⟩
                have h6 : o6 = expO y x most z6 := h6
                have sw := sw z6
                rw [← h6] at sw
                rcases sw with ⟨_, rfl⟩ | ⟨u, v, h, _⟩
                · conv => whnf
                  refine ⟨mixed, [], [], [], by kernel_rfl, ?_⟩
                  conv => whnf
                  exact hk
                · cases h
              | some u =>
                conv => whnf
                refine ⟨⟨gY, gX⟩, ?_⟩
                conv => whnf
                rintro ⟨o6, r6⟩ ⟨z6, h6⟩
                have h6 : o6 = expO y x most z6 := h6
                have sw := sw z6
                rw [← h6] at sw
                rcases sw with ⟨h, _⟩ | ⟨u', v, h, rfl, sm⟩
                · cases h
                obtain rfl := Option.some.inj h
                have lP := sm.lP
                have lN := sm.lN
                conv => whnf
                refine ⟨mixed, [], [], [], by kernel_rfl, ?_⟩
                conv => whnf
                refine Ask.i (fun _ => ?_) (fun c => by have c : (u.scale == v.scale) = false := c; rw [sm.scale] at c; simp at c)
                conv => whnf
                refine Ask.i (fun _ => ?_) (fun c => by have c : (u.count == v.count) = false := c; rw [sm.count] at c; simp at c)
                conv => whnf
                refine Ask.i (fun _ => ?_) (fun c => by have c : (u.zero == v.zero) = false := c; rw [sm.zero] at c; simp at c)
                conv => whnf
                refine Ask.i (fun _ => ?_) (fun c => by have c : (u.offP == v.offP) = false := c; rw [sm.offP] at c; simp at c)
                conv => whnf
                refine ⟨⟨by show u.cP.length ≤ 68719476736; omega, by show v.cP.length ≤ 68719476736; rw [← sm.cP]; omega⟩, ?_⟩
                conv => whnf
                refine Ask.i (fun _ => ?_) (fun c => absurd sm.cP (of_decide_eq_false c))
                conv => whnf
                refine ⟨⟨by show u.cN.length ≤ 68719476736; omega, by show v.cN.length ≤ 68719476736; rw [← sm.cN]; omega⟩, ?_⟩
                conv => whnf
                exact fin hk (congrArg (fun z : Bool => SV.u (.c (Bo z))) (decide_eq_true sm.cN).symm)
            | false =>
              rw [q4] at h4
              obtain rfl : o4 = some (histE a noH z4) := h4
              conv => whnf
              refine ⟨mixed, [], [], [], by kernel_rfl, ?_⟩
              conv => whnf
              refine ⟨⟨gX, gY⟩, ?_⟩
              conv => whnf
              rintro ⟨o5, r5⟩ ⟨z5, h5⟩
              have h5 : o5 = expO x y most z5 := h5
              have sw := fun z => exp_order (most := most) (z := z5) (z' := z) gX gY
              rw [← h5] at sw
              cases o5 with
              | none =>
                conv => whnf
                refine ⟨⟨gY, gX⟩, ?_⟩
                conv => whnf
                rintro ⟨o6, r6⟩ ⟨z6, h6⟩
                have h6 : o6 = expO y x most z6 := h6
                have sw := sw z6
                rw [← h6] at sw
                rcases sw with ⟨_, rfl⟩ | ⟨u, v, h, _⟩
                · conv => whnf
                  refine ⟨mixed, [], [], [], by kernel_rfl, ?_⟩
                  conv => whnf
                  exact hk
                · cases h
              | some u =>
                conv => whnf
                refine ⟨⟨gY, gX⟩, ?_⟩
                conv => whnf
                rintro ⟨o6, r6⟩ ⟨z6, h6⟩
                have h6 : o6 = expO y x most z6 := h6
                have sw := sw z6
                rw [← h6] at sw
                rcases sw with ⟨h, _⟩ | ⟨u', v, h, rfl, sm⟩
                · cases h
                obtain rfl := Option.some.inj h
                have lP := sm.lP
                have lN := sm.lN
                conv => whnf
                refine ⟨mixed, [], [], [], by kernel_rfl, ?_⟩
                conv => whnf
                refine Ask.i (fun _ => ?_) (fun c => by have c : (u.scale == v.scale) = false := c; rw [sm.scale] at c; simp at c)
                conv => whnf
                refine Ask.i (fun _ => ?_) (fun c => by have c : (u.count == v.count) = false := c; rw [sm.count] at c; simp at c)
                conv => whnf
                refine Ask.i (fun _ => ?_) (fun c => by have c : (u.zero == v.zero) = false := c; rw [sm.zero] at c; simp at c)
                conv => whnf
                refine Ask.i (fun _ => ?_) (fun c => by have c : (u.offP == v.offP) = false := c; rw [sm.offP] at c; simp at c)
                conv => whnf
                refine ⟨⟨by show u.cP.length ≤ 68719476736; omega, by show v.cP.length ≤ 68719476736; rw [← sm.cP]; omega⟩, ?_⟩
                conv => whnf
                refine Ask.i (fun _ => ?_) (fun c => absurd sm.cP (of_decide_eq_false c))
                conv => whnf
                refine ⟨⟨by show u.cN.length ≤ 68719476736; omega, by show v.cN.length ≤ 68719476736; rw [← sm.cN]; omega⟩, ?_⟩
                conv => whnf
                exact fin hk (congrArg (fun z : Bool => SV.u (.c (Bo z))) (decide_eq_true sm.cN).symm)
          | false =>
            rw [q3] at h3
            obtain rfl : o3 = some (histE b c z3) := h3
            conv => whnf
            refine ⟨⟨gC.add, sA.lC, sA.lB⟩, ?_⟩
            conv => whnf
            rintro ⟨o4, r4⟩ ⟨z4, h4⟩
            have h4 : o4 = bif histO a (histE b c z3) then none else some (histE a (histE b c z3) z4) := h4
            cases q4 : histO a (histE b c z3) with
            | true =>
              rw [q4] at h4
              obtain rfl : o4 = none := h4
              conv => whnf
              refine ⟨mixed, [], [], [], by kernel_rfl, ?_⟩
              conv => whnf
              refine ⟨⟨gX, gY⟩, ?_⟩
              conv => whnf
              rintro ⟨o5, r5⟩ ⟨z5, h5⟩
              have h5 : o5 = expO x y most z5 := h5
              have sw := fun z => exp_order (most := most) (z := z5) (z' := z) gX gY
              rw [← h5] at sw
              cases o5 with
              | none =>
                conv => whnf
                refine ⟨⟨gY, gX⟩, ?_⟩
                conv => whnf
                rintro ⟨o6, r6⟩ ⟨z6, h6⟩
                have h6 : o6 = expO y x most z6 := h6
                have sw := sw z6
                rw [← h6] at sw
                rcases sw with ⟨_, rfl⟩ | ⟨u, v, h, _⟩
                · conv => whnf
                  refine ⟨mixed, [], [], [], by kernel_rfl, ?_⟩
                  conv => whnf
                  exact hk
                · cases h
              | some u =>
                conv => whnf
                refine ⟨⟨gY, gX⟩, ?_⟩
                conv => whnf
                rintro ⟨o6, r6⟩ ⟨z6, h6⟩
                have h6 : o6 = expO y x most z6 := h6
                have sw := sw z6
                rw [← h6] at sw
                rcases sw with ⟨h, _⟩ | ⟨u', v, h, rfl, sm⟩
                · cases h
                obtain rfl := Option.some.inj h
                have lP := sm.lP
                have lN := sm.lN
                conv => whnf
                refine ⟨mixed, [], [], [], by kernel_rfl, ?_⟩
                conv => whnf
                refine Ask.i (fun _ => ?_) (fun c => by have c : (u.scale == v.scale) = false := c; rw [sm.scale] at c; simp at c)
                conv => whnf
                refine Ask.i (fun _ => ?_) (fun c => by have c : (u.count == v.count) = false := c; rw [sm.count] at c; simp at c)
                conv => whnf
                refine Ask.i (fun _ => ?_) (fun c => by have c : (u.zero == v.zero) = false := c; rw [sm.zero] at c; simp at c)
                conv => whnf
                refine Ask.i (fun _ => ?_) (fun c => by have c : (u.offP == v.offP) = false := c; rw [sm.offP] at c; simp at c)
                conv => whnf
                refine ⟨⟨by show u.cP.length ≤ 68719476736; omega, by show v.cP.length ≤ 68719476736; rw [← sm.cP]; omega⟩, ?_⟩
                conv => whnf
                refine Ask.i (fun _ => ?_) (fun c => absurd sm.cP (of_decide_eq_false c))
                conv => whnf
                refine ⟨⟨by show u.cN.length ≤ 68719476736; omega, by show v.cN.length ≤ 68719476736; rw [← sm.cN]; omega⟩, ?_⟩
                conv => whnf
                exact fin hk (congrArg (fun z : Bool => SV.u (.c (Bo z))) (decide_eq_true sm.cN).symm)
            | false =>
              rw [q4] at h4
              obtain rfl : o4 = some (histE a (histE b c z3) z4) := h4
              conv => whnf
              refine ⟨mixed, [], [], [], by kernel_rfl, ?_⟩
              conv => whnf
              refine ⟨⟨gX, gY⟩, ?_⟩
              conv => whnf
              rintro ⟨o5, r5⟩ ⟨z5, h5⟩
              have h5 : o5 = expO x y most z5 := h5
              have sw := fun z => exp_order (most := most) (z := z5) (z' := z) gX gY
              rw [← h5] at sw
              cases o5 with
              | none =>
                conv => whnf
                refine ⟨⟨gY, gX⟩, ?_⟩
                conv => whnf
                rintro ⟨o6, r6⟩ ⟨z6, h6⟩
                have h6 : o6 = expO y x most z6 := h6
                have sw := sw z6
                rw [← h6] at sw
                rcases sw with ⟨_, rfl⟩ | ⟨u, v, h, _⟩
                · conv => whnf
                  refine ⟨mixed, [], [], [], by kernel_rfl, ?_⟩
                  conv => whnf
                  exact hk
                · cases h
              | some u =>
                conv => whnf
                refine ⟨⟨gY, gX⟩, ?_⟩
                conv => whnf
                rintro ⟨o6, r6⟩ ⟨z6, h6⟩
                have h6 : o6 = expO y x most z6 := h6
                have sw := sw z6
                rw [← h6] at sw
                rcases sw with ⟨h, _⟩ | ⟨u', v, h, rfl, sm⟩
                · cases h
                obtain rfl := Option.some.inj h
                have lP := sm.lP
                have lN := sm.lN
                conv => whnf
                refine ⟨mixed, [], [], [], by kernel_rfl, ?_⟩
                conv => whnf
                refine Ask.i (fun _ => ?_) (fun c => by have c : (u.scale == v.scale) = false := c; rw [sm.scale] at c; simp at c)
                conv => whnf
                refine Ask.i (fun _ => ?_) (fun c => by have c : (u.count == v.count) = false := c; rw [sm.count] at c; simp at c)
                conv => whnf
                refine Ask.i (fun _ => ?_) (fun c => by have c : (u.zero == v.zero) = false := c; rw [sm.zero] at c; simp at c)
                conv => whnf
                refine Ask.i (fun _ => ?_) (fun c => by have c : (u.offP == v.offP) = false := c; rw [sm.offP] at c; simp at c)
                conv => whnf
                refine ⟨⟨by show u.cP.length ≤ 68719476736; omega, by show v.cP.length ≤ 68719476736; rw [← sm.cP]; omega⟩, ?_⟩
                conv => whnf
                refine Ask.i (fun _ => ?_) (fun c => absurd sm.cP (of_decide_eq_false c))
                conv => whnf
                refine ⟨⟨by show u.cN.length ≤ 68719476736; omega, by show v.cN.length ≤ 68719476736; rw [← sm.cN]; omega⟩, ?_⟩
                conv => whnf
                exact fin hk (congrArg (fun z : Bool => SV.u (.c (Bo z))) (decide_eq_true sm.cN).symm)
        | false =>
          rw [q2] at h2
          obtain rfl : o2 = some (histE noH c z2) := h2
          conv => whnf
          refine ⟨⟨gC, sB.lC, sB.lB⟩, ?_⟩
          conv => whnf
          rintro ⟨o3, r3⟩ ⟨z3, h3⟩
          have h3 : o3 = bif histO b c then none else some (histE b c z3) := h3
          cases q3 : histO b c with
          | true =>
            rw [q3] at h3
            obtain rfl : o3 = none := h3
            conv => whnf
            refine ⟨⟨HGood.no, sA.lC, sA.lB⟩, ?_⟩
            conv => whnf
            rintro ⟨o4, r4⟩ ⟨z4, h4⟩
            have h4 : o4 = bif histO a noH then none else some (histE a noH z4) := h4
            cases q4 : histO a noH with
            | true =>
              rw [q4] at h4
              obtain rfl : o4 = none := h4
              conv => whnf
              refine ⟨mixed, [], [], [], by kernel_rfl, ?_⟩
              conv => whnf
              refine ⟨⟨gX, gY⟩, ?_⟩
              conv => whnf
              rintro ⟨o5, r5⟩ ⟨z5, h5⟩
              have h5 : o5 = expO x y most z5 := h5
              have sw := fun z => exp_order (most := most) (z := z5) (z' := z) gX gY
              rw [← h5] at sw
              cases o5 with
              | none =>
                conv => whnf
                refine ⟨⟨gY, gX⟩, ?_⟩
                conv => whnf
                rintro ⟨o6, r6⟩ ⟨z6, h6⟩
                have h6 : o6 = expO y x most z6 := h6
                have sw := sw z6
                rw [← h6] at sw
                rcases sw with ⟨_, rfl⟩ | ⟨u, v, h, _⟩
                · conv => whnf
                  refine ⟨mixed, [], [], [], by kernel_rfl, ?_⟩
                  conv => whnf
                  exact hk
                · cases h
              | some u =>
                conv => whnf
                refine ⟨⟨gY, gX⟩, ?_⟩
                conv => whnf
                rintro ⟨o6, r6⟩ ⟨z6, h6⟩
                have h6 : o6 = expO y x most z6 := h6
                have sw := sw z6
                rw [← h6] at sw
                rcases sw with ⟨h, _⟩ | ⟨u', v, h, rfl, sm⟩
                · cases h
                obtain rfl := Option.some.inj h
                have lP := sm.lP
                have lN := sm.lN
                conv => whnf
                refine ⟨mixed, [], [], [], by kernel_rfl, ?_⟩
                conv => whnf
                refine Ask.i (fun _ => ?_) (fun c => by have c : (u.scale == v.scale) = false := c; rw [sm.scale] at c; simp at c)
                conv => whnf
                refine Ask.i (fun _ => ?_) (fun c => by have c : (u.count == v.count) = false := c; rw [sm.count] at c; simp at c)
                conv => whnf
                refine Ask.i (fun _ => ?_) (fun c => by have c : (u.zero == v.zero) = false := c; rw [sm.zero] at c; simp at c)
                conv => whnf
                refine Ask.i (fun _ => ?_) (fun c => by have c : (u.offP == v.offP) = false := c; rw [sm.offP] at c; simp at c)
                conv => whnf
                refine ⟨⟨by show u.cP.length ≤ 68719476736; omega, by show v.cP.length ≤ 68719476736; rw [← sm.cP]; omega⟩, ?_⟩
                conv => whnf
                refine Ask.i (fun _ => ?_) (fun c => absurd sm.cP (of_decide_eq_false c))
                conv => whnf
                refine ⟨⟨by show u.cN.length ≤ 68719476736; omega, by show v.cN.length ≤ 68719476736; rw [← sm.cN]; omega⟩, ?_⟩
                conv => whnf
                exact fin hk (congrArg (fun z : Bool => SV.u (.c (Bo z))) (decide_eq_true sm.cN).symm)
            | false =>
              rw [q4] at h4
              obtain rfl : o4 = some (histE a noH z4) := h4
              conv => whnf
              refine ⟨mixed, [], [], [], by kernel_rfl, ?_⟩
              conv => whnf
              refine ⟨⟨gX, gY⟩, ?_⟩
              conv => whnf
              rintro ⟨o5, r5⟩ ⟨z5, h5⟩
              have h5 : o5 = expO x y most z5 := h5
              have sw := fun z => exp_order (most := most) (z := z5) (z' := z) gX gY
              rw [← h5] at sw
              cases o5 with
              | none =>
                conv => whnf
                refine ⟨⟨gY, gX⟩, ?_⟩
                conv => whnf
                rintro ⟨o6, r6⟩ ⟨z6, h6⟩
                have h6 : o6 = expO y x most z6 := h6
                have sw := sw z6
                rw [← h6] at sw
                rcases sw with ⟨_, rfl⟩ | ⟨u, v, h, _⟩
                · conv => whnf
                  refine ⟨mixed, [], [], [], by kernel_rfl, ?_⟩
                  conv => whnf
                  exact hk
                · cases h
              | some u =>
                conv => whnf
                refine ⟨⟨gY, gX⟩, ?_⟩
                conv => whnf
                rintro ⟨o6, r6⟩ ⟨z6, h6⟩
                have h6 : o6 = expO y x most z6 := h6
                have sw := sw z6
                rw [← h6] at sw
                rcases sw with ⟨h, _⟩ | ⟨u', v, h, rfl, sm⟩
                · cases h
                obtain rfl := Option.some.inj h
                have lP := sm.lP
                have lN := sm.lN
                conv => whnf
                refine ⟨mixed, [], [], [], by kernel_rfl, ?_⟩
                conv => whnf
                refine Ask.i (fun _ => ?_) (fun c => by have c : (u.scale == v.scale) = false := c; rw [sm.scale] at c; simp at c)
                conv => whnf
                refine Ask.i (fun _ => ?_) (fun c => by have c : (u.count == v.count) = false := c; rw [sm.count] at c; simp at c)
                conv => whnf
                refine Ask.i (fun _ => ?_) (fun c => by have c : (u.zero == v.zero) = false := c; rw [sm.zero] at c; simp at c)
                conv => whnf
                refine Ask.i (fun _ => ?_) (fun c => by have c : (u.offP == v.offP) = false := c; rw [sm.offP] at c; simp at c)
                conv => whnf
                refine ⟨⟨by show u.cP.length ≤ 68719476736; omega, by show v.cP.length ≤ 68719476736; rw [← sm.cP]; omega⟩, ?_⟩
                conv => whnf
                refine Ask.i (fun _ => ?_) (fun c => absurd sm.cP (of_decide_eq_false c))
                conv => whnf
                refine ⟨⟨by show u.cN.length ≤ 68719476736; omega, by show v.cN.length ≤ 68719476736; rw [← sm.cN]; omega⟩, ?_⟩
                conv => whnf
                exact fin hk (congrArg (fun z : Bool => SV.u (.c (Bo z))) (decide_eq_true sm.cN).symm)
          | false =>
            rw [q3] at h3
            obtain rfl : o3 = some (histE b c z3) := h3
            conv => whnf
            refine ⟨⟨gC.add, sA.lC, sA.lB⟩, ?_⟩
            conv => whnf
            rintro ⟨o4, r4⟩ ⟨z4, h4⟩
            have h4 : o4 = bif histO a (histE b c z3) then none else some (histE a (histE b c z3) z4) := h4
            cases q4 : histO a (histE b c z3) with
            | true =>
              rw [q4] at h4
              obtain rfl : o4 = none := h4
              conv => whnf
              refine ⟨mixed, [], [], [], by kernel_rfl, ?_⟩
              conv => whnf
              refine ⟨⟨gX, gY⟩, ?_⟩
              conv => whnf
              rintro ⟨o5, r5⟩ ⟨z5, h5⟩
              have h5 : o5 = expO x y most z5 := h5
              have sw := fun z => exp_order (most := most) (z := z5) (z' := z) gX gY
              rw [← h5] at sw
              cases o5 with
              | none =>
                conv => whnf
                refine ⟨⟨gY, gX⟩, ?_⟩
                conv => whnf
                rintro ⟨o6, r6⟩ ⟨z6, h6⟩
                have h6 : o6 = expO y x most z6 := h6
                have sw := sw z6
                rw [← h6] at sw
                rcases sw with ⟨_, rfl⟩ | ⟨u, v, h, _⟩
                · conv => whnf
                  refine ⟨mixed, [], [], [], by kernel_rfl, ?_⟩
                  conv => whnf
                  exact hk
                · cases h
              | some u =>
                conv => whnf
                refine ⟨⟨gY, gX⟩, ?_⟩
                conv => whnf
                rintro ⟨o6, r6⟩ ⟨z6, h6⟩
                have h6 : o6 = expO y x most z6 := h6
                have sw := sw z6
                rw [← h6] at sw
                rcases sw with ⟨h, _⟩ | ⟨u', v, h, rfl, sm⟩
                · cases h
                obtain rfl := Option.some.inj h
                have lP := sm.lP
                have lN := sm.lN
                conv => whnf
                refine ⟨mixed, [], [], [], by kernel_rfl, ?_⟩
                conv => whnf
                refine Ask.i (fun _ => ?_) (fun c => by have c : (u.scale == v.scale) = false := c; rw [sm.scale] at c; simp at c)
                conv => whnf
                refine Ask.i (fun _ => ?_) (fun c => by have c : (u.count == v.count) = false := c; rw [sm.count] at c; simp at c)
                conv => whnf
                refine Ask.i (fun _ => ?_) (fun c => by have c : (u.zero == v.zero) = false := c; rw [sm.zero] at c; simp at c)
                conv => whnf
                refine Ask.i (fun _ => ?_) (fun c => by have c : (u.offP == v.offP) = false := c; rw [sm.offP] at c; simp at c)
                conv => whnf
                refine ⟨⟨by show u.cP.length ≤ 68719476736; omega, by show v.cP.length ≤ 68719476736; rw [← sm.cP]; omega⟩, ?_⟩
                conv => whnf
                refine Ask.i (fun _ => ?_) (fun c => absurd sm.cP (of_decide_eq_false c))
                conv => whnf
                refine ⟨⟨by show u.cN.length ≤ 68719476736; omega, by show v.cN.length ≤ 68719476736; rw [← sm.cN]; omega⟩, ?_⟩
                conv => whnf
                exact fin hk (congrArg (fun z : Bool => SV.u (.c (Bo z))) (decide_eq_true sm.cN).symm)
            | false =>
              rw [q4] at h4
              obtain rfl : o4 = some (histE a (histE b c z3) z4) := h4
              conv => whnf
              refine ⟨mixed, [], [], [], by kernel_rfl, ?_⟩
              conv => whnf
              refine ⟨⟨gX, gY⟩, ?_⟩
              conv => whnf
              rintro ⟨o5, r5⟩ ⟨z5, h5⟩
              have h5 : o5 = expO x y most z5 := h5
              have sw := fun z => exp_order (most := most) (z := z5) (z' := z) gX gY
              rw [← h5] at sw
              cases o5 with
              | none =>
                conv => whnf
                refine ⟨⟨gY, gX⟩, ?_⟩
                conv => whnf
                rintro ⟨o6, r6⟩ ⟨z6, h6⟩
                have h6 : o6 = expO y x most z6 := h6
                have sw := sw z6
                rw [← h6] at sw
                rcases sw with ⟨_, rfl⟩ | ⟨u, v, h, _⟩
                · conv => whnf
                  refine ⟨mixed, [], [], [], by kernel_rfl, ?_⟩
                  conv => whnf
                  exact hk
                · cases h
              | some u =>
                conv => whnf
                refine ⟨⟨gY, gX⟩, ?_⟩
                conv => whnf
                rintro ⟨o6, r6⟩ ⟨z6, h6⟩
                have h6 : o6 = expO y x most z6 := h6
                have sw := sw z6
                rw [← h6] at sw
                rcases sw with ⟨h, _⟩ | ⟨u', v, h, rfl, sm⟩
                · cases h
                obtain rfl := Option.some.inj h
                have lP := sm.lP
                have lN := sm.lN
                conv => whnf
                refine ⟨mixed, [], [], [], by kernel_rfl, ?_⟩
                conv => whnf
                refine Ask.i (fun _ => ?_) (fun c => by have c : (u.scale == v.scale) = false := c; rw [sm.scale] at c; simp at c)
                conv => whnf
                refine Ask.i (fun _ => ?_) (fun c => by have c : (u.count == v.count) = false := c; rw [sm.count] at c; simp at c)
                conv => whnf
                refine Ask.i (fun _ => ?_) (fun c => by have c : (u.zero == v.zero) = false := c; rw [sm.zero] at c; simp at c)
                conv => whnf
                refine Ask.i (fun _ => ?_) (fun c => by have c : (u.offP == v.offP) = false := c; rw [sm.offP] at c; simp at c)
                conv => whnf
                refine ⟨⟨by show u.cP.length ≤ 68719476736; omega, by show v.cP.length ≤ 68719476736; rw [← sm.cP]; omega⟩, ?_⟩
                conv => whnf
                refine Ask.i (fun _ => ?_) (fun c => absurd sm.cP (of_decide_eq_false c))
                conv => whnf
                refine ⟨⟨by show u.cN.length ≤ 68719476736; omega, by show v.cN.length ≤ 68719476736; rw [← sm.cN]; omega⟩, ?_⟩
                conv => whnf
                exact fin hk (congrArg (fun z : Bool => SV.u (.c (Bo z))) (decide_eq_true sm.cN).symm)
      | false =>
        rw [q1] at h1
        obtain rfl : o1 = some (histE a b z1) := h1
        have gP : HGood (k + 1) (histE a b z1) := gB.add
        conv => whnf
        refine ⟨⟨gC, gP.2.2.2.2.1, gP.2.2.2.2.2⟩, ?_⟩
        conv => whnf
        rintro ⟨o2, r2⟩ ⟨z2, h2⟩
        have h2 : o2 = bif histO (histE a b z1) c then none else some (histE (histE a b z1) c z2) := h2
        cases q2 : histO (histE a b z1) c with
        | true =>
          rw [q2] at h2
          obtain rfl : o2 = none := h2
          conv => whnf
          refine ⟨⟨gC, sB.lC, sB.lB⟩, ?_⟩
          conv => whnf
          rintro ⟨o3, r3⟩ ⟨z3, h3⟩
          have h3 : o3 = bif histO b c then none else some (histE b c z3) := h3
          cases q3 : histO b c with
          | true =>
            rw [q3] at h3
            obtain rfl : o3 = none := h3
            conv => whnf
            refine ⟨⟨HGood.no, sA.lC, sA.lB⟩, ?_⟩
            conv => whnf
            rintro ⟨o4, r4⟩ ⟨z4, h4⟩
            have h4 : o4 = bif histO a noH then none else some (histE a noH z4) := h4
            cases q4 : histO a noH with
            | true =>
              rw [q4] at h4
              obtain rfl : o4 = none := h4
              conv => whnf
              refine ⟨mixed, [], [], [], by kernel_rfl, ?_⟩
              conv => whnf
              refine ⟨⟨gX, gY⟩, ?_⟩
              conv => whnf
              rintro ⟨o5, r5⟩ ⟨z5, h5⟩
              have h5 : o5 = expO x y most z5 := h5
              have sw := fun z => exp_order (most := most) (z := z5) (z' := z) gX gY
              rw [← h5] at sw
              cases o5 with
              | none =>
                conv => whnf
                refine ⟨⟨gY, gX⟩, ?_⟩
                conv => whnf
                rintro ⟨o6, r6⟩ ⟨z6, h6⟩
                have h6 : o6 = expO y x most z6 := h6
                have sw := sw z6
                rw [← h6] at sw
                rcases sw with ⟨_, rfl⟩ | ⟨u, v, h, _⟩
                · conv => whnf
                  refine ⟨mixed, [], [], [], by kernel_rfl, ?_⟩
                  conv => whnf
                  exact hk
                · cases h
              | some u =>
                conv => whnf
                refine ⟨⟨gY, gX⟩, ?_⟩
                conv => whnf
                rintro ⟨o6, r6⟩ ⟨z6, h6⟩
                have h6 : o6 = expO y x most z6 := h6
                have sw := sw z6
                rw [← h6] at sw
                rcases sw with ⟨h, _⟩ | ⟨u', v, h, rfl, sm⟩
                · cases h
                obtain rfl := Option.some.inj h
                have lP := sm.lP
                have lN := sm.lN
                conv => whnf
                refine ⟨mixed, [], [], [], by kernel_rfl, ?_⟩
                conv => whnf
                refine Ask.i (fun _ => ?_) (fun c => by have c : (u.scale == v.scale) = false := c; rw [sm.scale] at c; simp at c)
                conv => whnf
                refine Ask.i (fun _ => ?_) (fun c => by have c : (u.count == v.count) = false := c; rw [sm.count] at c; simp at c)
                conv => whnf
                refine Ask.i (fun _ => ?_) (fun c => by have c : (u.zero == v.zero) = false := c; rw [sm.zero] at c; simp at c)
                conv => whnf
                refine Ask.i (fun _ => ?_) (fun c => by have c : (u.offP == v.offP) = false := c; rw [sm.offP] at c; simp at c)
                conv => whnf
                refine ⟨⟨by show u.cP.length ≤ 68719476736; omega, by show v.cP.length ≤ 68719476736; rw [← sm.cP]; omega⟩, ?_⟩
                conv => whnf
                refine Ask.i (fun _ => ?_) (fun c => absurd sm.cP (of_decide_eq_false c))
                conv => whnf
                refine ⟨⟨by show u.cN.length ≤ 68719476736; omega, by show v.cN.length ≤ 68719476736; rw [← sm.cN]; omega⟩, ?_⟩
                conv => whnf
                exact fin hk (congrArg (fun z : Bool => SV.u (.c (Bo z))) (decide_eq_true sm.cN).symm)
            | false =>
              rw [q4] at h4
              obtain rfl : o4 = some (histE a noH z4) := h4
              conv => whnf
              refine ⟨mixed, [], [], [], by kernel_rfl, ?_⟩
              conv => whnf
              refine ⟨⟨gX, gY⟩, ?_⟩
              conv => whnf
              rintro ⟨o5, r5⟩ ⟨z5, h5⟩
              have h5 : o5 = expO x y most z5 := h5
              have sw := fun z => exp_order (most := most) (z := z5) (z' := z) gX gY
              rw [← h5] at sw
              cases o5 with
              | none =>
                conv => whnf
                refine ⟨⟨gY, gX⟩, ?_⟩
                conv => whnf
                rintro ⟨o6, r6⟩ ⟨z6, h6⟩
                have h6 : o6 = expO y x most z6 := h6
                have sw := sw z6
                rw [← h6] at sw
                rcases sw with ⟨_, rfl⟩ | ⟨u, v, h, _⟩
                · conv => whnf
                  refine ⟨mixed, [], [], [], by kernel_rfl, ?_⟩
                  conv => whnf
                  exact hk
                · cases h
              | some u =>
                conv => whnf
                refine ⟨⟨gY, gX⟩, ?_⟩
                conv => whnf
                rintro ⟨o6, r6⟩ ⟨z6, h6⟩
                have h6 : o6 = expO y x most z6 := h6
                have sw := sw z6
                rw [← h6] at sw
                rcases sw with ⟨h, _⟩ | ⟨u', v, h, rfl, sm⟩
                · cases h
                obtain rfl := Option.some.inj h
                have lP := sm.lP
                have lN := sm.lN
                conv => whnf
                refine ⟨mixed, [], [], [], by kernel_rfl, ?_⟩
                conv => whnf
                refine Ask.i (fun _ => ?_) (fun c => by have c : (u.scale == v.scale) = false := c; rw [sm.scale] at c; simp at c)
                conv => whnf
                refine Ask.i (fun _ => ?_) (fun c => by have c : (u.count == v.count) = false := c; rw [sm.count] at c; simp at c)
                conv => whnf
                refine Ask.i (fun _ => ?_) (fun c => by have c : (u.zero == v.zero) = false := c; rw [sm.zero] at c; simp at c)
                conv => whnf
                refine Ask.i (fun _ => ?_) (fun c => by have c : (u.offP == v.offP) = false := c; rw [sm.offP] at c; simp at c)
                conv => whnf
                refine ⟨⟨by show u.cP.length ≤ 68719476736; omega, by show v.cP.length ≤ 68719476736; rw [← sm.cP]; omega⟩, ?_⟩
                conv => whnf
                refine Ask.i (fun _ => ?_) (fun c => absurd sm.cP (of_decide_eq_false c))
                conv => whnf
                refine ⟨⟨by show u.cN.length ≤ 68719476736; omega, by show v.cN.length ≤ 68719476736; rw [← sm.cN]; omega⟩, ?_⟩
                conv => whnf
                exact fin hk (congrArg (fun z : Bool => SV.u (.c (Bo z))) (decide_eq_true sm.cN).symm)
          | false =>
            rw [q3] at h3
            obtain rfl : o3 = some (histE b c z3) := h3
            conv => whnf
            refine ⟨⟨gC.add, sA.lC, sA.lB⟩, ?_⟩
            conv => whnf
            rintro ⟨o4, r4⟩ ⟨z4, h4⟩
            have h4 : o4 = bif histO a (histE b c z3) then none else some (histE a (histE b c z3) z4) := h4
            have asc := hist_assoc (z := z1) (z' := z3) rA rB rC q1 q3
            rw [q2] at asc
            rw [← asc.1] at h4
            obtain rfl : o4 = none := h4
            conv => whnf
            refine ⟨mixed, [], [], [], by kernel_rfl, ?_⟩
            conv => whnf
            refine ⟨⟨gX, gY⟩, ?_⟩
            conv => whnf
            rintro ⟨o5, r5⟩ ⟨z5, h5⟩
            have h5 : o5 = expO x y most z5 := h5
            have sw := fun z => exp_order (most := most) (z := z5) (z' := z) gX gY
            rw [← h5] at sw
            cases o5 with
            | none =>
              conv => whnf
              refine ⟨⟨gY, gX⟩, ?_⟩
              conv => whnf
              rintro ⟨o6, r6⟩ ⟨z6, h6⟩
              have h6 : o6 = expO y x most z6 := h6
              have sw := sw z6
              rw [← h6] at sw
              rcases sw with ⟨_, rfl⟩ | ⟨u, v, h, _⟩
              · conv => whnf
                refine ⟨mixed, [], [], [], by kernel_rfl, ?_⟩
                conv => whnf
                exact hk
              · cases h
            | some u =>
              conv => whnf
              refine ⟨⟨gY, gX⟩, ?_⟩
              conv => whnf
              rintro ⟨o6, r6⟩ ⟨z6, h6⟩
              have h6 : o6 = expO y x most z6 := h6
              have sw := sw z6
              rw [← h6] at sw
              rcases sw with ⟨h, _⟩ | ⟨u', v, h, rfl, sm⟩
              · cases h
              obtain rfl := Option.some.inj h
              have lP := sm.lP
              have lN := sm.lN
              conv => whnf
              refine ⟨mixed, [], [], [], by kernel_rfl, ?_⟩
              conv => whnf
              refine Ask.i (fun _ => ?_) (fun c => by have c : (u.scale == v.scale) = false := c; rw [sm.scale] at c; simp at c)
              conv => whnf
              refine Ask.i (fun _ => ?_) (fun c => by have c : (u.count == v.count) = false := c; rw [sm.count] at c; simp at c)
              conv => whnf
              refine Ask.i (fun _ => ?_) (fun c => by have c : (u.zero == v.zero) = false := c; rw [sm.zero] at c; simp at c)
              conv => whnf
              refine Ask.i (fun _ => ?_) (fun c => by have c : (u.offP == v.offP) = false := c; rw [sm.offP] at c; simp at c)
              conv => whnf
              refine ⟨⟨by show u.cP.length ≤ 68719476736; omega, by show v.cP.length ≤ 68719476736; rw [← sm.cP]; omega⟩, ?_⟩
              conv => whnf
              refine Ask.i (fun _ => ?_) (fun c => absurd sm.cP (of_decide_eq_false c))
              conv => whnf
              refine ⟨⟨by show u.cN.length ≤ 68719476736; omega, by show v.cN.length ≤ 68719476736; rw [← sm.cN]; omega⟩, ?_⟩
              conv => whnf
              exact fin hk (congrArg (fun z : Bool => SV.u (.c (Bo z))) (decide_eq_true sm.cN).symm)
        | false =>
          rw [q2] at h2
          obtain rfl : o2 = some (histE (histE a b z1) c z2) := h2
          conv => whnf
          refine ⟨⟨gC, sB.lC, sB.lB⟩, ?_⟩
          conv => whnf
          rintro ⟨o3, r3⟩ ⟨z3, h3⟩
          have h3 : o3 = bif histO b c then none else some (histE b c z3) := h3
          cases q3 : histO b c with
          | true =>
            rw [q3] at h3
            obtain rfl : o3 = none := h3
            conv => whnf
            refine ⟨⟨HGood.no, sA.lC, sA.lB⟩, ?_⟩
            conv => whnf
            rintro ⟨o4, r4⟩ ⟨z4, h4⟩
            have h4 : o4 = bif histO a noH then none else some (histE a noH z4) := h4
            cases q4 : histO a noH with
            | true =>
              rw [q4] at h4
              obtain rfl : o4 = none := h4
              conv => whnf
              refine ⟨mixed, [], [], [], by kernel_rfl, ?_⟩
              conv => whnf
              refine ⟨⟨gX, gY⟩, ?_⟩
              conv => whnf
              rintro ⟨o5, r5⟩ ⟨z5, h5⟩
              have h5 : o5 = expO x y most z5 := h5
              have sw := fun z => exp_order (most := most) (z := z5) (z' := z) gX gY
              rw [← h5] at sw
              cases o5 with
              | none =>
                conv => whnf
                refine ⟨⟨gY, gX⟩, ?_⟩
                conv => whnf
                rintro ⟨o6, r6⟩ ⟨z6, h6⟩
                have h6 : o6 = expO y x most z6 := h6
                have sw := sw z6
                rw [← h6] at sw
                rcases sw with ⟨_, rfl⟩ | ⟨u, v, h, _⟩
                · conv => whnf
                  refine ⟨mixed, [], [], [], by kernel_rfl, ?_⟩
                  conv => whnf
                  exact hk
                · cases h
              | some u =>
                conv => whnf
                refine ⟨⟨gY, gX⟩, ?_⟩
                conv => whnf
                rintro ⟨o6, r6⟩ ⟨z6, h6⟩
                have h6 : o6 = expO y x most z6 := h6
                have sw := sw z6
                rw [← h6] at sw
                rcases sw with ⟨h, _⟩ | ⟨u', v, h, rfl, sm⟩
                · cases h
                obtain rfl := Option.some.inj h
                have lP := sm.lP
                have lN := sm.lN
                conv => whnf
                refine ⟨mixed, [], [], [], by kernel_rfl, ?_⟩
                conv => whnf
                refine Ask.i (fun _ => ?_) (fun c => by have c : (u.scale == v.scale) = false := c; rw [sm.scale] at c; simp at c)
                conv => whnf
                refine Ask.i (fun _ => ?_) (fun c => by have c : (u.count == v.count) = false := c; rw [sm.count] at c; simp at c)
                conv => whnf
                refine Ask.i (fun _ => ?_) (fun c => by have c : (u.zero == v.zero) = false := c; rw [sm.zero] at c; simp at c)
                conv => whnf
                refine Ask.i (fun _ => ?_) (fun c => by have c : (u.offP == v.offP) = false := c; rw [sm.offP] at c; simp at c)
                conv => whnf
                refine ⟨⟨by show u.cP.length ≤ 68719476736; omega, by show v.cP.length ≤ 68719476736; rw [← sm.cP]; omega⟩, ?_⟩
                conv => whnf
                refine Ask.i (fun _ => ?_) (fun c => absurd sm.cP (of_decide_eq_false c))
                conv => whnf
                refine ⟨⟨by show u.cN.length ≤ 68719476736; omega, by show v.cN.length ≤ 68719476736; rw [← sm.cN]; omega⟩, ?_⟩
                conv => whnf
                exact fin hk (congrArg (fun z : Bool => SV.u (.c (Bo z))) (decide_eq_true sm.cN).symm)
            | false =>
              rw [q4] at h4
              obtain rfl : o4 = some (histE a noH z4) := h4
              conv => whnf
              refine ⟨mixed, [], [], [], by kernel_rfl, ?_⟩
              conv => whnf
              refine ⟨⟨gX, gY⟩, ?_⟩
              conv => whnf
              rintro ⟨o5, r5⟩ ⟨z5, h5⟩
              have h5 : o5 = expO x y most z5 := h5
              have sw := fun z => exp_order (most := most) (z := z5) (z' := z) gX gY
              rw [← h5] at sw
              cases o5 with
              | none =>
                conv => whnf
                refine ⟨⟨gY, gX⟩, ?_⟩
                conv => whnf
                rintro ⟨o6, r6⟩ ⟨z6, h6⟩
                have h6 : o6 = expO y x most z6 := h6
                have sw := sw z6
                rw [← h6] at sw
                rcases sw with ⟨_, rfl⟩ | ⟨u, v, h, _⟩
                · conv => whnf
                  refine ⟨mixed, [], [], [], by kernel_rfl, ?_⟩
                  conv => whnf
                  exact hk
                · cases h
              | some u =>
                conv => whnf
                refine ⟨⟨gY, gX⟩, ?_⟩
                conv => whnf
                rintro ⟨o6, r6⟩ ⟨z6, h6⟩
                have h6 : o6 = expO y x most z6 := h6
                have sw := sw z6
                rw [← h6] at sw
                rcases sw with ⟨h, _⟩ | ⟨u', v, h, rfl, sm⟩
                · cases h
                obtain rfl := Option.some.inj h
                have lP := sm.lP
                have lN := sm.lN
                conv => whnf
                refine ⟨mixed, [], [], [], by kernel_rfl, ?_⟩
                conv => whnf
                refine Ask.i (fun _ => ?_) (fun c => by have c : (u.scale == v.scale) = false := c; rw [sm.scale] at c; simp at c)
                conv => whnf
                refine Ask.i (fun _ => ?_) (fun c => by have c : (u.count == v.count) = false := c; rw [sm.count] at c; simp at c)
                conv => whnf
                refine Ask.i (fun _ => ?_) (fun c => by have c : (u.zero == v.zero) = false := c; rw [sm.zero] at c; simp at c)
                conv => whnf
                refine Ask.i (fun _ => ?_) (fun c => by have c : (u.offP == v.offP) = false := c; rw [sm.offP] at c; simp at c)
                conv => whnf
                refine ⟨⟨by show u.cP.length ≤ 68719476736; omega, by show v.cP.length ≤ 68719476736; rw [← sm.cP]; omega⟩, ?_⟩
                conv => whnf
                refine Ask.i (fun _ => ?_) (fun c => absurd sm.cP (of_decide_eq_false c))
                conv => whnf
                refine ⟨⟨by show u.cN.length ≤ 68719476736; omega, by show v.cN.length ≤ 68719476736; rw [← sm.cN]; omega⟩, ?_⟩
                conv => whnf
                exact fin hk (congrArg (fun z : Bool => SV.u (.c (Bo z))) (decide_eq_true sm.cN).symm)
          | false =>
            rw [q3] at h3
            obtain rfl : o3 = some (histE b c z3) := h3
            conv => whnf
            refine ⟨⟨gC.add, sA.lC, sA.lB⟩, ?_⟩
            conv => whnf
            rintro ⟨o4, r4⟩ ⟨z4, h4⟩
            have h4 : o4 = bif histO a (histE b c z3) then none else some (histE a (histE b c z3) z4) := h4
            have asc := hist_assoc (z := z1) (z' := z3) rA rB rC q1 q3
            rw [q2] at asc
            rw [← asc.1] at h4
            obtain rfl : o4 = some (histE a (histE b c z3) z4) := h4
            have asc := asc.2 rfl
            have hp : (hZip (histE a b z1).cs c.cs).length ≤ 1500 ∧ (hZip a.cs (histE b c z3).cs).length ≤ 1500 := ⟨(gC.add (a := histE a b z1) (z := 0)).2.2.2.2.1, ((gC.add (a := b) (z := z3)).add (a := a) (z := 0)).2.2.2.2.1⟩
            conv => whnf
            refine ⟨mixed, [], [], [], by kernel_rfl, ?_⟩
            conv => whnf
            refine ⟨⟨by show (hZip (histE a b z1).cs c.cs).length ≤ 68719476736; have := hp.1; omega, by show (hZip a.cs (histE b c z3).cs).length ≤ 68719476736; have := hp.2; omega⟩, ?_⟩
            conv => whnf
            refine Ask.i (fun c0 => by have c0 : (!(decide (hZip (histE a b z1).cs c.cs = hZip a.cs (histE b c z3).cs))) = true := c0; rw [decide_eq_true asc.1] at c0; cases c0) (fun _ => ?_)
            conv => whnf
            refine Ask.i (fun c0 => by have c0 : (x64 ((histE a b z1).count + c.count) != x64 (a.count + (histE b c z3).count)) = true := c0; rw [asc.2] at c0; simp [bne] at c0) (fun _ => ?_)
            conv => whnf
            refine Ask.i (fun c0 => nt a.start c0) (fun _ => ?_)
            conv => whnf
            refine Ask.i (fun c0 => nt c.time c0) (fun _ => ?_)
            conv => whnf
            refine ⟨⟨gX, gY⟩, ?_⟩
            conv => whnf
            rintro ⟨o5, r5⟩ ⟨z5, h5⟩
            have h5 : o5 = expO x y most z5 := h5
            have sw := fun z => exp_order (most := most) (z := z5) (z' := z) gX gY
            rw [← h5] at sw
            cases o5 with
            | none =>
              conv => whnf
              refine ⟨⟨gY, gX⟩, ?_⟩
              conv => whnf
              rintro ⟨o6, r6⟩ ⟨z6, h6⟩
              have h6 : o6 = expO y x most z6 := h6
              have sw := sw z6
              rw [← h6] at sw
              rcases sw with ⟨_, rfl⟩ | ⟨u, v, h, _⟩
              · conv => whnf
                refine ⟨mixed, [], [], [], by kernel_rfl, ?_⟩
                conv => whnf
                exact hk
              · cases h
            | some u =>
              conv => whnf
              refine ⟨⟨gY, gX⟩, ?_⟩
              conv => whnf
              rintro ⟨o6, r6⟩ ⟨z6, h6⟩
              have h6 : o6 = expO y x most z6 := h6
              have sw := sw z6
              rw [← h6] at sw
              rcases sw with ⟨h, _⟩ | ⟨u', v, h, rfl, sm⟩
              · cases h
              obtain rfl := Option.some.inj h
              have lP := sm.lP
              have lN := sm.lN
              conv => whnf
              refine ⟨mixed, [], [], [], by kernel_rfl, ?_⟩
              conv => whnf
              refine Ask.i (fun _ => ?_) (fun c => by have c : (u.scale == v.scale) = false := c; rw [sm.scale] at c; simp at c)
              conv => whnf
              refine Ask.i (fun _ => ?_) (fun c => by have c : (u.count == v.count) = false := c; rw [sm.count] at c; simp at c)
              conv => whnf
              refine Ask.i (fun _ => ?_) (fun c => by have c : (u.zero == v.zero) = false := c; rw [sm.zero] at c; simp at c)
              conv => whnf
              refine Ask.i (fun _ => ?_) (fun c => by have c : (u.offP == v.offP) = false := c; rw [sm.offP] at c; simp at c)
              conv => whnf
              refine ⟨⟨by show u.cP.length ≤ 68719476736; omega, by show v.cP.length ≤ 68719476736; rw [← sm.cP]; omega⟩, ?_⟩
              conv => whnf
              refine Ask.i (fun _ => ?_) (fun c => absurd sm.cP (of_decide_eq_false c))
              conv => whnf
              refine ⟨⟨by show u.cN.length ≤ 68719476736; omega, by show v.cN.length ≤ 68719476736; rw [← sm.cN]; omega⟩, ?_⟩
              conv => whnf
              exact fin hk (congrArg (fun z : Bool => SV.u (.c (Bo z))) (decide_eq_true sm.cN).symm)
    · exact hk.elim
  · exact hk.elim
end Sx
/-! Contracts: a side less another. -/
namespace Sx
open Go Go.Proofs
set_option linter.unusedVariables false
set_option maxRecDepth 30000
variable {G : Glob}
def takeGo (d : Int) : Nat → List Int → List Int → Bool → List Int × Bool
  | _, [], c, bad => (c, bad)
  | i, n :: r, c, bad => if 0 ≤ d + (i : Int) ∧ d + (i : Int) < (c.length : Int) then takeGo d (i + 1) r (c.set (d + (i : Int)).toNat (x64 (c.getD (d + (i : Int)).toNat 0 - n))) (bad || decide (c.getD (d + (i : Int)).toNat 0 < n)) else takeGo d (i + 1) r c (bad || decide (n > 0))
theorem takeGo_len (d : Int) : ∀ (l : List Int) (i : Nat) (c : List Int) (bad : Bool), (takeGo d i l c bad).1.length = c.length
  | [], _, _, _ => rfl
  | x :: l, i, c, bad => by
    rw [takeGo]
    split
    · rw [takeGo_len d l]; simp
    · rw [takeGo_len d l]
def takeL (s t : Int × List Int) (bad : Bool) : List Int × Bool := takeGo ((trim t.1 t.2).1 - s.1) 0 (trim t.1 t.2).2 s.2 bad
def takeS2 : List U → List Blk → Out RF
  | [.c (.p 50000 0), .a [.v (.int .i64 f), .d 22 (.ints l)], .a [.v (.int .i64 g), .d 22 (.ints m)]], [.cells 80 [.v (.bool bad)]] =>
    .need (-4294967296 ≤ f ∧ f ≤ 4294967296 ∧ l.length ≤ 1500 ∧ -4294967296 ≤ g ∧ g ≤ 4294967296 ∧ m.length ≤ 1500)
      (.ret (.u (.a [I64 f, .d 22 (.ints (takeL (f, l) (g, m) bad).1)]), [some (.cells 80 [Bo (takeL (f, l) (g, m) bad).2])], []))
  | _, _ => .fail
theorem takeSide_ok : OkF G 73 takeS2 := by
  have hS : AllSound (B [(74, .pure (normG (B []) [82] trimS)), (72, .full (normF (B []) [122, 41, 41] lessS))]) G := .cons _ trim_ok (.consF _ less_ok noneS)
  refine okF false hS Tryd.func73 rfl (by decide) fun K us lent hk => ?_
  unfold takeS2 at hk
  split at hk
  · rename_i f l g m bad
    refine ⟨by show 3 ≤ _; decide, ?_⟩
    obtain ⟨⟨f1, f2, f3, g1, g2, g3⟩, hk⟩ := hk
    have hts := trim_near (f := g) (l := m) ⟨g1, g2⟩ g3
    have htl := Nat.le_trans (trim_len g m) g3
    have hsp := trim_spec m g (by omega) (by omega)
    have hg : -4294967296 ≤ (trim g m).1 ∧ (trim g m).1 ≤ 4294968796 := by
      rcases hsp with ⟨h, _⟩ | ⟨k, j, c, h, _, _, _, hll⟩
      · rw [h]; decide
      · have := congrArg List.length hll
        simp only [List.length_append, List.length_replicate] at this
        rw [h]; simp only; omega
    conv => whnf
    refine ⟨by show m.length ≤ 68719476736; omega, ?_⟩
    simp only [takeL] at hk
    generalize trim g m = t at *
    obtain ⟨h, q⟩ := t
    simp only at hg htl hk
    conv => whnf
    refine ⟨mixed, [(7, [7])], [(1, []), (3, []), (4, [])], [], by kernel_rfl, ?_⟩
    conv => whnf
    first | refine ⟨by show l.length ≤ 274877906944; omega, ?_⟩ | skip
    first | (conv => whnf) | skip
    refine ⟨[], _, _, rfl, Nat × List Int × Bool, (fun y => ([(0, .u (.c (.p 50000 0))), (4, .u (.c (.p 4 0))), (5, .u (.c (.p 5 0))), (6, .u (.c (.p 6 0))), (7, .u (.c (.p 7 0))), (20, .u (.c (.d 22 (.ints q)))), (21, .u (.c (I64 (q.length : Nat)))), (22, .u (.c (I64 (y.1 : Nat))))],
        [(50000, .cells 80 [Bo y.2.2]), (4, .cells 82 [I64 f, .d 22 (.ints l)]), (5, .cells 82 [I64 h, .d 22 (.ints q)]), (6, .cells 82 [I64 0, .v (.slice none 0 0)]), (7, .cells 82 [I64 f, .r 17 22]), (17, .row 22 (.ints y.2.1))])),
      (fun y => y.1 ≤ q.length ∧ y.2.1.length = l.length ∧ takeGo (h - f) y.1 (q.drop y.1) y.2.1 y.2.2 = takeGo (h - f) 0 q l bad), (fun y => q.length - y.1), fun x _ => rfl,
      ⟨(0, _, bad), ⟨Nat.zero_le _, ?_, ?_⟩, ⟨rfl, rfl, rfl, rfl, rfl, rfl, rfl, rfl, trivial⟩, ⟨rfl, rfl, rfl, rfl, rfl, rfl, trivial⟩⟩, ?_⟩
    · rfl
    · rfl
    rintro ⟨i, c, bd⟩ ⟨p1, p2, p3⟩
    simp only at p1 p2 p3
    conv => whnf
    refine Ask.i (fun c1 => ?_) (fun c1 => ?_)
    · have c1 : (i : Int) < ((q.length : Nat) : Int) := of_decide_eq_true c1
      have hi : i < q.length := by omega
      have hw : w64 (w64 (h + (i : Int)) - f) = h - f + i := by rw [w64_eq (n := h + (i : Int)) (by omega), w64_eq (by omega)]; omega
      have he : q.drop i = q.getD i 0 :: q.drop (i + 1) := by
        rw [List.drop_eq_getElem_cons hi, List.getD_eq_getElem?_getD, List.getElem?_eq_getElem hi]; rfl
      have hnx : some (SV.u (.c (I64 (w64 ((i : Int) + 1))))) = some (SV.u (.c (I64 ((i + 1 : Nat) : Int)))) := congrArg (fun z : Int => some (SV.u (.c (I64 z)))) (w64_eq (n := (i : Int) + 1) (by omega))
      rw [he, takeGo] at p3
      conv => whnf
      refine ⟨⟨by omega, c1⟩, ?_⟩
      conv => whnf
      refine Ask.i (fun c2 => ?_) (fun c2 => ?_)
      · have c2 : w64 (w64 (h + (i : Int)) - f) ≥ 0 := of_decide_eq_true c2
        conv => whnf
        refine Ask.i (fun c3 => ?_) (fun c3 => ?_)
        · have c3 : w64 (w64 (h + (i : Int)) - f) < ((c.length : Nat) : Int) := of_decide_eq_true c3
          rw [if_pos (by rw [← hw]; exact ⟨c2, c3⟩), ← hw] at p3
          conv => whnf
          refine ⟨mixed, [(10, [50000]), (12, [17])], [(1, [50000]), (5, []), (7, []), (8, []), (11, [50000])], [], by kernel_rfl, ?_⟩
          conv => whnf
          refine ⟨⟨c2, c3⟩, ?_⟩
          conv => whnf
          refine ⟨⟨c2, c3⟩, ?_⟩
          conv => whnf
          refine ⟨(i + 1, _, _), ⟨hi, ?_, p3⟩, ?_, ⟨rfl, rfl, rfl, rfl, rfl, rfl, rfl, hnx, trivial⟩, ⟨rfl, rfl, rfl, rfl, rfl, rfl, trivial⟩⟩
          · simp only [List.length_set]; exact p2
          · show q.length - (i + 1) < q.length - i; omega
        · have c3 : ¬ w64 (w64 (h + (i : Int)) - f) < ((c.length : Nat) : Int) := of_decide_eq_false c3
          rw [if_neg (by rw [← hw]; exact fun h => c3 h.2)] at p3
          conv => whnf
          refine Ask.i (fun c4 => ?_) (fun c4 => ?_)
          · have c4 : decide (q.getD i 0 > 0) = true := c4
            rw [c4, Bool.or_true] at p3
            conv => whnf
            exact ⟨(i + 1, c, true), ⟨hi, p2, p3⟩, by show q.length - (i + 1) < q.length - i; omega, ⟨rfl, rfl, rfl, rfl, rfl, rfl, rfl, hnx, trivial⟩, ⟨rfl, rfl, rfl, rfl, rfl, rfl, trivial⟩⟩
          · have c4 : decide (q.getD i 0 > 0) = false := c4
            rw [c4, Bool.or_false] at p3
            conv => whnf
            exact ⟨(i + 1, c, bd), ⟨hi, p2, p3⟩, by show q.length - (i + 1) < q.length - i; omega, ⟨rfl, rfl, rfl, rfl, rfl, rfl, rfl, hnx, trivial⟩, ⟨rfl, rfl, rfl, rfl, rfl, rfl, trivial⟩⟩
      · have c2 : ¬ w64 (w64 (h + (i : Int)) - f) ≥ 0 := of_decide_eq_false c2
        rw [if_neg (by rw [← hw]; exact fun h => c2 h.1)] at p3
        conv => whnf
        refine Ask.i (fun c4 => ?_) (fun c4 => ?_)
        · have c4 : decide (q.getD i 0 > 0) = true := c4
          rw [c4, Bool.or_true] at p3
          conv => whnf
          exact ⟨(i + 1, c, true), ⟨hi, p2, p3⟩, by show q.length - (i + 1) < q.length - i; omega, ⟨rfl, rfl, rfl, rfl, rfl, rfl, rfl, hnx, trivial⟩, ⟨rfl, rfl, rfl, rfl, rfl, rfl, trivial⟩⟩
        · have c4 : decide (q.getD i 0 > 0) = false := c4
          rw [c4, Bool.or_false] at p3
          conv => whnf
          exact ⟨(i + 1, c, bd), ⟨hi, p2, p3⟩, by show q.length - (i + 1) < q.length - i; omega, ⟨rfl, rfl, rfl, rfl, rfl, rfl, rfl, hnx, trivial⟩, ⟨rfl, rfl, rfl, rfl, rfl, rfl, trivial⟩⟩
    · have c1 : ¬ (i : Int) < ((q.length : Nat) : Int) := of_decide_eq_false c1
      have hi : i = q.length := by omega
      rw [hi, List.drop_length, takeGo] at p3
      simp only [← p3] at hk
      conv => whnf
      exact hk
  · exact hk.elim
end Sx
/-! Contracts: a point less another. -/
namespace Sx
open Go Go.Proofs
set_option linter.unusedVariables false
set_option maxRecDepth 30000
variable {G : Glob}
def rsP (e : ExpD) : Int × List Int := (bif e.hasP then w64 e.offP else 0, bif e.hasP then e.cP else [])
def rsN (e : ExpD) : Int × List Int := (bif e.hasN then w64 e.offN else 0, bif e.hasN then e.cN else [])
def lexCnt (a b : ExpD) : Bool := (false || decide (a.count < b.count)) || decide (a.zero < b.zero)
def lexP (a b : ExpD) : List Int × Bool := takeL (rsP a) (rsP b) (lexCnt a b)
def lexN (a b : ExpD) : List Int × Bool := takeL (rsN a) (rsN b) (lexP a b).2
def lexBad (a b : ExpD) : Bool := (lexN a b).2 || (bigS (rsP a).1 (lexP a b).1 || bigS (rsN a).1 (lexN a b).1)
def lexE (a b : ExpD) (z : Int) : ExpD :=
  ({ a with start := b.time, count := x64 (a.count - b.count), zero := x64 (a.zero - b.zero), sumH := a.sumH && b.sumH, sum := z, minH := false, min := 0, maxH := false, max := 0 }).lay (trim (rsP a).1 (lexP a b).1) (trim (rsN a).1 (lexN a b).1)
def lexpS (k : Nat) : List U → Out SV
  | [.a la, .a lb] => match asExp la, asExp lb with
    | some a, some b => .need (Fits a ∧ Fits b ∧ Typ TB (.sl 40) a.attrs ∧ Dp k a.attrs ∧ Typ TB (.sl 44) a.ex ∧ Dp k a.ex) (wp1 (a.scale != b.scale || a.thr != b.thr) fun c => bif c then .ret (.t [.a (noE 0).cells, .c (errV 13)]) else
      .all Int (fun _ => True) ⟨0, trivial⟩ fun z => wp1 (lexBad a b) fun c => bif c then .ret (.t [.a (noE 0).cells, .c (errV 9)]) else .ret (.t [.a (lexE a b z).cells, .c nilV]))
    | _, _ => .fail
  | _ => .fail
theorem rs_near {h : Bool} {f : Int} {l : List Int} (h1 : -2147483648 ≤ f ∧ f < 2147483648) (h2 : l.length ≤ 1500) : -4294967296 ≤ (bif h then w64 f else 0) ∧ (bif h then w64 f else 0) ≤ 4294967296 ∧ (bif h then l else []).length ≤ 1500 := by
  have := bifoff h h1
  have := Nat.le_trans (side_len h l) h2
  omega
theorem lexp_ok {k : Nat} : Ok G 33 (lexpS k) := by
  have hS : AllSound (B [(45, .pure (normG (B []) [47] (twS k))), (72, .full (normF (B []) [122, 41, 41] lessS)), (54, .pure (normG (B []) [43, 43, 106] bothS)), (36, .pure (normG (B []) [4, 24] sideOfS)), (73, .full (normF (B []) [122, 82, 82] takeS2)), (46, .full (normF (B []) [122, 100, 82, 82] laysS))]) G :=
    .cons _ twExp_ok (.consF _ less_ok (.cons _ both_ok (.cons _ sideOf_ok (.consF _ takeSide_ok (.consF _ lays_ok noneS)))))
  refine okP hS Tryd.func33 rfl (by decide) fun K us hk => ?_
  unfold lexpS at hk
  split at hk
  · split at hk
    · rename_i la lb _ _ a b ha hb
      rw [asExp_eq ha, asExp_eq hb]
      refine ⟨by show 2 ≤ _; decide, ?_⟩
      obtain ⟨⟨hA, hB, h1, h2, h3, h4⟩, hk⟩ := hk
      have hk := hk _ rfl
      have pa := rs_near (h := a.hasP) (l := a.cP) ⟨hA.2.2.1, hA.2.2.2.1⟩ hA.1
      have pb := rs_near (h := b.hasP) (l := b.cP) ⟨hB.2.2.1, hB.2.2.2.1⟩ hB.1
      have na := rs_near (h := a.hasN) (l := a.cN) ⟨hA.2.2.2.2.1, hA.2.2.2.2.2.1⟩ hA.2.1
      have nb := rs_near (h := b.hasN) (l := b.cN) ⟨hB.2.2.2.2.1, hB.2.2.2.2.2.1⟩ hB.2.1
      have bad : (a.scale != b.scale || a.thr != b.thr) = true → K (.t [.a (noE 0).cells, .c (errV 13)]) := fun h => by rw [h] at hk; exact hk
      conv => whnf
      refine Ask.i (fun c1 => ?_) (fun c1 => ?_)
      · have c1 : (a.scale != b.scale) = true := c1
        conv => whnf
        exact bad (by rw [c1]; rfl)
      have c1 : (a.scale != b.scale) = false := c1
      conv => whnf
      refine Ask.i (fun c2 => ?_) (fun c2 => ?_)
      · have c2 : (a.thr != b.thr) = true := c2
        conv => whnf
        exact bad (by rw [c1, c2]; rfl)
      have c2 : (a.thr != b.thr) = false := c2
      rw [c1, c2] at hk
      conv => whnf
      refine ⟨⟨h1, h2, h3, h4, hA.1, hA.2.1⟩, ?_⟩
      conv => whnf
      refine ⟨mixed, [(4, [6]), (9, [6]), (11, [7]), (13, [7])], [], [], by kernel_rfl, ?_⟩
      conv => whnf
      intro z hz
      have hk := hk z trivial _ rfl
      conv => whnf
      refine ⟨mixed, [(10, [6]), (12, [8])], [], [], by kernel_rfl, ?_⟩
      conv => whnf
      refine ⟨⟨pa.1, pa.2.1, pa.2.2, pb.1, pb.2.1, pb.2.2⟩, ?_⟩
      conv => whnf
      refine ⟨mixed, [(10, [6]), (12, [9])], [], [], by kernel_rfl, ?_⟩
      conv => whnf
      refine ⟨⟨na.1, na.2.1, na.2.2, nb.1, nb.2.1, nb.2.2⟩, ?_⟩
      conv => whnf
      refine ⟨⟨?_, ?_⟩, ?_⟩
      · show (lexP a b).1.length ≤ 68719476736
        unfold lexP takeL
        rw [takeGo_len]
        exact Nat.le_trans pa.2.2 (by decide)
      · show (lexN a b).1.length ≤ 68719476736
        unfold lexN takeL
        rw [takeGo_len]
        exact Nat.le_trans na.2.2 (by decide)
      conv => whnf
      intro c hc
      have hc : lexBad a b = c := hc
      rw [hc] at hk
      cases c with
      | true =>
        conv => whnf
        exact hk
      | false =>
        conv => whnf
        exact hk
    · exact hk.elim
  · exact hk.elim
end Sx
/-! Plain: added and taken away. -/
namespace Sx
open Go Go.Proofs
set_option linter.unusedVariables false
set_option maxRecDepth 30000
theorem sAt_cons (h n : Int) (r : List Int) (p : Int) : sAt h (n :: r) p = if p = h then n else sAt (h + 1) r p := by
  unfold sAt
  by_cases e : p = h
  · subst e
    rw [if_pos rfl, if_pos (Int.le_refl _), Int.sub_self]; rfl
  · rw [if_neg e]
    by_cases h1 : h ≤ p
    · rw [if_pos h1, if_pos (by omega)]
      have : (p - h).toNat = (p - (h + 1)).toNat + 1 := by omega
      rw [this, List.getD_cons_succ]
    · rw [if_neg h1, if_neg (by omega)]
theorem sAt_set {f : Int} {c : List Int} {k : Nat} {v : Int} (hk : k < c.length) (p : Int) : sAt f (c.set k v) p = if p = f + k then v else sAt f c p := by
  unfold sAt
  by_cases h1 : f ≤ p
  · rw [if_pos h1, if_pos h1, getD_set _ _ _ _ hk]
    by_cases e : p = f + k
    · rw [if_pos e, if_pos (by omega)]
    · rw [if_neg e, if_neg (by omega)]
  · rw [if_neg h1, if_neg h1, if_neg (by omega)]
theorem takeGo_sem {f h : Int} : ∀ (q : List Int) (i : Nat) (c : List Int) (bad : Bool), R64 q → R64 c → (∀ p, sAt (h + i) q p ≤ sAt f c p) →
    (takeGo (h - f) i q c bad).2 = bad ∧ ∀ p, sAt f (takeGo (h - f) i q c bad).1 p = sAt f c p - sAt (h + i) q p
  | [], i, c, bad, _, _, _ => ⟨rfl, fun p => by show sAt f c p = sAt f c p - sAt _ [] p; rw [sAt_nil]; omega⟩
  | n :: r, i, c, bad, hq, hc, hle => by
    have hn := hq n List.mem_cons_self
    have hr : R64 r := fun y hy => hq y (List.mem_cons_of_mem _ hy)
    have h0 := hle (h + i)
    rw [sAt_cons, if_pos rfl] at h0
    have hi : h + (i : Int) + 1 = h + ((i + 1 : Nat) : Int) := by omega
    rw [takeGo]
    by_cases hk : 0 ≤ h - f + (i : Int) ∧ h - f + (i : Int) < (c.length : Int)
    · rw [if_pos hk]
      have hkn : (h - f + (i : Int)).toNat < c.length := by omega
      have e1 : c.getD (h - f + (i : Int)).toNat 0 = sAt f c (h + i) := by
        unfold sAt
        rw [if_pos (by omega)]
        congr 1
        omega
      have e2 : f + (((h - f + (i : Int)).toNat : Nat) : Int) = h + i := by omega
      have hv := sAt_r hc f (h + i)
      rw [e1, decide_eq_false (show ¬ sAt f c (h + i) < n by omega), Bool.or_false, x64_eq (show 0 ≤ sAt f c (h + i) - n ∧ sAt f c (h + i) - n < 18446744073709551616 by omega)]
      have hc' : R64 (c.set (h - f + (i : Int)).toNat (sAt f c (h + i) - n)) := by
        intro y hy
        rcases List.mem_or_eq_of_mem_set hy with hy | rfl
        · exact hc y hy
        · omega
      have ih := takeGo_sem (f := f) (h := h) r (i + 1) (c.set (h - f + (i : Int)).toNat (sAt f c (h + i) - n)) bad hr hc' (fun p => by
        rw [sAt_set hkn, e2, ← hi]
        by_cases e : p = h + i
        · rw [if_pos e, sAt_out (by omega)]; omega
        · rw [if_neg e]
          have := hle p
          rwa [sAt_cons, if_neg e] at this)
      refine ⟨ih.1, fun p => ?_⟩
      rw [ih.2 p, sAt_set hkn, e2, sAt_cons, ← hi]
      by_cases e : p = h + i
      · rw [if_pos e, if_pos e, sAt_out (l := r) (by omega), e]; omega
      · rw [if_neg e, if_neg e]
    · rw [if_neg hk]
      have hz : sAt f c (h + i) = 0 := sAt_out (by omega)
      have hn0 : n = 0 := by omega
      rw [decide_eq_false (by omega), Bool.or_false]
      have ih := takeGo_sem (f := f) (h := h) r (i + 1) c bad hr hc (fun p => by
        rw [← hi]
        by_cases e : p = h + i
        · rw [e, sAt_out (by omega), hz]; exact Int.le_refl _
        · have := hle p
          rwa [sAt_cons, if_neg e] at this)
      refine ⟨ih.1, fun p => ?_⟩
      rw [ih.2 p, sAt_cons, ← hi]
      by_cases e : p = h + i
      · rw [if_pos e, e, sAt_out (l := r) (by omega), hn0]
      · rw [if_neg e]
/-- a side less one of its parts -/
theorem takeL_sem {s t : Int × List Int} {bad : Bool} (ht : -4611686018427387904 ≤ t.1 ∧ t.1 + t.2.length ≤ 4611686018427387904) (rs : R64 s.2) (rt : R64 t.2) (hle : ∀ p, sAt t.1 t.2 p ≤ sAt s.1 s.2 p) :
    (takeL s t bad).2 = bad ∧ ∀ p, sAt s.1 (takeL s t bad).1 p = sAt s.1 s.2 p - sAt t.1 t.2 p := by
  have h := takeGo_sem (f := s.1) (h := (trim t.1 t.2).1) (trim t.1 t.2).2 0 s.2 bad (fun x hx => rt x (trim_mem hx)) rs (fun p => by
    rw [show (trim t.1 t.2).1 + ((0 : Nat) : Int) = (trim t.1 t.2).1 by omega, trim_at ht.1 ht.2]; exact hle p)
  refine ⟨h.1, fun p => ?_⟩
  have := h.2 p
  rw [show (trim t.1 t.2).1 + ((0 : Nat) : Int) = (trim t.1 t.2).1 by omega, trim_at ht.1 ht.2] at this
  exact this
theorem takeL_r {s t : Int × List Int} {bad : Bool} (rs : R64 s.2) : R64 (takeL s t bad).1 := by
  have go : ∀ (d : Int) (l : List Int) (i : Nat) (c : List Int) (bad : Bool), R64 c → R64 (takeGo d i l c bad).1 := by
    intro d l
    induction l with
    | nil => intro i c bad h; exact h
    | cons a l ih =>
      intro i c bad h
      rw [takeGo]
      split
      · exact ih _ _ _ (set_r h _ _)
      · exact ih _ _ _ h
  exact go _ _ _ _ _ rs
theorem rsP_r {e : ExpD} (h : R64 e.cP) : R64 (rsP e).2 := bif_r h
theorem rsN_r {e : ExpD} (h : R64 e.cN) : R64 (rsN e).2 := bif_r h
/-- one side: added, then taken away -/
theorem side_back {U X Y : Int × List Int} {bad : Bool} (hU : -4294967296 ≤ U.1 ∧ U.1 ≤ 4294967296 ∧ U.2.length ≤ 1500) (hX : -4294967296 ≤ X.1 ∧ X.1 ≤ 4294967296 ∧ X.2.length ≤ 1500) (hY : -4294967296 ≤ Y.1 ∧ Y.1 ≤ 4294967296 ∧ Y.2.length ≤ 1500)
    (rU : R64 U.2) (rX : R64 X.2) (rY : R64 Y.2) (h : ∀ p, sAt U.1 U.2 p = sAt X.1 X.2 p + sAt Y.1 Y.2 p) :
    (takeL U X bad).2 = bad ∧ trim U.1 (takeL U X bad).1 = trim Y.1 Y.2 := by
  have sem := takeL_sem (s := U) (t := X) (bad := bad) ⟨by omega, by omega⟩ rU rX fun p => by rw [h]; have := (sAt_r rY Y.1 p).1; omega
  refine ⟨sem.1, ?_⟩
  have hl : (takeL U X bad).1.length = U.2.length := by unfold takeL; rw [takeGo_len]
  refine canon (trim_tight (by omega) (by omega)) (trim_tight (by omega) (by omega)) fun p => ?_
  rw [trim_at (by omega) (by omega), trim_at (by omega) (by omega), sem.2 p, h p]
  omega
theorem sd_at {e : ExpD} (hf : Fits e) (p : Int) : sAt (sdP e).1 (sdP e).2 p = sAt (rsP e).1 (rsP e).2 p ∧ sAt (sdN e).1 (sdN e).2 p = sAt (rsN e).1 (rsN e).2 p := by
  have a := rs_near (h := e.hasP) (l := e.cP) ⟨hf.2.2.1, hf.2.2.2.1⟩ hf.1
  have b := rs_near (h := e.hasN) (l := e.cN) ⟨hf.2.2.2.2.1, hf.2.2.2.2.2.1⟩ hf.2.1
  exact ⟨trim_at (by omega) (by omega) p, trim_at (by omega) (by omega) p⟩
theorem down0 {s : Int × List Int} (h : Side s) : downL s.1 s.2 0 false = (s.1, s.2, false) := by
  obtain ⟨f, l, rfl, h1, h2, h3⟩ := h
  exact downL_zero (trim_tight (by omega) (by omega)) fun x hx => h3 x (trim_mem hx)
theorem trim_lo {f : Int} {l : List Int} (h1 : -2147483648 ≤ f ∧ f ≤ 8589936092) (h2 : l.length ≤ 68719476736) : -2147483648 ≤ (trim f l).1 := by
  rcases trim_spec l f (by omega) (by omega) with ⟨h, _⟩ | ⟨k, m, c, h, _⟩
  · rw [h]; decide
  · rw [h]; simp only; omega
structure Back (u x y : ExpD) : Prop where
  bad : lexBad u x = (bigS (rsP y).1 (rsP y).2 || bigS (rsN y).1 (rsN y).2)
  like : (u.scale != x.scale || u.thr != x.thr) = false
  cnt : x64 (u.count - x.count) = y.count
  zer : x64 (u.zero - x.zero) = y.zero
  pos : trim (rsP u).1 (lexP u x).1 = trim (rsP y).1 (rsP y).2
/-- points of one scale: the sum less the first is the second -/
theorem exp_back {k : Nat} {x y u : ExpD} {most z : Int} (gX : Good k x) (gY : Good k y) (hs : y.scale = x.scale) (h : expO x y most z = some u) (hu : u.scale = x.scale) : Fits u ∧ Back u x y := by
  unfold expO at h
  cases ht : (x.thr != y.thr) with
  | true => rw [ht] at h; cases h
  | false =>
    rw [ht] at h
    simp only [cond_false] at h
    cases hr : shV x y most with
    | none => rw [hr] at h; cases h
    | some r =>
      rw [hr] at h
      simp only at h
      cases hb : addBad x y r.1.toNat r.2.1.toNat with
      | true => rw [hb] at h; cases h
      | false =>
        rw [hb] at h
        simp only [cond_false, Option.some.injEq] at h
        have ok := add_ok' (z := z) gX.fits gY.fits gX.c.ct gY.c.ct gX.c.zr gY.c.zr gX.t.rP gX.t.rN gY.t.rP gY.t.rN hr hb
        rw [h] at ok
        have fit := ok.fit
        have hr' := hr
        unfold shV at hr'
        obtain ⟨j, _, e, _, m2, _, _, b7, w1, w2, _⟩ := shGo_spec hr'
        rw [hs, lesser_self, Int.sub_self] at e w1 w2
        have hsc : w32 r.2.2 = x.scale := by rw [← hu, ← h]; rfl
        have e3 : r.2.2 = x.scale - j := by rw [e]
        have hj : j = 0 := by
          by_cases h0 : j = 0
          · exact h0
          · have := b7 (by omega)
            rw [hs, lesser_self] at this
            have hx := gX.t.sc
            rw [e3, w32_eq (by omega)] at hsc
            omega
        subst hj
        have er1 : r.1.toNat = 0 := by rw [e]; rfl
        have er2 : r.2.1.toNat = 0 := by rw [e]; rfl
        rw [er1, er2] at h hb
        have hN : (addNn x y 0 0).2.2 = false := by
          rw [addBad_def] at hb
          exact (Bool.or_eq_false_iff.1 hb).1
        have hN' := hN
        rw [addNn_def] at hN
        have semN := oneSide_sem (s := sdN x) (t := sdN y) (x := 0) (y := 0) (bad := (addP x y 0 0).2.2)
        have hP := (semN.1.1 hN).1
        rw [addP_def] at hP
        have semP := oneSide_sem (s := sdP x) (t := sdP y) (x := 0) (y := 0) (bad := cntBad x y)
        have vP := semP.2 hP
        have vN := semN.2 hN
        have dXP := down0 (sdP_side gX.fits gX.t.rP)
        have dYP := down0 (sdP_side gY.fits gY.t.rP)
        have dXN := down0 (sdN_side gX.fits gX.t.rN)
        have dYN := down0 (sdN_side gY.fits gY.t.rN)
        rw [dXP, dYP] at vP
        rw [dXN, dYN] at vN
        simp only at vP vN
        have oX := gX.fits
        have oY := gY.fits
        have kP := side_ok (bifoff x.hasP ⟨oX.2.2.1, oX.2.2.2.1⟩) (Nat.le_trans (side_len x.hasP x.cP) oX.1) (bifoff y.hasP ⟨oY.2.2.1, oY.2.2.2.1⟩) (Nat.le_trans (side_len y.hasP y.cP) oY.1) (bif_r gX.t.rP) (bif_r gY.t.rP) hP
        have kN := side_ok (bifoff x.hasN ⟨oX.2.2.2.2.1, oX.2.2.2.2.2.1⟩) (Nat.le_trans (side_len x.hasN x.cN) oX.2.1) (bifoff y.hasN ⟨oY.2.2.2.2.1, oY.2.2.2.2.2.1⟩) (Nat.le_trans (side_len y.hasN y.cN) oY.2.1) (bif_r gX.t.rN) (bif_r gY.t.rN) hN
        have offP : u.offP = w32 (trim (addP x y 0 0).1 (addP x y 0 0).2.1).1 := by rw [← h]; rfl
        have cP : u.cP = (trim (addP x y 0 0).1 (addP x y 0 0).2.1).2 := by rw [← h]; rfl
        have offN : u.offN = w32 (trim (addNn x y 0 0).1 (addNn x y 0 0).2.1).1 := by rw [← h]; rfl
        have cN : u.cN = (trim (addNn x y 0 0).1 (addNn x y 0 0).2.1).2 := by rw [← h]; rfl
        have rsPu : rsP u = (u.offP, u.cP) := by
          unfold rsP
          have ho := fit.oP
          cases hh : u.hasP with
          | false => obtain ⟨h1, h2⟩ := fit.hP hh; rw [h1, h2]; rfl
          | true => simp only [cond_true]; rw [w64_eq (by omega)]
        have rsNu : rsN u = (u.offN, u.cN) := by
          unfold rsN
          have ho := fit.oN
          cases hh : u.hasN with
          | false => obtain ⟨h1, h2⟩ := fit.hN hh; rw [h1, h2]; rfl
          | true => simp only [cond_true]; rw [w64_eq (by omega)]
        have lenP := kP.len
        have lenN := kN.len
        have w1 : wideV (sdP x) (sdP y) 0 0 ≤ most := w1
        have w2 : wideV (sdN x) (sdN y) 0 0 ≤ most := w2
        change (((addP x y 0 0).2.1.length : Nat) : Int) = wideV (sdP x) (sdP y) 0 0 at lenP
        change (((addNn x y 0 0).2.1.length : Nat) : Int) = wideV (sdN x) (sdN y) 0 0 at lenN
        have loP : -2147483648 ≤ (addP x y 0 0).1 := kP.lo
        have hiP : (addP x y 0 0).1 ≤ 8589936092 := kP.hi
        have loN : -2147483648 ≤ (addNn x y 0 0).1 := kN.lo
        have hiN : (addNn x y 0 0).1 ≤ 8589936092 := kN.hi
        rw [addBad_def] at hb
        simp only [Bool.or_eq_false_iff, bigS, decide_eq_false_iff_not] at hb
        obtain ⟨_, bP, bN⟩ := hb
        have tP := trim_lo ⟨loP, hiP⟩ (show (addP x y 0 0).2.1.length ≤ 68719476736 by omega)
        have tN := trim_lo ⟨loN, hiN⟩ (show (addNn x y 0 0).2.1.length ≤ 68719476736 by omega)
        rw [w32_eq (by omega)] at offP offN
        have vP : ∀ p, sAt (addP x y 0 0).1 (addP x y 0 0).2.1 p = sAt (sdP x).1 (sdP x).2 p + sAt (sdP y).1 (sdP y).2 p := vP
        have vN : ∀ p, sAt (addNn x y 0 0).1 (addNn x y 0 0).2.1 p = sAt (sdN x).1 (sdN x).2 p + sAt (sdN y).1 (sdN y).2 p := vN
        have atP : ∀ p, sAt (rsP u).1 (rsP u).2 p = sAt (rsP x).1 (rsP x).2 p + sAt (rsP y).1 (rsP y).2 p := by
          intro p
          rw [rsPu]
          show sAt u.offP u.cP p = _
          rw [offP, cP, trim_at (by omega) (by omega), vP, (sd_at oX p).1, (sd_at oY p).1]
        have atN : ∀ p, sAt (rsN u).1 (rsN u).2 p = sAt (rsN x).1 (rsN x).2 p + sAt (rsN y).1 (rsN y).2 p := by
          intro p
          rw [rsNu]
          show sAt u.offN u.cN p = _
          rw [offN, cN, trim_at (by omega) (by omega), vN, (sd_at oX p).2, (sd_at oY p).2]
        have fU := fit.fits
        have nearP : ∀ {e : ExpD}, Fits e → -4294967296 ≤ (rsP e).1 ∧ (rsP e).1 ≤ 4294967296 ∧ (rsP e).2.length ≤ 1500 := fun h => rs_near ⟨h.2.2.1, h.2.2.2.1⟩ h.1
        have nearN : ∀ {e : ExpD}, Fits e → -4294967296 ≤ (rsN e).1 ∧ (rsN e).1 ≤ 4294967296 ∧ (rsN e).2.length ≤ 1500 := fun h => rs_near ⟨h.2.2.2.2.1, h.2.2.2.2.2.1⟩ h.2.1
        have sP := side_back (bad := lexCnt u x) (nearP fU) (nearP oX) (nearP oY) (rsP_r fit.rP) (rsP_r gX.t.rP) (rsP_r gY.t.rP) atP
        have sN := side_back (bad := (lexP u x).2) (nearN fU) (nearN oX) (nearN oY) (rsN_r fit.rN) (rsN_r gX.t.rN) (rsN_r gY.t.rN) atN
        have hcnt : lexCnt u x = false := by
          unfold lexCnt
          rw [ok.cnt, ok.zer, decide_eq_false (by have := gY.c.ct; omega), decide_eq_false (by have := gY.c.zr; omega)]; rfl
        have hp2 : (lexP u x).2 = false := sP.1.trans hcnt
        have hthr : u.thr = x.thr := by
          have : u.thr = y.thr := by rw [← h]; rfl
          rw [this]
          exact (by simpa using ht : x.thr = y.thr).symm
        refine ⟨fU, ⟨?_, ?_, ?_, ?_, sP.2⟩⟩
        · unfold lexBad
          rw [show (lexN u x).2 = false from sN.1.trans hp2, Bool.false_or]
          unfold bigS
          rw [show trim (rsP u).1 (lexP u x).1 = trim (rsP y).1 (rsP y).2 from sP.2, show trim (rsN u).1 (lexN u x).1 = trim (rsN y).1 (rsN y).2 from sN.2]
        · rw [hu, hthr]; simp [bne]
        · rw [ok.cnt, show x.count + y.count - x.count = y.count by omega, x64_eq gY.c.ct]
        · rw [ok.zer, show x.zero + y.zero - x.zero = y.zero by omega, x64_eq gY.c.zr]
end Sx
