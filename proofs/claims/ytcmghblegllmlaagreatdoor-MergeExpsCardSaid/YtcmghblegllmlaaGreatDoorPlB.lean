/- Part of the proof: a machine of states for walks, and contracts of functions over it. Conditions: those that each theorem names. -/
import Derived.Test.YtcmghblegllmlaaGreatDoorCon6
import Derived.Test.YtcmghblegllmlaaGreatDoorPlA
import Derived.Test.YtcmghblegllmlaaGreatDoorHists
set_option linter.unusedVariables false
set_option linter.unusedSimpArgs false
/-! Plain: a side as what it holds at each place. -/
namespace Sx
open Go Go.Proofs
set_option linter.unusedVariables false
set_option maxRecDepth 30000
def sAt (f : Int) (l : List Int) (p : Int) : Int := if f ≤ p then l.getD (p - f).toNat 0 else 0
theorem sAt_nil (f p : Int) : sAt f [] p = 0 := by unfold sAt; split <;> simp
theorem sAt_r {l : List Int} (h : R64 l) (f p : Int) : 0 ≤ sAt f l p ∧ sAt f l p < 18446744073709551616 := by
  unfold sAt
  split
  · exact getD_r h _
  · decide
theorem getD_out {l : List Int} {i : Nat} (h : l.length ≤ i) : l.getD i 0 = 0 := by rw [List.getD_eq_getElem?_getD, List.getElem?_eq_none h]; rfl
theorem sAt_out {f p : Int} {l : List Int} (h : ¬ (f ≤ p ∧ p < f + l.length)) : sAt f l p = 0 := by
  unfold sAt
  split
  · exact getD_out (by omega)
  · rfl
theorem sAt_in {f p : Int} {l : List Int} (h : sAt f l p ≠ 0) : f ≤ p ∧ p < f + l.length := Classical.byContradiction fun hn => h (sAt_out hn)
theorem sAt_at (f : Int) (l : List Int) (j : Nat) : sAt f l (f + j) = l.getD j 0 := by
  unfold sAt
  rw [if_pos (by omega)]
  congr 1
  omega
theorem getD_rep (k i : Nat) : (List.replicate k (0 : Int)).getD i 0 = 0 := by
  rw [List.getD_eq_getElem?_getD, List.getElem?_replicate]
  split <;> rfl
theorem getD_app (a b : List Int) (i : Nat) : (a ++ b).getD i 0 = if i < a.length then a.getD i 0 else b.getD (i - a.length) 0 := by
  rw [List.getD_eq_getElem?_getD]
  by_cases h : i < a.length
  · rw [if_pos h, List.getElem?_append_left h, ← List.getD_eq_getElem?_getD]
  · rw [if_neg h, List.getElem?_append_right (by omega), ← List.getD_eq_getElem?_getD]
theorem trim_at {f : Int} {l : List Int} (h1 : -4611686018427387904 ≤ f) (h2 : f + l.length ≤ 4611686018427387904) (p : Int) : sAt (trim f l).1 (trim f l).2 p = sAt f l p := by
  rcases trim_spec l f h1 h2 with ⟨h, h0⟩ | ⟨k, m, c, h, hc, _, _, hll⟩
  · rw [h, sAt_nil]
    unfold sAt
    split
    · by_cases hi : (p - f).toNat < l.length
      · exact (h0 _ (getD_mem (a := 0) hi)).symm
      · exact (getD_out (by omega)).symm
    · rfl
  · rw [h]
    subst hll
    unfold sAt
    simp only
    by_cases h3 : f + (k : Int) ≤ p
    · rw [if_pos h3, if_pos (by omega), getD_app, if_neg (by simp; omega), getD_app, List.length_replicate]
      have e : (p - f).toNat - k = (p - (f + k)).toNat := by omega
      rw [e]
      split
      · rfl
      · rw [getD_rep, getD_out (by omega)]
    · rw [if_neg h3]
      split
      · rw [getD_app, List.length_replicate, if_pos (by omega), getD_rep]
      · rfl
theorem tight_le {f g : Int} {l m : List Int} (h1 : l.getD 0 0 ≠ 0) (h2 : l.getD (l.length - 1) 0 ≠ 0) (hl : l ≠ []) (h : ∀ p, sAt f l p = sAt g m p) : g ≤ f ∧ f + l.length ≤ g + m.length := by
  have a1 := sAt_at f l 0
  have a2 := sAt_at f l (l.length - 1)
  have : 0 < l.length := List.length_pos_iff.2 hl
  rw [← a1, h] at h1
  rw [← a2, h] at h2
  have b1 := sAt_in h1
  have b2 := sAt_in h2
  omega
/-- sides without zeros at their ends that hold the same are the same -/
theorem canon {s t : Int × List Int} (hs : Tight s) (ht : Tight t) (h : ∀ p, sAt s.1 s.2 p = sAt t.1 t.2 p) : s = t := by
  obtain ⟨f, l⟩ := s
  obtain ⟨g, m⟩ := t
  simp only at h
  rcases hs with hs | ⟨h1, h2, h3⟩
  · obtain ⟨rfl, rfl⟩ := Prod.mk.inj hs
    rcases ht with ht | ⟨h4, h5, h6⟩
    · exact ht.symm
    · exfalso
      have := sAt_at g m 0
      rw [← h, sAt_nil] at this
      exact h5 this.symm
  · rcases ht with ht | ⟨h4, h5, h6⟩
    · exfalso
      obtain ⟨rfl, rfl⟩ := Prod.mk.inj ht
      have := sAt_at f l 0
      rw [h, sAt_nil] at this
      exact h2 this.symm
    · have a := tight_le h2 h3 h1 h
      have b := tight_le h5 h6 h4 fun p => (h p).symm
      simp only at a b
      obtain rfl : f = g := by omega
      have hl : l.length = m.length := by omega
      have : l = m := by
        refine List.ext_getElem hl fun i i1 i2 => ?_
        have := h (f + i)
        rw [sAt_at, sAt_at, List.getD_eq_getElem?_getD, List.getD_eq_getElem?_getD, List.getElem?_eq_getElem i1, List.getElem?_eq_getElem i2] at this
        exact this
      rw [this]
theorem getD_set (c : List Int) (q p : Nat) (v : Int) (hq : q < c.length) : (c.set q v).getD p 0 = if p = q then v else c.getD p 0 := by
  rw [List.getD_eq_getElem?_getD, List.getElem?_set]
  by_cases h : q = p
  · subst h
    rw [if_pos rfl, if_pos rfl, if_pos hq]; rfl
  · rw [if_neg h, if_neg (fun e => h e.symm), List.getD_eq_getElem?_getD]
theorem addGo_get (o : Nat) : ∀ (l : List Int) (i : Nat) (c : List Int) (bad : Bool) (p : Nat), o + i + l.length ≤ c.length →
    (addGo o i l c bad).1.getD p 0 = if o + i ≤ p ∧ p < o + i + l.length then x64 (c.getD p 0 + l.getD (p - (o + i)) 0) else c.getD p 0
  | [], i, c, bad, p, _ => by
    rw [addGo, if_neg (by simp only [List.length_nil]; omega)]
  | x :: l, i, c, bad, p, h => by
    simp only [List.length_cons] at h
    rw [addGo, addGo_get o l (i + 1) _ _ p (by simp only [List.length_set]; omega), getD_set _ _ _ _ (by omega)]
    simp only [List.length_cons]
    by_cases h1 : p = o + i
    · subst h1
      rw [if_neg (by omega), if_pos rfl, if_pos (by omega), Nat.sub_self]; rfl
    · rw [if_neg h1]
      by_cases h2 : o + i + 1 ≤ p ∧ p < o + i + 1 + l.length
      · rw [if_pos (by omega), if_pos (by omega)]
        have e : p - (o + i) = p - (o + (i + 1)) + 1 := by omega
        rw [e, List.getD_cons_succ]
      · rw [if_neg (by omega), if_neg (by omega)]
theorem addGo_flag (o : Nat) : ∀ (l : List Int) (i : Nat) (c : List Int) (bad : Bool), o + i + l.length ≤ c.length →
    ((addGo o i l c bad).2 = false ↔ bad = false ∧ ∀ j, j < l.length → ¬ x64 (c.getD (o + i + j) 0 + l.getD j 0) < c.getD (o + i + j) 0)
  | [], i, c, bad, _ => by rw [addGo]; simp
  | x :: l, i, c, bad, h => by
    simp only [List.length_cons] at h
    rw [addGo, addGo_flag o l (i + 1) _ _ (by simp only [List.length_set]; omega), Bool.or_eq_false_iff, decide_eq_false_iff_not]
    constructor
    · rintro ⟨⟨h1, h2⟩, h3⟩
      refine ⟨h1, fun j hj => ?_⟩
      cases j with
      | zero => simpa using h2
      | succ j =>
        have := h3 j (by simpa using hj)
        rw [getD_set _ _ _ _ (by omega), if_neg (by omega)] at this
        rw [List.getD_cons_succ, show o + i + (j + 1) = o + (i + 1) + j by omega]
        exact this
    · rintro ⟨h1, h2⟩
      refine ⟨⟨h1, by simpa using h2 0 (by simp)⟩, fun j hj => ?_⟩
      have := h2 (j + 1) (by simpa using hj)
      rw [List.getD_cons_succ, show o + i + (j + 1) = o + (i + 1) + j by omega] at this
      rw [getD_set _ _ _ _ (by omega), if_neg (by omega)]
      exact this
theorem wrap_lt {a b : Int} (ha : 0 ≤ a ∧ a < 18446744073709551616) (hb : 0 ≤ b ∧ b < 18446744073709551616) : x64 (a + b) < a ↔ 18446744073709551616 ≤ a + b := by
  have e : x64 (a + b) = (a + b) % 18446744073709551616 := by
    show IntKind.u64.wrap (a + b) = _
    rw [IntKind.wrap_u64]
  rw [e]; omega
/-- two sides added, place by place -/
theorem addL_sem {f g : Int} {l m : List Int} (hl : R64 l) (hm : R64 m) (bad : Bool) :
    ((addL (f, l) (g, m) bad).2.2 = false ↔ bad = false ∧ ∀ p, sAt f l p + sAt g m p < 18446744073709551616) ∧
    ((addL (f, l) (g, m) bad).2.2 = false → ∀ p, sAt (addL (f, l) (g, m) bad).1 (addL (f, l) (g, m) bad).2.1 p = sAt f l p + sAt g m p) := by
  cases l with
  | nil =>
    refine ⟨⟨fun h => ⟨h, fun p => by rw [sAt_nil]; have := (sAt_r hm g p).2; omega⟩, fun h => h.1⟩, fun _ p => ?_⟩
    rw [sAt_nil, Int.zero_add]; rfl
  | cons a r =>
    cases m with
    | nil =>
      refine ⟨⟨fun h => ⟨h, fun p => by rw [sAt_nil]; have := (sAt_r hl f p).2; omega⟩, fun h => h.1⟩, fun _ p => ?_⟩
      rw [sAt_nil, Int.add_zero]; rfl
    | cons b q =>
      have lo : lo2 f g ≤ f ∧ lo2 f g ≤ g := by unfold lo2; split <;> omega
      have hi : f + ((a :: r).length : Nat) ≤ hi2 (f + ((a :: r).length : Nat)) (g + ((b :: q).length : Nat)) ∧ g + ((b :: q).length : Nat) ≤ hi2 (f + ((a :: r).length : Nat)) (g + ((b :: q).length : Nat)) := by unfold hi2; split <;> omega
      simp only [addL]
      have hN : addN f (a :: r) g (b :: q) = hi2 (f + ((a :: r).length : Nat)) (g + ((b :: q).length : Nat)) - lo2 f g := rfl
      generalize lo2 f g = first at *
      generalize addN f (a :: r) g (b :: q) = N at *
      generalize hL : a :: r = L at *
      generalize hM : b :: q = M at *
      have len1 : (f - first).toNat + 0 + L.length ≤ (List.replicate N.toNat (0 : Int)).length := by rw [List.length_replicate]; omega
      have flag1 : (addGo (f - first).toNat 0 L (List.replicate N.toNat 0) bad).2 = bad := by
        cases bad with
        | true => exact addGo_bad _ _ _ _
        | false =>
          refine (addGo_flag _ _ _ _ _ len1).2 ⟨rfl, fun j hj => ?_⟩
          rw [getD_rep, Int.zero_add, x64_eq (getD_r hl j)]
          have := (getD_r hl j).1
          omega
      have get1 : ∀ p : Nat, (addGo (f - first).toNat 0 L (List.replicate N.toNat 0) bad).1.getD p 0 = sAt f L (first + p) := by
        intro p
        rw [addGo_get _ _ _ _ _ _ len1, getD_rep]
        split
        · rw [Int.zero_add, x64_eq (getD_r hl _)]
          unfold sAt
          rw [if_pos (by omega)]
          congr 1
          omega
        · exact (sAt_out (by omega)).symm
      rw [flag1]
      have len2 : (g - first).toNat + 0 + M.length ≤ (addGo (f - first).toNat 0 L (List.replicate N.toNat 0) bad).1.length := by rw [addGo_len, List.length_replicate]; omega
      have fl := addGo_flag (g - first).toNat M 0 (addGo (f - first).toNat 0 L (List.replicate N.toNat 0) bad).1 bad len2
      have get2 : ∀ p : Nat, (addGo (g - first).toNat 0 M (addGo (f - first).toNat 0 L (List.replicate N.toNat 0) bad).1 bad).1.getD p 0 = if (g - first).toNat ≤ p ∧ p < (g - first).toNat + M.length then x64 (sAt f L (first + p) + sAt g M (first + p)) else sAt f L (first + p) := by
        intro p
        rw [addGo_get _ _ _ _ _ _ len2, get1]
        simp only [Nat.add_zero]
        split
        · congr 2
          unfold sAt
          rw [if_pos (by omega)]
          congr 1
          omega
        · rfl
      have key : (∀ j, j < M.length → ¬ x64 ((addGo (f - first).toNat 0 L (List.replicate N.toNat 0) bad).1.getD ((g - first).toNat + 0 + j) 0 + M.getD j 0) < (addGo (f - first).toNat 0 L (List.replicate N.toNat 0) bad).1.getD ((g - first).toNat + 0 + j) 0) ↔ ∀ p, sAt f L p + sAt g M p < 18446744073709551616 := by
        constructor
        · intro h p
          by_cases h0 : sAt g M p = 0
          · rw [h0]; have := (sAt_r hl f p).2; omega
          · have hp := sAt_in h0
            have := h (p - g).toNat (by omega)
            rw [get1, ← sAt_at g M] at this
            have e1 : first + (((g - first).toNat + 0 + (p - g).toNat : Nat) : Int) = p := by omega
            have e2 : g + (((p - g).toNat : Nat) : Int) = p := by omega
            rw [e1, e2, wrap_lt (sAt_r hl f p) (sAt_r hm g p)] at this
            omega
        · intro h j hj
          rw [get1, ← sAt_at g M]
          have e1 : first + (((g - first).toNat + 0 + j : Nat) : Int) = g + j := by omega
          rw [e1, wrap_lt (sAt_r hl f _) (sAt_r hm g _)]
          have := h (g + j)
          omega
      rw [fl, key]
      refine ⟨Iff.rfl, fun h p => ?_⟩
      have hs := h.2 p
      have r1 := sAt_r hl f p
      have r2 := sAt_r hm g p
      by_cases hp : first ≤ p
      · have e := get2 (p - first).toNat
        have e1 : first + (((p - first).toNat : Nat) : Int) = p := by omega
        rw [e1] at e
        rw [show sAt first (addGo (g - first).toNat 0 M (addGo (f - first).toNat 0 L (List.replicate N.toNat 0) bad).1 bad).1 p = _ from if_pos hp, e]
        split
        · exact x64_eq (by omega)
        · rename_i hx
          have : sAt g M p = 0 := sAt_out (by omega)
          rw [this, Int.add_zero]
      · rw [sAt_out (f := f) (l := L) (by omega), sAt_out (f := g) (l := M) (by omega)]
        unfold sAt
        rw [if_neg hp]; rfl
end Sx
/-! Plain: lists of places as what they hold. -/
namespace Sx
open Go Go.Proofs
set_option linter.unusedVariables false
set_option linter.unusedSimpArgs false
set_option maxRecDepth 30000
/-- what the places of a side hold, shifted -/
def Ds (f : Int) (n : Nat) : Nat → List Int → Int → Int
  | _, [], _ => 0
  | i, x :: l, p => (if shr (f + i) n = p then x else 0) + Ds f n (i + 1) l p
theorem R64.tl {x : Int} {l : List Int} (h : R64 (x :: l)) : R64 l := fun y hy => h y (List.mem_cons_of_mem _ hy)
theorem R64.hd {x : Int} {l : List Int} (h : R64 (x :: l)) : 0 ≤ x ∧ x < 18446744073709551616 := h x List.mem_cons_self
theorem Ds_nn (f : Int) (n : Nat) : ∀ (l : List Int) (i : Nat) (p : Int), R64 l → 0 ≤ Ds f n i l p
  | [], _, _, _ => Int.le_refl 0
  | x :: l, i, p, h => by
    rw [Ds]
    have := Ds_nn f n l (i + 1) p h.tl
    have := h.hd
    split <;> omega
/-- a list of places, rising, that holds F -/
structure PlOk (L : List Pl) (F : Int → Int) : Prop where
  st : L.Pairwise (fun a b => a.1 < b.1)
  val : ∀ x ∈ L, x.2 = F x.1 ∧ 0 < x.2 ∧ x.2 < 18446744073709551616
  all : ∀ p, F p ≠ 0 → ∃ x ∈ L, x.1 = p
theorem PlOk.nil : PlOk [] (fun _ => 0) := ⟨List.Pairwise.nil, fun x h => (by cases h), fun p h => absurd rfl h⟩
theorem PlOk.congr {L : List Pl} {F F' : Int → Int} (h : PlOk L F) (e : ∀ p, F p = F' p) : PlOk L F' := (funext e : F = F') ▸ h
theorem PlOk.zero {L : List Pl} {F : Int → Int} (h : PlOk L F) {p : Int} (hp : ∀ x ∈ L, x.1 ≠ p) : F p = 0 := Classical.byContradiction fun hn => by
  obtain ⟨x, hx, e⟩ := h.all p hn
  exact hp x hx e
theorem PlOk.range {L : List Pl} {F : Int → Int} (h : PlOk L F) (p : Int) : 0 ≤ F p ∧ F p < 18446744073709551616 := by
  by_cases hp : F p = 0
  · omega
  · obtain ⟨x, hx, rfl⟩ := h.all p hp
    have := h.val x hx
    omega
/-- one more behind -/
theorem PlOk.snoc {L : List Pl} {F : Int → Int} (h : PlOk L F) {q x : Int} (hq : ∀ y ∈ L, y.1 < q) (hx : 0 < x ∧ x < 18446744073709551616) : PlOk (L ++ [(q, x)]) (fun p => F p + if q = p then x else 0) := by
  have h0 : F q = 0 := h.zero fun y hy e => by have := hq y hy; omega
  refine ⟨List.pairwise_append.2 ⟨h.st, List.pairwise_singleton _ _, fun a ha b hb => ?_⟩, fun y hy => ?_, fun p hp => ?_⟩
  · obtain rfl := List.mem_singleton.1 hb; exact hq a ha
  · rcases List.mem_append.1 hy with hy | hy
    · have := h.val y hy
      have := hq y hy
      rw [if_neg (by omega)]; omega
    · obtain rfl := List.mem_singleton.1 hy
      simp only [if_true, h0]; omega
  · by_cases e : q = p
    · exact ⟨(q, x), List.mem_append_right _ List.mem_cons_self, e⟩
    · rw [if_neg e] at hp
      obtain ⟨y, hy, e⟩ := h.all p (by omega)
      exact ⟨y, List.mem_append_left _ hy, e⟩
/-- more at the last -/
theorem PlOk.more {L : List Pl} {F : Int → Int} {q m x : Int} (h : PlOk (L ++ [(q, m)]) F) (hx : 0 ≤ x ∧ m + x < 18446744073709551616) : PlOk (L ++ [(q, m + x)]) (fun p => F p + if q = p then x else 0) := by
  have hs := List.pairwise_append.1 h.st
  have hm := h.val (q, m) (List.mem_append_right _ List.mem_cons_self)
  refine ⟨List.pairwise_append.2 ⟨hs.1, List.pairwise_singleton _ _, fun a ha b hb => ?_⟩, fun y hy => ?_, fun p hp => ?_⟩
  · obtain rfl := List.mem_singleton.1 hb; exact hs.2.2 a ha (q, m) List.mem_cons_self
  · rcases List.mem_append.1 hy with hy | hy
    · have h1 := h.val y (List.mem_append_left _ hy)
      have h2 := hs.2.2 y hy (q, m) List.mem_cons_self
      simp only at h2
      rw [if_neg (by omega)]; omega
    · obtain rfl := List.mem_singleton.1 hy
      simp only at hm
      simp only [if_true]; omega
  · by_cases e : q = p
    · exact ⟨(q, m + x), List.mem_append_right _ List.mem_cons_self, e⟩
    · rw [if_neg e] at hp
      obtain ⟨y, hy, e'⟩ := h.all p (by omega)
      rcases List.mem_append.1 hy with hy | hy
      · exact ⟨y, List.mem_append_left _ hy, e'⟩
      · obtain rfl := List.mem_singleton.1 hy; exact absurd e' e
theorem snoc_of {L : List Pl} (h : L ≠ []) : ∃ I q, L = I ++ [q] := ⟨L.dropLast, L.getLast h, (List.dropLast_concat_getLast h).symm⟩
theorem getD_snoc (I : List Pl) (q : Pl) : (I ++ [q]).getD ((I ++ [q]).length - 1) (0, 0) = q := by simp
theorem set_snoc (I : List Pl) (q r : Pl) : (I ++ [q]).set ((I ++ [q]).length - 1) r = I ++ [r] := by simp
theorem ge_iff {m x : Int} (hm : 0 ≤ m ∧ m < 18446744073709551616) (hx : 0 ≤ x ∧ x < 18446744073709551616) : x64 (m + x) ≥ m ↔ m + x < 18446744073709551616 := by
  have := wrap_lt hm hx
  omega
theorem plGo_sem (f : Int) (n : Nat) : ∀ (l : List Int) (i : Nat) (acc : List Pl) (F : Int → Int), R64 l → PlOk acc F → (∀ y ∈ acc, y.1 ≤ shr (f + i) n) →
    (plGo f n i l acc = none ∧ ∃ p, 18446744073709551616 ≤ F p + Ds f n i l p) ∨ (∃ L, plGo f n i l acc = some L ∧ L.length ≤ acc.length + l.length ∧ PlOk L (fun p => F p + Ds f n i l p))
  | [], i, acc, F, _, h, _ => .inr ⟨acc, rfl, Nat.le_refl _, h.congr fun p => by rw [Ds]; omega⟩
  | x :: l, i, acc, F, hl, h, hq => by
    have hm : shr (f + i) n ≤ shr (f + ((i + 1 : Nat) : Int)) n := shr_mono n (by omega)
    have hx := hl.hd
    rw [plGo]
    by_cases h0 : x = 0
    · rw [if_pos h0]
      have ih := plGo_sem f n l (i + 1) acc F hl.tl h fun y hy => Int.le_trans (hq y hy) hm
      have e : ∀ p, Ds f n i (x :: l) p = Ds f n (i + 1) l p := fun p => by rw [Ds, h0]; simp
      rcases ih with ⟨a, p, b⟩ | ⟨L, a, b, c⟩
      · exact .inl ⟨a, p, by rw [e]; exact b⟩
      · exact .inr ⟨L, a, by simp; omega, c.congr fun p => by rw [e]⟩
    · rw [if_neg h0]
      have e : ∀ p, Ds f n i (x :: l) p = (if shr (f + i) n = p then x else 0) + Ds f n (i + 1) l p := fun p => rfl
      generalize hat : shr (f + i) n = at' at *
      by_cases hc : acc ≠ [] ∧ (acc.getD (acc.length - 1) (0, 0)).1 = at'
      · rw [if_pos hc]
        obtain ⟨I, q, rfl⟩ := snoc_of hc.1
        rw [getD_snoc] at hc ⊢
        rw [set_snoc]
        have hv := h.val q (List.mem_append_right _ List.mem_cons_self)
        obtain ⟨q1, q2⟩ := q
        obtain ⟨_, rfl⟩ := hc
        simp only at hv ⊢
        have gi := ge_iff (m := q2) (x := x) ⟨by omega, hv.2.2⟩ hx
        by_cases g : x64 (q2 + x) ≥ q2
        · rw [if_pos g, x64_eq (by have := gi.1 g; omega)]
          have ih := plGo_sem f n l (i + 1) (I ++ [(q1, q2 + x)]) _ hl.tl (h.more ⟨hx.1, gi.1 g⟩) fun y hy => by
            rcases List.mem_append.1 hy with hy | hy
            · exact Int.le_trans (hq y (List.mem_append_left _ hy)) hm
            · obtain rfl := List.mem_singleton.1 hy; exact hm
          rcases ih with ⟨a, p, b⟩ | ⟨L, a, b, c⟩
          · exact .inl ⟨a, p, by rw [e]; omega⟩
          · exact .inr ⟨L, a, by simp at b ⊢; omega, c.congr fun p => by rw [e]; omega⟩
        · rw [if_neg g]
          refine .inl ⟨rfl, q1, ?_⟩
          have := Ds_nn f n l (i + 1) q1 hl.tl
          have g' : ¬ q2 + x < 18446744073709551616 := fun hh => g (gi.2 hh)
          rw [e, if_pos rfl]; omega
      · rw [if_neg hc]
        have hlt : ∀ y ∈ acc, y.1 < at' := by
          intro y hy
          have hne : acc ≠ [] := by rintro rfl; cases hy
          obtain ⟨I, q, rfl⟩ := snoc_of hne
          rw [getD_snoc] at hc
          have h1 := hq q (List.mem_append_right _ List.mem_cons_self)
          have h2 : ¬ q.1 = at' := fun hh => hc ⟨hne, hh⟩
          rcases List.mem_append.1 hy with hy | hy
          · have := (List.pairwise_append.1 h.st).2.2 y hy q List.mem_cons_self
            omega
          · obtain rfl := List.mem_singleton.1 hy; omega
        have ih := plGo_sem f n l (i + 1) (acc ++ [(at', x)]) _ hl.tl (h.snoc hlt ⟨by omega, hx.2⟩) fun y hy => by
          rcases List.mem_append.1 hy with hy | hy
          · exact Int.le_trans (hq y hy) hm
          · obtain rfl := List.mem_singleton.1 hy; exact hm
        rcases ih with ⟨a, p, b⟩ | ⟨L, a, b, c⟩
        · exact .inl ⟨a, p, by rw [e]; omega⟩
        · exact .inr ⟨L, a, by simp at b ⊢; omega, c.congr fun p => by rw [e]; omega⟩
theorem Ds_in (f : Int) (n : Nat) : ∀ (l : List Int) (i : Nat) (p : Int), Ds f n i l p ≠ 0 → ∃ j, j < l.length ∧ shr (f + ((i + j : Nat) : Int)) n = p
  | [], _, _, h => absurd rfl h
  | x :: l, i, p, h => by
    rw [Ds] at h
    by_cases e : shr (f + i) n = p
    · exact ⟨0, by simp, e⟩
    · rw [if_neg e, Int.zero_add] at h
      obtain ⟨j, h1, h2⟩ := Ds_in f n l (i + 1) p h
      exact ⟨j + 1, by simp; omega, by rw [← h2]; congr 2; omega⟩
/-- without its first -/
theorem PlOk.tl {x : Pl} {L : List Pl} {F : Int → Int} (h : PlOk (x :: L) F) : PlOk L (fun p => if p = x.1 then 0 else F p) := by
  have hs := List.pairwise_cons.1 h.st
  refine ⟨hs.2, fun y hy => ?_, fun p hp => ?_⟩
  · have := hs.1 y hy
    rw [if_neg (by omega)]
    exact h.val y (List.mem_cons_of_mem _ hy)
  · by_cases e : p = x.1
    · rw [if_pos e] at hp; exact absurd rfl hp
    · rw [if_neg e] at hp
      obtain ⟨y, hy, e'⟩ := h.all p hp
      rcases List.mem_cons.1 hy with rfl | hy
      · exact absurd e'.symm e
      · exact ⟨y, hy, e'⟩
theorem PlOk.hd {x : Pl} {L : List Pl} {F : Int → Int} (h : PlOk (x :: L) F) : x.2 = F x.1 ∧ 0 < x.2 ∧ x.2 < 18446744073709551616 ∧ ∀ p, p < x.1 → F p = 0 :=
  ⟨(h.val x List.mem_cons_self).1, (h.val x List.mem_cons_self).2.1, (h.val x List.mem_cons_self).2.2, fun p hp => h.zero fun y hy => by
    rcases List.mem_cons.1 hy with rfl | hy
    · omega
    · have := (List.pairwise_cons.1 h.st).1 y hy; omega⟩
theorem PlOk.none {F : Int → Int} (h : PlOk [] F) (p : Int) : F p = 0 := h.zero fun x hx => by cases hx
end Sx
/-! Plain: places of two sides together; places as a side. -/
namespace Sx
open Go Go.Proofs
set_option linter.unusedVariables false
set_option linter.unusedSimpArgs false
set_option maxRecDepth 30000
theorem tl_le {x : Pl} {L : List Pl} {A : Int → Int} (h : PlOk (x :: L) A) (p : Int) : (if p = x.1 then 0 else A p) + (if x.1 = p then x.2 else 0) = A p := by
  by_cases e : p = x.1
  · rw [if_pos e, if_pos e.symm, e, h.hd.1]; omega
  · rw [if_neg e, if_neg (fun h => e h.symm)]; omega
theorem bothGo_sem : ∀ (k : Nat) (a b acc : List Pl) (F A B : Int → Int), a.length + b.length ≤ k → PlOk acc F → PlOk a A → PlOk b B → (∀ y ∈ acc, (∀ z ∈ a, y.1 < z.1) ∧ (∀ z ∈ b, y.1 < z.1)) →
    (bothGo k a b acc = none ∧ ∃ p, 18446744073709551616 ≤ A p + B p) ∨ (∃ N, bothGo k a b acc = some N ∧ N.length ≤ acc.length + (a.length + b.length) ∧ PlOk N (fun p => F p + (A p + B p)))
  | k, [], [], acc, F, A, B, hk, hF, hA, hB, hl => .inr ⟨acc, bothGo_nil _ _, by simp, hF.congr fun p => by rw [hA.none, hB.none]; omega⟩
  | 0, _ :: _, _, _, _, _, _, hk, _, _, _, _ => by simp at hk
  | 0, [], _ :: _, _, _, _, _, hk, _, _, _, _ => by simp at hk
  | k + 1, x :: a, [], acc, F, A, B, hk, hF, hA, hB, hl => by
    have hx := hA.hd
    have ha := hA.tl
    have hs := (List.pairwise_cons.1 hA.st).1
    rw [bothGo]
    rcases bothGo_sem k a [] (acc ++ [x]) _ _ _ (by simp at hk ⊢; omega) (hF.snoc (q := x.1) (x := x.2) (fun y hy => (hl y hy).1 x List.mem_cons_self) ⟨hx.2.1, hx.2.2.1⟩) ha hB (fun y hy => ⟨fun z hz => by
        rcases List.mem_append.1 hy with hy | hy
        · exact (hl y hy).1 z (List.mem_cons_of_mem _ hz)
        · obtain rfl := List.mem_singleton.1 hy; exact hs z hz, fun z hz => by cases hz⟩) with ⟨e, p, h⟩ | ⟨N, e, h1, h2⟩
    · refine .inl ⟨e, p, ?_⟩
      have := tl_le hA p
      have := hA.range p
      split at h <;> omega
    · refine .inr ⟨N, e, by simp at h1 ⊢; omega, h2.congr fun p => ?_⟩
      have := tl_le hA p
      omega
  | k + 1, [], y :: b, acc, F, A, B, hk, hF, hA, hB, hl => by
    have hx := hB.hd
    have ha := hB.tl
    have hs := (List.pairwise_cons.1 hB.st).1
    rw [bothGo]
    rcases bothGo_sem k [] b (acc ++ [y]) _ _ _ (by simp at hk ⊢; omega) (hF.snoc (q := y.1) (x := y.2) (fun z hz => (hl z hz).2 y List.mem_cons_self) ⟨hx.2.1, hx.2.2.1⟩) hA ha (fun z hz => ⟨fun w hw => (by cases hw), fun w hw => by
        rcases List.mem_append.1 hz with hz | hz
        · exact (hl z hz).2 w (List.mem_cons_of_mem _ hw)
        · obtain rfl := List.mem_singleton.1 hz; exact hs w hw⟩) with ⟨e, p, h⟩ | ⟨N, e, h1, h2⟩
    · refine .inl ⟨e, p, ?_⟩
      have := tl_le hB p
      have := hB.range p
      split at h <;> omega
    · refine .inr ⟨N, e, by simp at h1 ⊢; omega, h2.congr fun p => ?_⟩
      have := tl_le hB p
      omega
  | k + 1, x :: a, y :: b, acc, F, A, B, hk, hF, hA, hB, hl => by
    have hx := hA.hd
    have hy := hB.hd
    have ha := hA.tl
    have hb := hB.tl
    have sa := (List.pairwise_cons.1 hA.st).1
    have sb := (List.pairwise_cons.1 hB.st).1
    rw [bothGo]
    by_cases c1 : x.1 < y.1
    · rw [if_pos c1]
      rcases bothGo_sem k a (y :: b) (acc ++ [x]) _ _ _ (by simp at hk ⊢; omega) (hF.snoc (q := x.1) (x := x.2) (fun z hz => (hl z hz).1 x List.mem_cons_self) ⟨hx.2.1, hx.2.2.1⟩) ha hB (fun z hz => by
          rcases List.mem_append.1 hz with hz | hz
          · exact ⟨fun w hw => (hl z hz).1 w (List.mem_cons_of_mem _ hw), (hl z hz).2⟩
          · obtain rfl := List.mem_singleton.1 hz
            refine ⟨sa, fun w hw => ?_⟩
            rcases List.mem_cons.1 hw with rfl | hw
            · exact c1
            · have := sb w hw; omega) with ⟨e, p, h⟩ | ⟨N, e, h1, h2⟩
      · refine .inl ⟨e, p, ?_⟩
        have := tl_le hA p
        have := hA.range p
        split at h <;> omega
      · refine .inr ⟨N, e, by simp at h1 ⊢; omega, h2.congr fun p => ?_⟩
        have := tl_le hA p
        omega
    · rw [if_neg c1]
      by_cases c2 : y.1 < x.1
      · rw [if_pos c2]
        rcases bothGo_sem k (x :: a) b (acc ++ [y]) _ _ _ (by simp at hk ⊢; omega) (hF.snoc (q := y.1) (x := y.2) (fun z hz => (hl z hz).2 y List.mem_cons_self) ⟨hy.2.1, hy.2.2.1⟩) hA hb (fun z hz => by
            rcases List.mem_append.1 hz with hz | hz
            · exact ⟨(hl z hz).1, fun w hw => (hl z hz).2 w (List.mem_cons_of_mem _ hw)⟩
            · obtain rfl := List.mem_singleton.1 hz
              refine ⟨fun w hw => ?_, sb⟩
              rcases List.mem_cons.1 hw with rfl | hw
              · exact c2
              · have := sa w hw; omega) with ⟨e, p, h⟩ | ⟨N, e, h1, h2⟩
        · refine .inl ⟨e, p, ?_⟩
          have := tl_le hB p
          have := hB.range p
          split at h <;> omega
        · refine .inr ⟨N, e, by simp at h1 ⊢; omega, h2.congr fun p => ?_⟩
          have := tl_le hB p
          omega
      · rw [if_neg c2]
        have exy : x.1 = y.1 := by omega
        have gi := ge_iff (m := x.2) (x := y.2) ⟨by omega, hx.2.2.1⟩ ⟨by omega, hy.2.2.1⟩
        by_cases g : x64 (x.2 + y.2) ≥ x.2
        · have g' := gi.1 g
          rw [if_pos g, x64_eq (by omega)]
          rcases bothGo_sem k a b (acc ++ [(x.1, x.2 + y.2)]) _ _ _ (by simp at hk ⊢; omega) (hF.snoc (q := x.1) (x := x.2 + y.2) (fun z hz => (hl z hz).1 x List.mem_cons_self) ⟨by omega, g'⟩) ha hb (fun z hz => by
              rcases List.mem_append.1 hz with hz | hz
              · exact ⟨fun w hw => (hl z hz).1 w (List.mem_cons_of_mem _ hw), fun w hw => (hl z hz).2 w (List.mem_cons_of_mem _ hw)⟩
              · obtain rfl := List.mem_singleton.1 hz
                exact ⟨sa, fun w hw => by have := sb w hw; simp only; omega⟩) with ⟨e, p, h⟩ | ⟨N, e, h1, h2⟩
          · refine .inl ⟨e, p, ?_⟩
            have := hA.range p
            have := hB.range p
            split at h <;> split at h <;> omega
          · refine .inr ⟨N, e, by simp at h1 ⊢; omega, h2.congr fun p => ?_⟩
            have h3 := tl_le hA p
            have h4 := tl_le hB p
            rw [← exy] at h4
            by_cases e : p = x.1
            · have e' : x.1 = p := e.symm
              simp only [if_pos e, if_pos e'] at h3 h4 ⊢; rw [if_pos (by rw [← exy]; exact e)]; omega
            · have e' : ¬ x.1 = p := fun h => e h.symm
              simp only [if_neg e, if_neg e'] at h3 h4 ⊢; rw [if_neg (by rw [← exy]; exact e)]; omega
        · rw [if_neg g]
          refine .inl ⟨rfl, x.1, ?_⟩
          have h1 := hx.1
          have h2 := hy.1
          rw [← exy] at h2
          have : ¬ x.2 + y.2 < 18446744073709551616 := fun h => g (gi.2 h)
          omega
/-- what dense lays -/
theorem dnGo_get (q : Int) : ∀ (L : List Pl) (c : List Int) (j : Nat), L.Pairwise (fun a b => a.1 < b.1) → (∀ x ∈ L, q ≤ x.1 ∧ (x.1 - q).toNat < c.length) →
    ((∀ x ∈ L, x.1 ≠ q + j) → (dnGo q L c).getD j 0 = c.getD j 0) ∧ (∀ x ∈ L, x.1 = q + j → (dnGo q L c).getD j 0 = x.2)
  | [], c, j, _, _ => ⟨fun _ => rfl, fun x hx => by cases hx⟩
  | x :: L, c, j, hs, hr => by
    have hs' := List.pairwise_cons.1 hs
    have ih := dnGo_get q L (c.set (x.1 - q).toNat x.2) j hs'.2 fun y hy => by rw [List.length_set]; exact hr y (List.mem_cons_of_mem _ hy)
    have hx := hr x List.mem_cons_self
    rw [dnGo]
    refine ⟨fun h => ?_, fun y hy e => ?_⟩
    · rw [ih.1 fun y hy => h y (List.mem_cons_of_mem _ hy), getD_set _ _ _ _ hx.2, if_neg (by have := h x List.mem_cons_self; omega)]
    · rcases List.mem_cons.1 hy with rfl | hy
      · rw [ih.1 fun z hz => by have := hs'.1 z hz; omega, getD_set _ _ _ _ hx.2, if_pos (by omega)]
      · exact ih.2 y hy e
end Sx
/-! Plain: in whatever order. -/
namespace Sx
open Go Go.Proofs
set_option linter.unusedVariables false
set_option maxRecDepth 30000
theorem hBadL_iff : ∀ {l m : List Int} (bad : Bool), l.length = m.length → R64 l → R64 m → (hBadL l m bad = false ↔ bad = false ∧ ∀ i, l.getD i 0 + m.getD i 0 < 18446744073709551616)
  | [], [], bad, _, _, _ => by rw [hBadL_nil]; simp
  | [], _ :: _, _, h, _, _ => by simp at h
  | _ :: _, [], _, h, _, _ => by simp at h
  | x :: l, y :: m, bad, h, hl, hm => by
    have hx := hl x List.mem_cons_self
    have hy := hm y List.mem_cons_self
    rw [hBadL, hBadL_iff _ (by simpa using h) (fun z hz => hl z (List.mem_cons_of_mem _ hz)) (fun z hz => hm z (List.mem_cons_of_mem _ hz)), Bool.or_eq_false_iff, decide_eq_false_iff_not, wrap_lt hx hy]
    constructor
    · rintro ⟨⟨h1, h2⟩, h3⟩
      refine ⟨h1, fun i => ?_⟩
      cases i with
      | zero => simp only [List.getD_cons_zero]; omega
      | succ i => exact h3 i
    · rintro ⟨h1, h2⟩
      exact ⟨⟨h1, by have := h2 0; simp only [List.getD_cons_zero] at this; omega⟩, fun i => h2 (i + 1)⟩
theorem hZip_get : ∀ {l m : List Int} (i : Nat), l.length = m.length → (hZip l m).getD i 0 = x64 (l.getD i 0 + m.getD i 0)
  | [], [], i, _ => by simp [hZip]; decide
  | [], _ :: _, _, h => by simp at h
  | _ :: _, [], _, h => by simp at h
  | x :: l, y :: m, 0, h => rfl
  | x :: l, y :: m, i + 1, h => hZip_get i (by simpa using h)
theorem hZip_r (l m : List Int) : R64 (hZip l m) := by
  intro x hx
  unfold hZip at hx
  obtain ⟨i, hi, rfl⟩ := List.getElem_of_mem hx
  rw [List.getElem_zipWith]
  exact x64_r _
theorem ext_getD {l m : List Int} (h : l.length = m.length) (hg : ∀ i, l.getD i 0 = m.getD i 0) : l = m := by
  refine List.ext_getElem h fun i i1 i2 => ?_
  have := hg i
  rw [List.getD_eq_getElem?_getD, List.getD_eq_getElem?_getD, List.getElem?_eq_getElem i1, List.getElem?_eq_getElem i2] at this
  exact this
def histO (a b : HistD) : Bool := unlikeB a b || hBad a b
structure HR (a : HistD) : Prop where
  r : R64 a.cs
  ct : 0 ≤ a.count ∧ a.count < 18446744073709551616
theorem hBad_iff {a b : HistD} (hA : HR a) (hB : HR b) (h : a.cs.length = b.cs.length) : hBad a b = false ↔ a.count + b.count < 18446744073709551616 ∧ ∀ i, a.cs.getD i 0 + b.cs.getD i 0 < 18446744073709551616 := by
  unfold hBad
  rw [hBadL_iff _ h hA.r hB.r, Bool.false_or, decide_eq_false_iff_not, wrap_lt hA.ct hB.ct]
  constructor
  · rintro ⟨h1, h2⟩; exact ⟨by omega, h2⟩
  · rintro ⟨h1, h2⟩; exact ⟨by omega, h2⟩
theorem HR.add {a b : HistD} (z : Int) : HR (histE a b z) := ⟨hZip_r _ _, x64_r _⟩
theorem like_iff {a b : HistD} : unlikeB a b = false ↔ a.cs.length = b.cs.length ∧ a.bs = b.bs := by
  constructor
  · exact unlike_len
  · rintro ⟨h1, h2⟩
    unfold unlikeB
    rw [h1, h2]; simp
/-- histograms added: (a + b) + c, a + (b + c) -/
theorem hist_assoc {a b c : HistD} {z z' : Int} (hA : HR a) (hB : HR b) (hC : HR c) (h1 : histO a b = false) (h2 : histO b c = false) :
    histO (histE a b z) c = histO a (histE b c z') ∧ (histO (histE a b z) c = false → hZip (histE a b z).cs c.cs = hZip a.cs (histE b c z').cs ∧ x64 ((histE a b z).count + c.count) = x64 (a.count + (histE b c z').count)) := by
  unfold histO at h1 h2
  rw [Bool.or_eq_false_iff] at h1 h2
  obtain ⟨u1, k1⟩ := h1
  obtain ⟨u2, k2⟩ := h2
  obtain ⟨l1, s1⟩ := like_iff.1 u1
  obtain ⟨l2, s2⟩ := like_iff.1 u2
  have kk1 := (hBad_iff hA hB l1).1 k1
  have kk2 := (hBad_iff hB hC l2).1 k2
  have lP : (histE a b z).cs.length = b.cs.length := hZip_len _ _ l1
  have lR : (histE b c z').cs.length = c.cs.length := hZip_len _ _ l2
  have uP : unlikeB (histE a b z) c = false := like_iff.2 ⟨by omega, s2⟩
  have uR : unlikeB a (histE b c z') = false := like_iff.2 ⟨by omega, s1.trans s2⟩
  have cP : (histE a b z).count = a.count + b.count := x64_eq ⟨by have := hA.ct; have := hB.ct; omega, kk1.1⟩
  have cR : (histE b c z').count = b.count + c.count := x64_eq ⟨by have := hB.ct; have := hC.ct; omega, kk2.1⟩
  have gP : ∀ i, (histE a b z).cs.getD i 0 = a.cs.getD i 0 + b.cs.getD i 0 := fun i => (hZip_get i l1).trans (x64_eq ⟨by have := getD_r hA.r i; have := getD_r hB.r i; omega, kk1.2 i⟩)
  have gR : ∀ i, (histE b c z').cs.getD i 0 = b.cs.getD i 0 + c.cs.getD i 0 := fun i => (hZip_get i l2).trans (x64_eq ⟨by have := getD_r hB.r i; have := getD_r hC.r i; omega, kk2.2 i⟩)
  have iP := hBad_iff (HR.add (a := a) (b := b) z) hC (by omega)
  have iR := hBad_iff hA (HR.add (a := b) (b := c) z') (by omega)
  have same : hBad (histE a b z) c = false ↔ hBad a (histE b c z') = false := by
    rw [iP, iR, cP, cR]
    constructor
    · rintro ⟨q1, q2⟩
      exact ⟨by omega, fun i => by have := q2 i; rw [gP] at this; rw [gR]; omega⟩
    · rintro ⟨q1, q2⟩
      exact ⟨by omega, fun i => by have := q2 i; rw [gR] at this; rw [gP]; omega⟩
  refine ⟨?_, fun h => ?_⟩
  · unfold histO
    rw [uP, uR, Bool.false_or, Bool.false_or]
    cases h3 : hBad (histE a b z) c with
    | false => exact (same.1 h3).symm
    | true =>
      cases h4 : hBad a (histE b c z') with
      | true => rfl
      | false => rw [same.2 h4] at h3; cases h3
  · refine ⟨ext_getD ?_ fun i => ?_, by rw [cP, cR, Int.add_assoc]⟩
    · rw [hZip_len _ _ (by omega), hZip_len _ _ (by omega), lR]
    · rw [hZip_get i (by omega), hZip_get i (by omega), gP, gR, Int.add_assoc]
theorem downGo_flag (f : Int) (n : Nat) : ∀ (l : List Int) (i : Nat) (c : List Int) (bad : Bool), downGo f n i l c bad = ((downGo f n i l c false).1, bad || (downGo f n i l c false).2)
  | [], _, _, bad => by simp [downGo]
  | x :: l, i, c, bad => by
    rw [downGo, downGo_flag f n l, downGo, downGo_flag f n l (i + 1) _ (false || _)]
    simp [Bool.or_assoc]
theorem downL_flag (f : Int) (l : List Int) (n : Nat) (bad : Bool) : downL f l n bad = ((downL f l n false).1, (downL f l n false).2.1, bad || (downL f l n false).2.2) := by
  unfold downL
  split
  · simp
  · rw [downGo_flag]
/-- one side of two, shifted and added -/
theorem oneSide_sem {s t : Int × List Int} {x y : Nat} {bad : Bool} :
    ((oneSide s t x y bad).2.2 = false ↔ bad = false ∧ (downL s.1 s.2 x false).2.2 = false ∧ (downL t.1 t.2 y false).2.2 = false ∧ ∀ p, sAt (downL s.1 s.2 x false).1 (downL s.1 s.2 x false).2.1 p + sAt (downL t.1 t.2 y false).1 (downL t.1 t.2 y false).2.1 p < 18446744073709551616) ∧
    ((oneSide s t x y bad).2.2 = false → ∀ p, sAt (oneSide s t x y bad).1 (oneSide s t x y bad).2.1 p = sAt (downL s.1 s.2 x false).1 (downL s.1 s.2 x false).2.1 p + sAt (downL t.1 t.2 y false).1 (downL t.1 t.2 y false).2.1 p) := by
  have h := addL_sem (f := (downL s.1 s.2 x false).1) (g := (downL t.1 t.2 y false).1) (downL_r s.1 s.2 x false) (downL_r t.1 t.2 y false) ((bad || (downL s.1 s.2 x false).2.2) || (downL t.1 t.2 y false).2.2)
  unfold oneSide
  rw [downL_flag s.1 s.2 x bad, downL_flag t.1 t.2 y _]
  simp only
  refine ⟨?_, h.2⟩
  rw [h.1, Bool.or_eq_false_iff, Bool.or_eq_false_iff, and_assoc, and_assoc]
theorem oneSide_swap {s t : Int × List Int} {x y : Nat} {bad : Bool} : ((oneSide s t x y bad).2.2 = (oneSide t s y x bad).2.2) ∧
    ((oneSide s t x y bad).2.2 = false → ∀ p, sAt (oneSide s t x y bad).1 (oneSide s t x y bad).2.1 p = sAt (oneSide t s y x bad).1 (oneSide t s y x bad).2.1 p) := by
  have a := oneSide_sem (s := s) (t := t) (x := x) (y := y) (bad := bad)
  have b := oneSide_sem (s := t) (t := s) (x := y) (y := x) (bad := bad)
  have e : (oneSide s t x y bad).2.2 = false ↔ (oneSide t s y x bad).2.2 = false := by
    rw [a.1, b.1]
    constructor
    · rintro ⟨h1, h2, h3, h4⟩; exact ⟨h1, h3, h2, fun p => by rw [Int.add_comm]; exact h4 p⟩
    · rintro ⟨h1, h2, h3, h4⟩; exact ⟨h1, h3, h2, fun p => by rw [Int.add_comm]; exact h4 p⟩
  refine ⟨?_, fun h p => by rw [a.2 h, b.2 (e.1 h), Int.add_comm]⟩
  cases h1 : (oneSide s t x y bad).2.2 with
  | false => exact (e.1 h1).symm
  | true =>
    cases h2 : (oneSide t s y x bad).2.2 with
    | true => rfl
    | false => rw [e.2 h2] at h1; cases h1
theorem wideV_swap (s t : Int × List Int) (x y : Nat) : wideV s t x y = wideV t s y x := by
  unfold wideV
  cases s.2 with
  | nil => cases t.2 <;> rfl
  | cons a r => cases t.2 with
    | nil => rfl
    | cons b q => simp only; split <;> split <;> split <;> split <;> omega
theorem shGo_swap (p1 p2 n1 n2 : Int × List Int) (most : Int) : ∀ (k : Nat) (x y s : Int) (d : Nat), shGo p2 p1 n2 n1 most k y x s d = (shGo p1 p2 n1 n2 most k x y s d).map fun r => (r.2.1, r.1, r.2.2)
  | 0, _, _, _, _ => rfl
  | k + 1, x, y, s, d => by
    rw [shGo, shGo, wideV_swap p2 p1, wideV_swap n2 n1, shGo_swap p1 p2 n1 n2 most k]
    have e : (if x > y then x else y) = (if y > x then y else x) := by split <;> split <;> omega
    rw [e]
    generalize (if y > x then y else x) = mx
    by_cases h1 : most < 1 ∨ most > 320 ∨ mx > 31 ∨ (0 < d ∧ s < -10)
    · rw [if_pos h1, if_pos h1]; rfl
    · rw [if_neg h1, if_neg h1]
      by_cases h2 : wideV p1 p2 x.toNat y.toNat ≤ most ∧ wideV n1 n2 x.toNat y.toNat ≤ most
      · rw [if_pos h2, if_pos h2]; rfl
      · rw [if_neg h2, if_neg h2]
theorem lesser_comm (a b : Int) : lesser a b = lesser b a := by unfold lesser; split <;> split <;> omega
theorem shV_swap (a b : ExpD) (most : Int) : shV b a most = (shV a b most).map fun r => (r.2.1, r.1, r.2.2) := by
  unfold shV
  rw [lesser_comm b.scale a.scale, shGo_swap]
theorem cntBad_swap {a b : ExpD} (ca : 0 ≤ a.count ∧ a.count < 18446744073709551616) (cb : 0 ≤ b.count ∧ b.count < 18446744073709551616) (za : 0 ≤ a.zero ∧ a.zero < 18446744073709551616) (zb : 0 ≤ b.zero ∧ b.zero < 18446744073709551616) : cntBad a b = cntBad b a := by
  unfold cntBad
  have e1 : decide (x64 (a.count + b.count) < a.count) = decide (x64 (b.count + a.count) < b.count) := decide_eq_decide.2 (by rw [wrap_lt ca cb, wrap_lt cb ca, Int.add_comm])
  have e2 : decide (x64 (a.zero + b.zero) < a.zero) = decide (x64 (b.zero + a.zero) < b.zero) := decide_eq_decide.2 (by rw [wrap_lt za zb, wrap_lt zb za, Int.add_comm])
  rw [e1, e2]
theorem side_swap {f g : Int} {l m : List Int} (h1 : -2147483648 ≤ f ∧ f < 2147483648) (h2 : l.length ≤ 1500) (h3 : -2147483648 ≤ g ∧ g < 2147483648) (h4 : m.length ≤ 1500) (rl : R64 l) (rm : R64 m) {x y : Nat} {bad : Bool} {most : Int} (hm : most ≤ 320)
    (hw : wideV (trim f l) (trim g m) x y ≤ most) (h : (oneSide (trim f l) (trim g m) x y bad).2.2 = false) :
    trim (oneSide (trim f l) (trim g m) x y bad).1 (oneSide (trim f l) (trim g m) x y bad).2.1 = trim (oneSide (trim g m) (trim f l) y x bad).1 (oneSide (trim g m) (trim f l) y x bad).2.1 := by
  have sw := oneSide_swap (s := trim f l) (t := trim g m) (x := x) (y := y) (bad := bad)
  have k := side_ok h1 h2 h3 h4 rl rm h
  have k' := side_ok h3 h4 h1 h2 rm rl (sw.1.symm.trans h)
  have e := sw.2 h
  have len := k.len
  have len' := k'.len
  rw [wideV_swap] at len'
  have lo := k.lo
  have hi := k.hi
  have lo' := k'.lo
  have hi' := k'.hi
  clear k k' sw h
  generalize oneSide (trim f l) (trim g m) x y bad = u at *
  generalize oneSide (trim g m) (trim f l) y x bad = v at *
  refine canon (trim_tight (by omega) (by omega)) (trim_tight (by omega) (by omega)) fun p => ?_
  rw [trim_at (by omega) (by omega), trim_at (by omega) (by omega)]
  exact e p
def Side (s : Int × List Int) : Prop := ∃ f l, s = trim f l ∧ (-2147483648 ≤ f ∧ f < 2147483648) ∧ l.length ≤ 1500 ∧ R64 l
theorem side_swap' {s t : Int × List Int} (hs : Side s) (ht : Side t) {x y : Nat} {bad : Bool} {most : Int} (hm : most ≤ 320) (hw : wideV s t x y ≤ most) (h : (oneSide s t x y bad).2.2 = false) :
    trim (oneSide s t x y bad).1 (oneSide s t x y bad).2.1 = trim (oneSide t s y x bad).1 (oneSide t s y x bad).2.1 := by
  obtain ⟨f, l, rfl, h1, h2, h3⟩ := hs
  obtain ⟨g, m, rfl, h4, h5, h6⟩ := ht
  exact side_swap h1 h2 h4 h5 h3 h6 hm hw h
theorem sdP_side {a : ExpD} (h : Fits a) (r : R64 a.cP) : Side (sdP a) := ⟨_, _, rfl, bifoff a.hasP ⟨h.2.2.1, h.2.2.2.1⟩, Nat.le_trans (side_len a.hasP a.cP) h.1, bif_r r⟩
theorem sdN_side {a : ExpD} (h : Fits a) (r : R64 a.cN) : Side (sdN a) := ⟨_, _, rfl, bifoff a.hasN ⟨h.2.2.2.2.1, h.2.2.2.2.2.1⟩, Nat.le_trans (side_len a.hasN a.cN) h.2.1, bif_r r⟩
theorem addP_def (a b : ExpD) (x y : Nat) : addP a b x y = oneSide (sdP a) (sdP b) x y (cntBad a b) := rfl
theorem addNn_def (a b : ExpD) (x y : Nat) : addNn a b x y = oneSide (sdN a) (sdN b) x y (addP a b x y).2.2 := rfl
theorem addBad_def (a b : ExpD) (x y : Nat) : addBad a b x y = ((addNn a b x y).2.2 || (bigS (addP a b x y).1 (addP a b x y).2.1 || bigS (addNn a b x y).1 (addNn a b x y).2.1)) := rfl
/-- points added: a + b, b + a -/
theorem exp_swap {a b : ExpD} {most : Int} {x y : Nat} (pA : Side (sdP a)) (nA : Side (sdN a)) (pB : Side (sdP b)) (nB : Side (sdN b)) (hc : cntBad a b = cntBad b a)
    (hm : most ≤ 320) (w1 : wideV (sdP a) (sdP b) x y ≤ most) (w2 : wideV (sdN a) (sdN b) x y ≤ most) :
    addBad a b x y = addBad b a y x ∧
    (addBad a b x y = false → trim (addP a b x y).1 (addP a b x y).2.1 = trim (addP b a y x).1 (addP b a y x).2.1 ∧ trim (addNn a b x y).1 (addNn a b x y).2.1 = trim (addNn b a y x).1 (addNn b a y x).2.1) := by
  rw [addBad_def, addBad_def, addNn_def, addNn_def b a, addP_def, addP_def b a, ← hc]
  generalize cntBad a b = bad
  generalize sdP a = p at *
  generalize sdP b = q at *
  generalize sdN a = m at *
  generalize sdN b = n at *
  have e1 := (oneSide_swap (s := p) (t := q) (x := x) (y := y) (bad := bad)).1
  rw [← e1]
  have s1 := side_swap' pA pB (bad := bad) hm w1
  generalize hb2 : (oneSide p q x y bad).2.2 = bad2 at *
  have e2 := (oneSide_swap (s := m) (t := n) (x := x) (y := y) (bad := bad2)).1
  rw [← e2]
  have s2 := side_swap' nA nB (bad := bad2) hm w2
  have k2 : (oneSide m n x y bad2).2.2 = false → bad2 = false := fun h => (oneSide_sem.1.1 h).1
  unfold bigS
  cases h : (oneSide m n x y bad2).2.2 with
  | true => simp
  | false =>
    rw [s1 (k2 h), s2 h]
    simp
end Sx
/-! Plain: a side shifted, two sides as one: the program's and the reference's. -/
namespace Sx
open Go Go.Proofs
set_option linter.unusedVariables false
set_option linter.unusedSimpArgs false
set_option maxRecDepth 30000
theorem Ds_app (f : Int) (n : Nat) : ∀ (l m : List Int) (i : Nat) (p : Int), Ds f n i (l ++ m) p = Ds f n i l p + Ds f n (i + l.length) m p
  | [], m, i, p => by simp [Ds]
  | x :: l, m, i, p => by
    rw [List.cons_append, Ds, Ds, Ds_app f n l m, List.length_cons, show i + 1 + l.length = i + (l.length + 1) by omega]; omega
theorem Ds_zero (f : Int) (n : Nat) : ∀ (l : List Int) (i : Nat) (p : Int), (∀ x ∈ l, x = 0) → Ds f n i l p = 0
  | [], _, _, _ => rfl
  | x :: l, i, p, h => by
    rw [Ds, Ds_zero f n l _ _ fun y hy => h y (List.mem_cons_of_mem _ hy), h x List.mem_cons_self]; simp
theorem Ds_shift (f : Int) (n k : Nat) : ∀ (l : List Int) (i : Nat) (p : Int), Ds f n (k + i) l p = Ds (f + k) n i l p
  | [], _, _ => rfl
  | x :: l, i, p => by
    rw [Ds, Ds, ← Ds_shift f n k l (i + 1) p, show k + i + 1 = k + (i + 1) by omega, show f + ((k + i : Nat) : Int) = f + (k : Int) + (i : Int) by omega]
theorem rep_zero {x : Int} {n : Nat} (h : x ∈ List.replicate n (0 : Int)) : x = 0 := (List.mem_replicate.1 h).2
theorem Ds_trim {f : Int} {l : List Int} (h1 : -4611686018427387904 ≤ f) (h2 : f + l.length ≤ 4611686018427387904) (n : Nat) (p : Int) : Ds (trim f l).1 n 0 (trim f l).2 p = Ds f n 0 l p := by
  rcases trim_spec l f h1 h2 with ⟨h, h0⟩ | ⟨k, m, c, h, hc, _, _, hll⟩
  · rw [h, Ds_zero f n l 0 p h0]; rfl
  · rw [h]
    subst hll
    rw [Ds_app, Ds_app, Ds_zero f n (List.replicate k 0) 0 p fun x hx => rep_zero hx, Ds_zero f n (List.replicate m 0) _ p fun x hx => rep_zero hx, List.length_replicate]
    have := Ds_shift f n k c 0 p
    rw [show 0 + k = k + 0 by omega, this]; simp
theorem Ds_before {f : Int} {n : Nat} {l : List Int} {p : Int} (h : p < shr f n) : Ds f n 0 l p = 0 := Classical.byContradiction fun hn => by
  obtain ⟨j, _, e⟩ := Ds_in f n l 0 p hn
  have := shr_mono (a := f) (b := f + ((0 + j : Nat) : Int)) n (by omega)
  omega
theorem downGo_sem (f : Int) (n : Nat) : ∀ (l : List Int) (i : Nat) (c : List Int), R64 l → R64 c → (∀ j, j < l.length → place f n (i + j) < c.length) →
    ((downGo f n i l c false).2 = false ↔ ∀ q : Nat, c.getD q 0 + Ds f n i l (shr f n + q) < 18446744073709551616) ∧
    ((downGo f n i l c false).2 = false → ∀ q : Nat, (downGo f n i l c false).1.getD q 0 = c.getD q 0 + Ds f n i l (shr f n + q))
  | [], i, c, hl, hc, hp => by
    rw [downGo]
    refine ⟨⟨fun _ q => by rw [Ds]; have := (getD_r hc q).2; omega, fun _ => rfl⟩, fun _ q => by rw [Ds]; show c.getD q 0 = _; omega⟩
  | x :: l, i, c, hl, hc, hp => by
    have hx := hl.hd
    have hp0 := hp 0 (by simp)
    rw [Nat.add_zero] at hp0
    have hb := shr_mono (a := f) (b := f + (i : Int)) n (by omega)
    have hpl : shr f n + ((place f n i : Nat) : Int) = shr (f + i) n := by unfold place; omega
    have hcp := getD_r hc (place f n i)
    have wl := wrap_lt hcp hx
    rw [downGo, Bool.false_or]
    by_cases g : c.getD (place f n i) 0 + x < 18446744073709551616
    · rw [decide_eq_false (by omega), x64_eq (by omega)]
      have ih := downGo_sem f n l (i + 1) (c.set (place f n i) (c.getD (place f n i) 0 + x)) hl.tl (fun y hy => by
          rcases List.mem_or_eq_of_mem_set hy with hy | rfl
          · exact hc y hy
          · omega) (fun j hj => by
        have := hp (j + 1) (by simp; omega)
        simp only [List.length_set]
        rwa [show i + 1 + j = i + (j + 1) from by omega])
      have e : ∀ q : Nat, (c.set (place f n i) (c.getD (place f n i) 0 + x)).getD q 0 + Ds f n (i + 1) l (shr f n + q) = c.getD q 0 + Ds f n i (x :: l) (shr f n + q) := by
        intro q
        rw [getD_set _ _ _ _ hp0, Ds]
        by_cases e : q = place f n i
        · subst e; rw [if_pos rfl, if_pos (by omega)]; omega
        · rw [if_neg e, if_neg (by omega)]; omega
      refine ⟨⟨fun h q => by rw [← e]; exact ih.1.1 h q, fun h => ih.1.2 fun q => by rw [e]; exact h q⟩, fun h q => by rw [← e]; exact ih.2 h q⟩
    · rw [decide_eq_true (by omega), downGo_bad]
      refine ⟨⟨fun h => (by cases h), fun h => ?_⟩, fun h => by cases h⟩
      have := h (place f n i)
      rw [Ds, if_pos (by omega)] at this
      have := Ds_nn f n l (i + 1) (shr f n + ((place f n i : Nat) : Int)) hl.tl
      omega
theorem downL_sem {f : Int} {l : List Int} (h1 : -4611686018427387904 ≤ f) (h2 : f + l.length ≤ 4611686018427387904) (hl : R64 l) (n : Nat) :
    ((downL f l n false).2.2 = false ↔ ∀ p, Ds f n 0 l p < 18446744073709551616) ∧
    ((downL f l n false).2.2 = false → ∀ p, sAt (downL f l n false).1 (downL f l n false).2.1 p = Ds f n 0 l p) := by
  have ht : ∀ p, Ds (trim f l).1 n 0 (trim f l).2 p = Ds f n 0 l p := fun p => Ds_trim h1 h2 n p
  have hr : R64 (trim f l).2 := fun x hx => hl x (trim_mem hx)
  unfold downL
  generalize trim f l = t at *
  obtain ⟨g, c⟩ := t
  cases c with
  | nil => exact ⟨⟨fun _ p => by rw [← ht]; show (0 : Int) < _; decide, fun _ => rfl⟩, fun _ p => by rw [← ht, sAt_nil]; rfl⟩
  | cons a r =>
    simp only at ht hr ⊢
    have hs := downGo_sem g n (a :: r) 0 (List.replicate (wideS g (a :: r) n).toNat 0) hr (rep_r _) (fun j hj => by rw [List.length_replicate, Nat.zero_add]; exact place_lt hj)
    have e : ∀ q : Nat, (List.replicate (wideS g (a :: r) n).toNat (0 : Int)).getD q 0 + Ds g n 0 (a :: r) (shr g n + q) = Ds f n 0 l (shr g n + q) := fun q => by rw [getD_rep, ht]; omega
    have out : ∀ p, p < shr g n → Ds f n 0 l p = 0 := fun p hp => by rw [← ht]; exact Ds_before hp
    refine ⟨⟨fun h p => ?_, fun h => hs.1.2 fun q => by rw [e]; exact h _⟩, fun h p => ?_⟩
    · by_cases hp : p < shr g n
      · rw [out p hp]; decide
      · have := hs.1.1 h (p - shr g n).toNat
        rw [e, show shr g n + (((p - shr g n).toNat : Nat) : Int) = p by omega] at this
        exact this
    · unfold sAt
      by_cases hp : p < shr g n
      · rw [if_neg (by omega), out p hp]
      · rw [if_pos (by omega), hs.2 h, e, show shr g n + (((p - shr g n).toNat : Nat) : Int) = p by omega]
theorem endP_ge {L : List Pl} {F : Int → Int} (h : PlOk L F) (hne : L ≠ []) : (∃ q ∈ L, q.1 = endP L) ∧ ∀ y ∈ L, y.1 ≤ endP L := by
  obtain ⟨I, q, rfl⟩ := snoc_of hne
  unfold endP
  rw [getD_snoc]
  refine ⟨⟨q, List.mem_append_right _ List.mem_cons_self, rfl⟩, fun y hy => ?_⟩
  rcases List.mem_append.1 hy with hy | hy
  · have := (List.pairwise_append.1 h.st).2.2 y hy q List.mem_cons_self; omega
  · obtain rfl := List.mem_singleton.1 hy; exact Int.le_refl _
theorem first_le {x : Pl} {L : List Pl} {F : Int → Int} (h : PlOk (x :: L) F) : ∀ y ∈ x :: L, x.1 ≤ y.1 := fun y hy => by
  rcases List.mem_cons.1 hy with rfl | hy
  · exact Int.le_refl _
  · have := (List.pairwise_cons.1 h.st).1 y hy; omega
theorem dense_sem {x : Pl} {L : List Pl} {F : Int → Int} (h : PlOk (x :: L) F) {c : List Int} (hc : c = dnGo x.1 (x :: L) (List.replicate (endP (x :: L) - x.1 + 1).toNat 0)) :
    Tight (x.1, c) ∧ (∀ p, sAt x.1 c p = F p) ∧ ((c.length : Nat) : Int) = endP (x :: L) - x.1 + 1 := by
  obtain ⟨⟨q, hq, eq⟩, hle⟩ := endP_ge h (by simp)
  have hf := first_le h
  have hx := hle x List.mem_cons_self
  have hlen : c.length = (endP (x :: L) - x.1 + 1).toNat := by rw [hc, dnGo_len, List.length_replicate]
  have hg := fun j => dnGo_get x.1 (x :: L) (List.replicate (endP (x :: L) - x.1 + 1).toNat 0) j h.st fun y hy => by
    have := hf y hy; have := hle y hy
    rw [List.length_replicate]; omega
  rw [← hc] at hg
  have key : ∀ y ∈ x :: L, c.getD (y.1 - x.1).toNat 0 = y.2 := fun y hy => (hg _).2 y hy (by have := hf y hy; omega)
  refine ⟨.inr ⟨?_, ?_, ?_⟩, fun p => ?_, by omega⟩
  · intro e; have e : c = [] := e; rw [e] at hlen; simp at hlen; omega
  · have := key x List.mem_cons_self
    rw [Int.sub_self] at this
    simp only
    rw [show (0 : Nat) = (0 : Int).toNat from rfl, this]
    have := (h.val x List.mem_cons_self).2.1; omega
  · have := key q hq
    simp only
    rw [show c.length - 1 = (q.1 - x.1).toNat by omega, this]
    have := (h.val q hq).2.1; omega
  · unfold sAt
    by_cases hp : x.1 ≤ p
    · rw [if_pos hp]
      by_cases hk : ∃ y ∈ x :: L, y.1 = p
      · obtain ⟨y, hy, rfl⟩ := hk
        rw [key y hy]; exact (h.val y hy).1
      · rw [(hg (p - x.1).toNat).1 fun y hy e => hk ⟨y, hy, by omega⟩, getD_rep]
        exact (h.zero fun y hy e => hk ⟨y, hy, e⟩).symm
    · rw [if_neg hp]
      exact (h.hd.2.2.2 p (by omega)).symm
end Sx
/-! Plain: two sides as one: the reference's way gives what the program's gives. -/
namespace Sx
open Go Go.Proofs
set_option linter.unusedVariables false
set_option linter.unusedSimpArgs false
set_option maxRecDepth 30000
theorem pl_ok {f : Int} {n : Nat} {l : List Int} {L : List Pl} (hl : R64 l) (h : plGo f n 0 l [] = some L) : PlOk L (Ds f n 0 l) ∧ L.length ≤ l.length := by
  rcases plGo_sem f n l 0 [] _ hl PlOk.nil (fun y hy => by cases hy) with ⟨e, _⟩ | ⟨L', e, a, b⟩
  · rw [e] at h; cases h
  · rw [e] at h
    obtain rfl := Option.some.inj h
    exact ⟨b.congr fun p => by omega, by simpa using a⟩
theorem pl_none {f : Int} {n : Nat} {l : List Int} (hl : R64 l) (h : plGo f n 0 l [] = none) : ∃ p, 18446744073709551616 ≤ Ds f n 0 l p := by
  rcases plGo_sem f n l 0 [] _ hl PlOk.nil (fun y hy => by cases hy) with ⟨e, p, hp⟩ | ⟨L', e, a, b⟩
  · exact ⟨p, by omega⟩
  · rw [e] at h; cases h
theorem bo_ok {L M N : List Pl} {A B : Int → Int} (hL : PlOk L A) (hM : PlOk M B) (h : bothGo (L.length + M.length) L M [] = some N) : PlOk N (fun p => A p + B p) ∧ N.length ≤ L.length + M.length := by
  rcases bothGo_sem _ L M [] _ A B (Nat.le_refl _) PlOk.nil hL hM (fun y hy => by cases hy) with ⟨e, _⟩ | ⟨N', e, a, b⟩
  · rw [e] at h; cases h
  · rw [e] at h
    obtain rfl := Option.some.inj h
    exact ⟨b.congr fun p => by omega, by simpa using a⟩
theorem bo_none {L M : List Pl} {A B : Int → Int} (hL : PlOk L A) (hM : PlOk M B) (h : bothGo (L.length + M.length) L M [] = none) : ∃ p, 18446744073709551616 ≤ A p + B p := by
  rcases bothGo_sem _ L M [] _ A B (Nat.le_refl _) PlOk.nil hL hM (fun y hy => by cases hy) with ⟨e, h⟩ | ⟨N', e, a, b⟩
  · exact h
  · rw [e] at h; cases h
theorem Ds_near {f : Int} {n : Nat} {l : List Int} (h : InB f l) {p : Int} (hp : Ds f n 0 l p ≠ 0) : -2147485148 ≤ p ∧ p ≤ 2147485148 := by
  obtain ⟨j, h1, h2⟩ := Ds_in f n l 0 p hp
  obtain ⟨a, b, c⟩ := h
  have := shr_bound (a := f + ((0 + j : Nat) : Int)) n (m := 2147485148) (by omega) (by omega) (by omega)
  omega
theorem DnOk_of {N : List Pl} {F : Int → Int} (h : PlOk N F) (hl : N.length ≤ 3000) (hp : ∀ p, F p ≠ 0 → -2147485148 ≤ p ∧ p ≤ 2147485148) : DnOk N := by
  have key : ∀ x ∈ N, -2147485148 ≤ x.1 ∧ x.1 ≤ 2147485148 := fun x hx => hp _ (by have := h.val x hx; omega)
  cases N with
  | nil => exact ⟨hl, fun x hx => (by cases hx), by decide, by decide, by decide⟩
  | cons x L =>
    obtain ⟨⟨q, hq, e⟩, hle⟩ := endP_ge h (by simp)
    have k1 := key x List.mem_cons_self
    have k2 := key q hq
    refine ⟨hl, fun y hy => ⟨first_le h y hy, hle y hy⟩, ?_, by omega, ?_⟩
    · show -1099511627776 ≤ x.1; omega
    · show endP (x :: L) - x.1 ≤ _; omega
def sidesV (f : Int) (l : List Int) (g : Int) (m : List Int) (x y : Nat) : Option (Int × List Int) := match plGo f x 0 l [], plGo g y 0 m [] with
  | some L, some M => match bothGo (L.length + M.length) L M [] with
    | some N => if (denseV N).2 = true then some (denseV N).1 else none
    | none => none
  | _, _ => none
/-- the program's way -/
def oursV (f : Int) (l : List Int) (g : Int) (m : List Int) (x y : Nat) : Option (Int × List Int) :=
  bif (oneSide (trim f l) (trim g m) x y false).2.2 || bigS (oneSide (trim f l) (trim g m) x y false).1 (oneSide (trim f l) (trim g m) x y false).2.1 then none
  else some (trim (oneSide (trim f l) (trim g m) x y false).1 (oneSide (trim f l) (trim g m) x y false).2.1)
theorem down_trim {f : Int} {l : List Int} (h : InB f l) (n : Nat) : downL (trim f l).1 (trim f l).2 n false = downL f l n false := downL_trim ⟨h.1, h.2.1⟩ h.2.2 n false
theorem one_near {f g : Int} {l m : List Int} (hf : InB f l) (hg : InB g m) (rl : R64 l) (rm : R64 m) {x y : Nat} (h : (oneSide (trim f l) (trim g m) x y false).2.2 = false) :
    -4611686018427387904 ≤ (oneSide (trim f l) (trim g m) x y false).1 ∧ (oneSide (trim f l) (trim g m) x y false).1 + ((oneSide (trim f l) (trim g m) x y false).2.1.length : Nat) ≤ 4611686018427387904 := by
  have so := side_ok ⟨hf.1, hf.2.1⟩ hf.2.2 ⟨hg.1, hg.2.1⟩ hg.2.2 rl rm h
  have l1 := so.lo
  have l2 := so.hi
  have l3 := so.len
  have w : wideV (trim f l) (trim g m) x y ≤ 68719476736 := by
    have near : ∀ {f : Int} {l : List Int} (n : Nat), InB f l → -2147485148 ≤ (trim f l).1 ∧ (trim f l).1 ≤ 2147485148 ∧ ((trim f l).2.length ≤ 1500) := by
      intro f l n hf
      obtain ⟨a, b, c⟩ := hf
      have hl := Nat.le_trans (trim_len f l) c
      rcases trim_spec l f (by omega) (by omega) with ⟨e, _⟩ | ⟨k, j, d, e, _, _, _, hll⟩
      · rw [e]; exact ⟨by decide, by decide, by simp⟩
      · have := congrArg List.length hll
        simp only [List.length_append, List.length_replicate] at this
        rw [e] at hl ⊢
        exact ⟨by simp only; omega, by simp only; omega, hl⟩
    have n1 := near x hf
    have n2 := near y hg
    generalize trim f l = s at n1
    generalize trim g m = t at n2
    obtain ⟨s1, s2⟩ := s
    obtain ⟨t1, t2⟩ := t
    simp only at n1 n2
    have b1 := shr_bound (a := s1) x (m := 2147486648) (by omega) (by omega) (by omega)
    have b2 := shr_bound (a := t1) y (m := 2147486648) (by omega) (by omega) (by omega)
    have b3 := shr_bound (a := s1 + s2.length - 1) x (m := 2147486649) (by omega) (by omega) (by omega)
    have b4 := shr_bound (a := t1 + t2.length - 1) y (m := 2147486649) (by omega) (by omega) (by omega)
    unfold wideV hiS
    cases s2 with
    | nil => cases t2 with
      | nil => simp only; omega
      | cons b q => simp only at *; omega
    | cons a r => cases t2 with
      | nil => simp only at *; omega
      | cons b q => simp only at *; split <;> split <;> omega
  rw [l3]
  omega
theorem sides_eq {f g : Int} {l m : List Int} (hf : InB f l) (hg : InB g m) (rl : R64 l) (rm : R64 m) (x y : Nat) : sidesV f l g m x y = oursV f l g m x y := by
  have b1 : -4611686018427387904 ≤ f ∧ f + (l.length : Nat) ≤ 4611686018427387904 := by obtain ⟨a, b, c⟩ := hf; omega
  have b2 : -4611686018427387904 ≤ g ∧ g + (m.length : Nat) ≤ 4611686018427387904 := by obtain ⟨a, b, c⟩ := hg; omega
  have d1 := downL_sem b1.1 b1.2 rl x
  have d2 := downL_sem b2.1 b2.2 rm y
  have os := oneSide_sem (s := trim f l) (t := trim g m) (x := x) (y := y) (bad := false)
  have on := one_near (x := x) (y := y) hf hg rl rm
  rw [down_trim hf, down_trim hg] at os
  unfold sidesV oursV
  generalize oneSide (trim f l) (trim g m) x y false = O at os on
  obtain ⟨o, c, bd⟩ := O
  simp only at os on ⊢
  have bad1 : (∃ p, 18446744073709551616 ≤ Ds f x 0 l p) → bd = true := fun ⟨p, hp⟩ => by
    cases bd with
    | true => rfl
    | false => have := d1.1.1 (os.1.1 rfl).2.1 p; omega
  have bad2 : (∃ p, 18446744073709551616 ≤ Ds g y 0 m p) → bd = true := fun ⟨p, hp⟩ => by
    cases bd with
    | true => rfl
    | false => have := d2.1.1 (os.1.1 rfl).2.2.1 p; omega
  cases hL : plGo f x 0 l [] with
  | none => rw [bad1 (pl_none rl hL)]; rfl
  | some L =>
    cases hM : plGo g y 0 m [] with
    | none => rw [bad2 (pl_none rm hM)]; rfl
    | some M =>
      obtain ⟨oL, lL⟩ := pl_ok rl hL
      obtain ⟨oM, lM⟩ := pl_ok rm hM
      have f1 := d1.1.2 fun p => (oL.range p).2
      have f2 := d2.1.2 fun p => (oM.range p).2
      have v1 := d1.2 f1
      have v2 := d2.2 f2
      simp only
      cases hN : bothGo (L.length + M.length) L M [] with
      | none =>
        obtain ⟨p, hp⟩ := bo_none oL oM hN
        cases bd with
        | true => rfl
        | false => have := (os.1.1 rfl).2.2.2 p; rw [v1, v2] at this; omega
      | some N =>
        obtain ⟨oN, lN⟩ := bo_ok oL oM hN
        have hbd : bd = false := os.1.2 ⟨trivial, f1, f2, fun p => by rw [v1, v2]; exact (oN.range p).2⟩
        subst hbd
        have hv : ∀ p, sAt o c p = Ds f x 0 l p + Ds g y 0 m p := fun p => by rw [os.2 rfl, v1, v2]
        have nr := on rfl
        have tT := trim_tight (f := o) (l := c) nr.1 nr.2
        have tv := trim_at (f := o) (l := c) nr.1 nr.2
        simp only [Bool.false_or]
        cases N with
        | nil =>
          have e : trim o c = (0, []) := canon tT (.inl rfl) fun p => by rw [tv, hv, sAt_nil]; exact oN.none p
          unfold bigS
          rw [e]
          rfl
        | cons z Z =>
          obtain ⟨t1, t2, _⟩ := dense_sem oN (c := _) rfl
          have e := canon tT t1 fun p => by rw [tv, hv]; exact (t2 p).symm
          unfold bigS
          rw [e]
          by_cases hz : z.1 > 2147483647
          · rw [decide_eq_true hz]
            have : denseV (z :: Z) = ((0, []), false) := if_pos hz
            rw [this]; rfl
          · rw [decide_eq_false hz]
            have : denseV (z :: Z) = ((z.1, dnGo z.1 (z :: Z) (List.replicate (endP (z :: Z) - z.1 + 1).toNat 0)), true) := if_neg hz
            rw [this]; rfl
end Sx
