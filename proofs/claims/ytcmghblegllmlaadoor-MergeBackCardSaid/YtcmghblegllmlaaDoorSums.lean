/- Part of the proof: a machine of states for walks, and contracts of functions over it. Conditions: those that each theorem names. -/
import Derived.Test.YtcmghblegllmlaaDoorCon5
import Derived.Test.YtcmghblegllmlaaDoorOpening
set_option linter.unusedVariables false
set_option linter.unusedSimpArgs false
/-! Plain: totals of sides; what Exp gives is fitted. -/
namespace Sx
open Go Go.Proofs
set_option linter.unusedVariables false
set_option maxRecDepth 30000
def S (l : List Int) : Int := l.sum
theorem S_nil : S [] = 0 := rfl
theorem S_cons (a : Int) (l : List Int) : S (a :: l) = a + S l := by simp [S]
theorem S_nn {l : List Int} (h : R64 l) : 0 ≤ S l := by
  induction l with
  | nil => simp [S]
  | cons a l ih =>
    rw [S_cons]
    have := ih fun x hx => h x (List.mem_cons_of_mem _ hx)
    have := (h a List.mem_cons_self).1
    omega
theorem tot_S : ∀ (l : List Int) (n : Int), R64 l → 0 ≤ n ∧ n < 18446744073709551616 → tot n l = if n + S l < 18446744073709551616 then (n + S l, true) else (0, false)
  | [], n, _, hn => by rw [tot, S_nil, if_pos (by omega)]; simp
  | x :: l, n, hl, hn => by
    have hx := hl x List.mem_cons_self
    have hr : R64 l := fun y hy => hl y (List.mem_cons_of_mem _ hy)
    have hs := S_nn hr
    rw [tot, S_cons]
    by_cases h : n + x < 18446744073709551616
    · rw [x64_eq (by omega), decide_eq_false (by omega), cond_false, tot_S l (n + x) hr (by omega), Int.add_assoc]
    · have : x64 (n + x) = n + x - 18446744073709551616 := by
        show IntKind.u64.wrap (n + x) = _
        rw [IntKind.wrap_u64]; omega
      rw [this, decide_eq_true (by omega), cond_true, if_neg (by omega)]
theorem S_rtrim : ∀ l : List Int, S (rtrim l) = S l
  | [] => rfl
  | a :: l => by
    have ih := S_rtrim l
    rw [rtrim, S_cons]
    split
    · rename_i h
      rw [h] at ih
      split
      · rename_i h0; rw [S_nil] at *; omega
      · rw [S_cons]; omega
    · rw [S_cons]; omega
theorem S_ltrim : ∀ (l : List Int) (f : Int), S (ltrim f l).2 = S l
  | [], _ => rfl
  | a :: l, f => by
    rw [ltrim]
    split
    · rename_i h; rw [S_ltrim l, S_cons, h]; simp
    · rfl
theorem S_trim (f : Int) (l : List Int) : S (trim f l).2 = S l := by unfold trim; rw [S_ltrim, S_rtrim]
theorem S_set : ∀ (c : List Int) (p : Nat) (x : Int), p < c.length → S (c.set p (c.getD p 0 + x)) = S c + x
  | [], p, x, h => by simp at h
  | a :: c, 0, x, h => by simp [S_cons]; omega
  | a :: c, p + 1, x, h => by
    have := S_set c p x (by simpa using h)
    simp only [List.set_cons_succ, S_cons, List.getD_cons_succ] at *
    omega
theorem S_zero (n : Nat) : S (List.replicate n 0) = 0 := by
  induction n with
  | zero => rfl
  | succ n ih => rw [List.replicate_succ, S_cons, ih]; rfl
theorem getD_r {c : List Int} (h : R64 c) (p : Nat) : 0 ≤ c.getD p 0 ∧ c.getD p 0 < 18446744073709551616 := by
  by_cases hp : p < c.length
  · exact h _ (getD_mem (a := 0) hp)
  · rw [List.getD_eq_getElem?_getD, List.getElem?_eq_none (by omega)]; decide
theorem no_wrap {a x : Int} (ha : 0 ≤ a ∧ a < 18446744073709551616) (hx : 0 ≤ x ∧ x < 18446744073709551616) (h : decide (x64 (a + x) < a) = false) : x64 (a + x) = a + x := by
  have h := of_decide_eq_false h
  have e : x64 (a + x) = (a + x) % 18446744073709551616 := by
    show IntKind.u64.wrap (a + x) = _
    rw [IntKind.wrap_u64]
  rw [e] at h ⊢
  omega
theorem set_r {c : List Int} (h : R64 c) (p : Nat) (x : Int) : R64 (c.set p (x64 x)) := fun y hy => by
  rcases List.mem_or_eq_of_mem_set hy with hy | rfl
  · exact h y hy
  · exact x64_r _
theorem downGo_bad (f : Int) (n : Nat) : ∀ (l : List Int) (i : Nat) (c : List Int), (downGo f n i l c true).2 = true
  | [], _, _ => rfl
  | a :: l, i, c => by rw [downGo, Bool.true_or]; exact downGo_bad f n l _ _
theorem S_downGo (f : Int) (n : Nat) : ∀ (l : List Int) (i : Nat) (c : List Int) (bad : Bool), R64 l → R64 c → (∀ j, j < l.length → place f n (i + j) < c.length) → (downGo f n i l c bad).2 = false → S (downGo f n i l c bad).1 = S c + S l
  | [], i, c, bad, _, _, _, _ => by rw [downGo, S_nil]; simp
  | x :: l, i, c, bad, hl, hc, hp, h => by
    rw [downGo] at h ⊢
    have hx := hl x List.mem_cons_self
    have hp0 := hp 0 (by simp)
    rw [Nat.add_zero] at hp0
    cases hb : (bad || decide (x64 (c.getD (place f n i) 0 + x) < c.getD (place f n i) 0)) with
    | true => rw [hb, downGo_bad] at h; cases h
    | false =>
      rw [hb] at h
      have hb := (Bool.or_eq_false_iff.1 hb).2
      have hw := no_wrap (getD_r hc _) hx hb
      rw [S_downGo f n l (i + 1) _ false (fun y hy => hl y (List.mem_cons_of_mem _ hy)) (set_r hc _ _) (fun j hj => by
        have := hp (j + 1) (by simp; omega)
        simp only [List.length_set]
        rwa [show i + 1 + j = i + (j + 1) from by omega]) h, hw, S_set _ _ _ hp0, S_cons]
      omega
theorem place_lt {f : Int} {a : Int} {r : List Int} {n j : Nat} (hj : j < (a :: r).length) : place f n j < (wideS f (a :: r) n).toNat := by
  have h1 := shr_mono (a := f) (b := f + j) n (by omega)
  have h2 := shr_mono (a := f + j) (b := f + (a :: r).length - 1) n (by omega)
  unfold place wideS
  omega
theorem rep_r (n : Nat) : R64 (List.replicate n 0) := fun x hx => by rw [(List.mem_replicate.1 hx).2]; decide
theorem S_downL {f : Int} {l : List Int} {n : Nat} {bad : Bool} (hl : R64 l) (h : (downL f l n bad).2.2 = false) : S (downL f l n bad).2.1 = S l := by
  have ht := S_trim f l
  have hr : R64 (trim f l).2 := fun x hx => hl x (trim_mem hx)
  unfold downL at h ⊢
  generalize trim f l = t at *
  obtain ⟨g, c⟩ := t
  cases c with
  | nil => exact ht
  | cons a r =>
    simp only at h ht hr ⊢
    rw [S_downGo g n (a :: r) 0 _ bad hr (rep_r _) (fun j hj => by rw [List.length_replicate, Nat.zero_add]; exact place_lt hj) h, S_zero, ht]
    simp
theorem downL_bad {f : Int} {l : List Int} {n : Nat} {bad : Bool} (h : (downL f l n bad).2.2 = false) : bad = false := by
  cases bad with
  | false => rfl
  | true =>
    unfold downL at h
    split at h
    · exact h
    · rw [downGo_bad] at h; cases h
theorem addGo_bad (o : Nat) : ∀ (l : List Int) (i : Nat) (c : List Int), (addGo o i l c true).2 = true
  | [], _, _ => rfl
  | a :: l, i, c => by rw [addGo, Bool.true_or]; exact addGo_bad o l _ _
theorem addGo_r (o : Nat) : ∀ (l : List Int) (i : Nat) (c : List Int) (bad : Bool), R64 c → R64 (addGo o i l c bad).1
  | [], _, _, _, h => h
  | x :: l, i, c, bad, h => by rw [addGo]; exact addGo_r o l _ _ _ (set_r h _ _)
theorem S_addGo (o : Nat) : ∀ (l : List Int) (i : Nat) (c : List Int) (bad : Bool), R64 l → R64 c → o + i + l.length ≤ c.length → (addGo o i l c bad).2 = false → S (addGo o i l c bad).1 = S c + S l
  | [], i, c, bad, _, _, _, _ => by rw [addGo, S_nil]; simp
  | x :: l, i, c, bad, hl, hc, hp, h => by
    rw [addGo] at h ⊢
    have hx := hl x List.mem_cons_self
    simp only [List.length_cons] at hp
    cases hb : (bad || decide (x64 (c.getD (o + i) 0 + x) < c.getD (o + i) 0)) with
    | true => rw [hb, addGo_bad] at h; cases h
    | false =>
      rw [hb] at h
      have hb := (Bool.or_eq_false_iff.1 hb).2
      have hw := no_wrap (getD_r hc _) hx hb
      rw [S_addGo o l (i + 1) _ false (fun y hy => hl y (List.mem_cons_of_mem _ hy)) (set_r hc _ _) (by simp only [List.length_set]; omega) h, hw, S_set _ _ _ (by omega), S_cons]
      omega
theorem addL_bad {s t : Int × List Int} {bad : Bool} (h : (addL s t bad).2.2 = false) : bad = false := by
  cases bad with
  | false => rfl
  | true =>
    unfold addL at h
    split at h
    · exact h
    · exact h
    · simp only [addGo_bad] at h; cases h
theorem addL_r {s t : Int × List Int} {bad : Bool} (h1 : R64 s.2) (h2 : R64 t.2) : R64 (addL s t bad).2.1 := by
  unfold addL
  split
  · exact h2
  · exact h1
  · exact addGo_r _ _ _ _ _ (addGo_r _ _ _ _ _ (rep_r _))
theorem S_addL {s t : Int × List Int} {bad : Bool} (h1 : R64 s.2) (h2 : R64 t.2) (h : (addL s t bad).2.2 = false) : S (addL s t bad).2.1 = S s.2 + S t.2 := by
  obtain ⟨f, l⟩ := s
  obtain ⟨g, m⟩ := t
  unfold addL at h ⊢
  cases l with
  | nil => simp [S_nil]
  | cons a r =>
    cases m with
    | nil => simp [S_nil]
    | cons b q =>
      simp only at h h1 h2 ⊢
      cases hb : (addGo (f - lo2 f g).toNat 0 (a :: r) (List.replicate (addN f (a :: r) g (b :: q)).toNat 0) bad).2 with
      | true => rw [hb, addGo_bad] at h; cases h
      | false =>
        rw [hb] at h
        have hlo : lo2 f g ≤ f ∧ lo2 f g ≤ g := by unfold lo2; split <;> omega
        have hhi : f + ((a :: r).length : Nat) ≤ hi2 (f + ((a :: r).length : Nat)) (g + ((b :: q).length : Nat)) ∧ g + ((b :: q).length : Nat) ≤ hi2 (f + ((a :: r).length : Nat)) (g + ((b :: q).length : Nat)) := by unfold hi2; split <;> omega
        have e1 := S_addGo (f - lo2 f g).toNat (a :: r) 0 _ bad h1 (rep_r (addN f (a :: r) g (b :: q)).toNat) (by rw [List.length_replicate]; unfold addN; omega) hb
        rw [S_zero] at e1
        rw [S_addGo _ _ 0 _ _ h2 (addGo_r _ _ _ _ _ (rep_r _)) (by rw [addGo_len, List.length_replicate]; unfold addN; omega) h, e1]
        omega
/-- a point whose sides were laid -/
theorem lay_fitted {e : ExpD} {most : Int} {p n : Int × List Int} (m1 : 1 ≤ most) (m2 : most ≤ 320) (lP : (p.2.length : Int) ≤ most) (lN : (n.2.length : Int) ≤ most)
    (rP : R64 p.2) (rN : R64 n.2) (oP : -2147483648 ≤ p.1 ∧ p.1 ≤ 8589936092) (oN : -2147483648 ≤ n.1 ∧ n.1 ≤ 8589936092) (bP : bigS p.1 p.2 = false) (bN : bigS n.1 n.2 = false)
    (hs : -2147483648 ≤ e.scale ∧ e.scale < 2147483648) (hP : e.hasP = false → p.2 = []) (hN : e.hasN = false → n.2 = []) : Fitted (e.lay (trim p.1 p.2) (trim n.1 n.2)) most := by
  have main : ∀ {t : Int × List Int}, -2147483648 ≤ t.1 ∧ t.1 ≤ 8589936092 → (t.2.length : Int) ≤ most → bigS t.1 t.2 = false → R64 t.2 →
      (-2147483648 ≤ (trim t.1 t.2).1 ∧ (trim t.1 t.2).1 < 2147483648) ∧ Tight (trim t.1 t.2) ∧ R64 (trim t.1 t.2).2 ∧ (((trim t.1 t.2).2.length : Nat) : Int) ≤ most := by
    intro t h1 h2 h3 h4
    have hl := trim_len t.1 t.2
    have h3 : ¬ (trim t.1 t.2).1 > 2147483647 := of_decide_eq_false h3
    refine ⟨⟨?_, by omega⟩, trim_tight (by omega) (by omega), fun x hx => h4 x (trim_mem hx), by omega⟩
    rcases trim_spec t.2 t.1 (by omega) (by omega) with ⟨h, _⟩ | ⟨k, m, c, h, _⟩
    · rw [h]; decide
    · rw [h]; simp only; omega
  obtain ⟨p1, p2, p3, p4⟩ := main oP lP bP rP
  obtain ⟨q1, q2, q3, q4⟩ := main oN lN bN rN
  refine ⟨m1, m2, p4, q4, ?_, ?_, p3, q3, ?_, ?_, hs, rfl, rfl, ?_, ?_⟩
  · show Tight (w32 _, _); rw [w32_eq p1]; exact p2
  · show Tight (w32 _, _); rw [w32_eq q1]; exact q2
  · show -2147483648 ≤ w32 _ ∧ w32 _ < 2147483648; rw [w32_eq p1]; exact p1
  · show -2147483648 ≤ w32 _ ∧ w32 _ < 2147483648; rw [w32_eq q1]; exact q1
  · intro h
    show w32 (trim p.1 p.2).1 = 0 ∧ (trim p.1 p.2).2 = []
    rw [hP h]; exact ⟨rfl, rfl⟩
  · intro h
    show w32 (trim n.1 n.2).1 = 0 ∧ (trim n.1 n.2).2 = []
    rw [hN h]; exact ⟨rfl, rfl⟩
end Sx
/-! Plain: what Exp gives. -/
namespace Sx
open Go Go.Proofs
set_option linter.unusedVariables false
set_option maxRecDepth 30000
theorem downL_trim {f : Int} {l : List Int} (h1 : -2147483648 ≤ f ∧ f < 2147483648) (h2 : l.length ≤ 1500) (n : Nat) (bad : Bool) : downL (trim f l).1 (trim f l).2 n bad = downL f l n bad := by
  have ht : trim (trim f l).1 (trim f l).2 = trim f l := trim_id (trim_tight (by omega) (by omega))
  unfold downL
  rw [ht]
theorem addL_len {f g : Int} {l m : List Int} (h1 : -2147483648 ≤ f ∧ f < 2147483648) (h2 : l.length ≤ 1500) (h3 : -2147483648 ≤ g ∧ g < 2147483648) (h4 : m.length ≤ 1500) (x y : Nat) (bd bd' bad : Bool) :
    (((addL ((downL f l x bd).1, (downL f l x bd).2.1) ((downL g m y bd').1, (downL g m y bd').2.1) bad).2.1.length : Nat) : Int) = wideV (trim f l) (trim g m) x y := by
  unfold downL wideV
  generalize trim f l = s
  generalize trim g m = t
  obtain ⟨f, l⟩ := s
  obtain ⟨g, m⟩ := t
  have pos : ∀ (f : Int) (a : Int) (r : List Int) (n : Nat), 1 ≤ wideS f (a :: r) n := by
    intro f a r n
    have := shr_mono (a := f) (b := f + (a :: r).length - 1) n (by simp only [List.length_cons]; omega)
    unfold wideS; omega
  have ne : ∀ (f : Int) (a : Int) (r : List Int) (n : Nat) (bd : Bool), ∃ c q, (downGo f n 0 (a :: r) (List.replicate (wideS f (a :: r) n).toNat 0) bd).1 = c :: q := by
    intro f a r n bd
    have hl : (downGo f n 0 (a :: r) (List.replicate (wideS f (a :: r) n).toNat 0) bd).1.length = (wideS f (a :: r) n).toNat := by rw [downGo_len, List.length_replicate]
    have := pos f a r n
    match hh : (downGo f n 0 (a :: r) (List.replicate (wideS f (a :: r) n).toNat 0) bd).1, hl with
    | [], hl => simp at hl; omega
    | c :: q, _ => exact ⟨c, q, rfl⟩
  have ln : ∀ (f : Int) (a : Int) (r : List Int) (n : Nat) (bd : Bool), (((downGo f n 0 (a :: r) (List.replicate (wideS f (a :: r) n).toNat 0) bd).1.length : Nat) : Int) = wideS f (a :: r) n := by
    intro f a r n bd
    have := pos f a r n
    rw [downGo_len, List.length_replicate]; omega
  cases l with
  | nil =>
    cases m with
    | nil => simp [addL]
    | cons b q =>
      simp only [addL, ln]
      rfl
  | cons a r =>
    cases m with
    | nil =>
      obtain ⟨c, q, e⟩ := ne f a r x bd
      have hl := ln f a r x bd
      rw [e] at hl
      simp only [addL, e]
      exact hl
    | cons b q =>
      obtain ⟨c, p, e⟩ := ne f a r x bd
      obtain ⟨c', p', e'⟩ := ne g b q y bd'
      have hl := ln f a r x bd
      have hl' := ln g b q y bd'
      have h1 := pos f a r x
      have h2 := pos g b q y
      rw [e] at hl
      rw [e'] at hl'
      simp only [addL, e, e', addGo_len, List.length_replicate, addN]
      rw [hl, hl']
      unfold wideS at *
      unfold hi2 lo2 hiS
      split <;> split <;> split <;> omega
structure SideOk (f : Int) (l : List Int) (g : Int) (m : List Int) (x y : Nat) (bad : Bool) (P : Int × List Int × Bool) : Prop where
  bad : bad = false
  sum : S P.2.1 = S l + S m
  r : R64 P.2.1
  lo : -2147483648 ≤ P.1
  hi : P.1 ≤ 8589936092
  len : (P.2.1.length : Int) = wideV (trim f l) (trim g m) x y
  no : l = [] → m = [] → P.2.1 = []
theorem side_ok {f g : Int} {l m : List Int} (h1 : -2147483648 ≤ f ∧ f < 2147483648) (h2 : l.length ≤ 1500) (h3 : -2147483648 ≤ g ∧ g < 2147483648) (h4 : m.length ≤ 1500) (rl : R64 l) (rm : R64 m) {x y : Nat} {bad : Bool}
    (h : (oneSide (trim f l) (trim g m) x y bad).2.2 = false) : SideOk f l g m x y bad (oneSide (trim f l) (trim g m) x y bad) := by
  unfold oneSide at h ⊢
  rw [downL_trim h1 h2, downL_trim h3 h4] at h ⊢
  have k1 := addL_bad h
  have k2 := downL_bad k1
  have k3 := downL_bad k2
  have s1 := S_downL rl k2
  have s2 := S_downL rm k1
  have r1 := downL_r f l x bad
  have r2 := downL_r g m y (downL f l x bad).2.2
  have o1 := downL_off (n := x) (bad := bad) h1 h2
  have o2 := downL_off (n := y) (bad := (downL f l x bad).2.2) h3 h4
  refine ⟨k3, ?_, addL_r r1 r2, ?_, ?_, addL_len h1 h2 h3 h4 _ _ _ _ _, ?_⟩
  · rw [S_addL r1 r2 h, s1, s2]
  · unfold addL lo2
    split
    · exact o2.1
    · exact o1.1
    · simp only; split <;> omega
  · unfold addL lo2
    split
    · simp only; omega
    · simp only; omega
    · simp only; split <;> omega
  · intro e1 e2
    subst e1 e2
    rfl
theorem bif_r {h : Bool} {l : List Int} (hl : R64 l) : R64 (bif h then l else []) := by
  cases h
  · intro x hx; cases hx
  · exact hl
theorem lesser_le (a b : Int) : lesser a b ≤ a ∧ lesser a b ≤ b ∧ (lesser a b = a ∨ lesser a b = b) := by unfold lesser; split <;> omega
structure AddOk (a b : ExpD) (most : Int) (u : ExpD) : Prop where
  fit : Fitted u most
  sA : u.scale ≤ a.scale
  sB : u.scale ≤ b.scale
  sumP : S u.cP = S (bif a.hasP then a.cP else []) + S (bif b.hasP then b.cP else [])
  sumN : S u.cN = S (bif a.hasN then a.cN else []) + S (bif b.hasN then b.cN else [])
  cnt : u.count = a.count + b.count
  zer : u.zero = a.zero + b.zero
theorem add_ok' {a b : ExpD} {most z : Int} {r : Int × Int × Int} (hA : Fits a) (hB : Fits b) (ca : 0 ≤ a.count ∧ a.count < 18446744073709551616) (cb : 0 ≤ b.count ∧ b.count < 18446744073709551616) (za : 0 ≤ a.zero ∧ a.zero < 18446744073709551616) (zb : 0 ≤ b.zero ∧ b.zero < 18446744073709551616)
    (ra : R64 a.cP) (ra' : R64 a.cN) (rb : R64 b.cP) (rb' : R64 b.cN)
    (hr : shV a b most = some r) (hb : addBad a b r.1.toNat r.2.1.toNat = false) : AddOk a b most (addE a b r.1.toNat r.2.1.toNat r.2.2 z) := by
  obtain ⟨f1, f2, f3, f4, f5, f6, f7, f8⟩ := hA
  obtain ⟨g1, g2, g3, g4, g5, g6, g7, g8⟩ := hB
  have le := lesser_le a.scale b.scale
  unfold shV at hr
  obtain ⟨j, b1, rfl, b3, b4, b5, b6, b7, b8, b9, _⟩ := shGo_spec hr
  generalize a.scale - lesser a.scale b.scale + (j : Int) = x at *
  generalize b.scale - lesser a.scale b.scale + (j : Int) = y at *
  simp only at hb ⊢
  unfold addBad at hb
  simp only [Bool.or_eq_false_iff] at hb
  obtain ⟨hN, bP, bN⟩ := hb
  have oPa := bifoff a.hasP ⟨f3, f4⟩
  have oNa := bifoff a.hasN ⟨f5, f6⟩
  have lPa := Nat.le_trans (side_len a.hasP a.cP) f1
  have lNa := Nat.le_trans (side_len a.hasN a.cN) f2
  have oPb := bifoff b.hasP ⟨g3, g4⟩
  have oNb := bifoff b.hasN ⟨g5, g6⟩
  have lPb := Nat.le_trans (side_len b.hasP b.cP) g1
  have lNb := Nat.le_trans (side_len b.hasN b.cN) g2
  have kN := side_ok oNa lNa oNb lNb (bif_r ra') (bif_r rb') hN
  have kP := side_ok oPa lPa oPb lPb (bif_r ra) (bif_r rb) kN.bad
  have hc := kP.bad
  unfold cntBad at hc
  simp only [Bool.false_or, Bool.or_eq_false_iff] at hc
  have hs : -2147483648 ≤ lesser a.scale b.scale - (j : Int) ∧ lesser a.scale b.scale - (j : Int) < 2147483648 := by
    by_cases hj : j = 0
    · subst hj; omega
    · have := b7 (by omega); omega
  have lenP := kP.len
  have lenN := kN.len
  have fit := lay_fitted (e := { b with start := a.start, scale := w32 (lesser a.scale b.scale - (j : Int)), count := x64 (a.count + b.count), zero := x64 (a.zero + b.zero), sumH := a.sumH && b.sumH, sum := z, minH := a.minH && b.minH, min := bif a.minH && b.minH then minV a.min b.min else 0, maxH := a.maxH && b.maxH, max := bif a.maxH && b.maxH then maxV a.max b.max else 0, hasP := a.hasP || b.hasP, hasN := a.hasN || b.hasN })
    (p := ((addP a b x.toNat y.toNat).1, (addP a b x.toNat y.toNat).2.1)) (n := ((addNn a b x.toNat y.toNat).1, (addNn a b x.toNat y.toNat).2.1)) b3 b4 (Int.le_trans (Int.le_of_eq kP.len) b8) (Int.le_trans (Int.le_of_eq kN.len) b9) kP.r kN.r ⟨kP.lo, kP.hi⟩ ⟨kN.lo, kN.hi⟩ bP bN
    (by simp only; rw [w32_eq hs]; exact hs) (fun h => by
      simp only [Bool.or_eq_false_iff] at h
      exact kP.no (by rw [h.1]; rfl) (by rw [h.2]; rfl)) (fun h => by
      simp only [Bool.or_eq_false_iff] at h
      exact kN.no (by rw [h.1]; rfl) (by rw [h.2]; rfl))
  refine ⟨fit, ?_, ?_, ?_, ?_, no_wrap ca cb hc.1, no_wrap za zb hc.2⟩
  · show w32 (lesser a.scale b.scale - (j : Int)) ≤ a.scale; rw [w32_eq hs]; omega
  · show w32 (lesser a.scale b.scale - (j : Int)) ≤ b.scale; rw [w32_eq hs]; omega
  · show S (trim _ _).2 = _; rw [S_trim]; exact kP.sum
  · show S (trim _ _).2 = _; rw [S_trim]; exact kN.sum
end Sx
/-! The law MergeTotals: true. -/
namespace Sx
open Go Go.Proofs
set_option linter.unusedVariables false
set_option maxRecDepth 30000
variable {G : Glob}
theorem Ok.mono {f : FuncId} {g g' : List U → Out SV} (h : Ok G f g) (hm : ∀ us K, (g' us).wp K → (g us).wp K) : Ok G f g' := ⟨h.1, fun K us X w vals hk => h.2 K us X w vals (hm us K hk)⟩
structure TrimOk (l : List Int) (t : Int × List Int) : Prop where
  tight : Tight t
  sum : S t.2 = S l
  r : R64 t.2
  len : t.2.length ≤ 1500
def outW (o : Option (Int × List Int)) : Out SV := match o with
  | none => .ret (.t [noB, .c (errV 9)])
  | some t => .ret (.t [.a [I32 t.1, .d 22 (.ints t.2), St nos], .c nilV])
def Sm (f : Int) (l : List Int) : Prop := l.length ≤ 1500 ∧ R64 l ∧ -2147483648 ≤ f ∧ f < 2147483648
def downW : List U → Out SV
  | [.a [.v (.int .i32 f), .d 22 (.ints l), .v (.string s)], .c (.v (.int .i64 b))] => .need (Sm f l) (.all (Option (Int × List Int)) (fun o => ∀ t, o = some t → TrimOk l t) ⟨none, fun t h => by cases h⟩ outW)
  | _ => .fail
def trimW : List U → Out SV
  | [.a [.v (.int .i32 f), .d 22 (.ints l), .v (.string s)]] => .need (Sm f l) (.all (Option (Int × List Int)) (fun o => ∀ t, o = some t → TrimOk l t) ⟨none, fun t h => by cases h⟩ outW)
  | _ => .fail
theorem outB_W {f : Int} {l l0 : List Int} {K : SV → Prop} (h1 : -2147483648 ≤ f ∧ f ≤ 2147485148) (h2 : l.length ≤ 1500) (hr : R64 l) (hs : S l = S l0)
    (hk : ∀ o : Option (Int × List Int), (∀ t, o = some t → TrimOk l0 t) → (outW o).wp K) : (outB f l).wp K := by
  intro c hc
  cases c with
  | true => exact hk none fun t h => by cases h
  | false =>
    have hc : ¬ (trim f l).1 > 2147483647 := of_decide_eq_false hc
    have hl := trim_len f l
    have lo : -2147483648 ≤ (trim f l).1 := by
      rcases trim_spec l f (by omega) (by omega) with ⟨h, _⟩ | ⟨k, m, c, h, _⟩
      · rw [h]; decide
      · rw [h]; simp only; omega
    refine hk (some (w32 (trim f l).1, (trim f l).2)) fun t h => ?_
    obtain rfl := (Option.some.inj h).symm
    have tt := trim_tight (f := f) (l := l) (by omega) (by omega)
    refine ⟨by rw [w32_eq ⟨lo, by omega⟩]; exact tt, by rw [← hs]; exact S_trim f l, fun x hx => hr x (trim_mem hx), by simp only; omega⟩
theorem downW_ok : Ok G 12 downW := downB_ok.mono fun us K hk => by
  unfold downW at hk
  split at hk
  · rename_i f l s b
    obtain ⟨⟨h1, h2, h3, h4⟩, hk⟩ := hk
    have hw : w64 f = f := w64_eq (by omega)
    refine ⟨⟨by omega, h3, h4⟩, fun c hc => ?_⟩
    cases c with
    | true => exact hk none fun t h => by cases h
    | false =>
      refine fun c hc => ?_
      cases c with
      | true => exact hk none fun t h => by cases h
      | false =>
        have hc : (downL (w64 f) l b.toNat false).2.2 = false := hc
        show (outB (downL (w64 f) l b.toNat false).1 (downL (w64 f) l b.toNat false).2.1).wp K
        exact outB_W (downL_off (by omega) h1) (Nat.le_trans (downL_len _ _ _ _) h1) (downL_r _ _ _ _) (S_downL h2 hc) hk
  · exact hk.elim
theorem trimW_ok : Ok G 15 trimW := trimB_ok.mono fun us K hk => by
  unfold trimW at hk
  split at hk
  · rename_i f l s
    obtain ⟨⟨h1, h2, h3, h4⟩, hk⟩ := hk
    have hw : w64 f = f := w64_eq (by omega)
    exact ⟨by omega, outB_W (by omega) h1 h2 rfl hk⟩
  · exact hk.elim
def outE (p : Option ExpD × Int) : Out SV := match p.1 with
  | none => .ret (.t [.a (noE 0).cells, .c (errV p.2)])
  | some u => .ret (.t [.a u.cells, .c nilV])
structure AddW (a b : ExpD) (most : Int) (u : ExpD) : Prop where
  ok : AddOk a b most u
  start : u.start = a.start
  time : u.time = b.time
  count : u.count = x64 (a.count + b.count)
structure Good (k : Nat) (a : ExpD) : Prop where
  t : a.Typ
  c : a.Cnt
  s : a.Small
  d : DpE k a
theorem Good.fits {k : Nat} {a : ExpD} (h : Good k a) : Fits a := ⟨h.s.lP, h.s.lN, h.t.oP.1, h.t.oP.2, h.t.oN.1, h.t.oN.2, h.t.sc.1, h.t.sc.2⟩
def mexpW (k : Nat) : List U → Out SV
  | [.a la, .a lb, .c (.v (.int .i64 most))] => match asExp la, asExp lb with
    | some a, some b => .need (Good k a ∧ Good k b) (.all (Option ExpD × Int) (fun p => ∀ u, p.1 = some u → AddW a b most u) ⟨(none, 0), fun t h => by cases h⟩ outE)
    | _, _ => .fail
  | _ => .fail
theorem mexpW_ok {k : Nat} : Ok G 28 (mexpW k) := (mexp_ok (k := k)).mono fun us K hk => by
  unfold mexpW at hk
  split at hk
  · split at hk
    · rename_i la lb most _ _ a b ha hb
      obtain ⟨⟨hA, hB⟩, hk⟩ := hk
      unfold mexpS
      simp only [ha, hb]
      refine ⟨⟨hA.fits, hB.fits, hB.t.attrs, hB.d.1, hB.t.ex, hB.d.2⟩, fun c hc => ?_⟩
      cases c with
      | true => exact hk (none, 13) fun t h => by cases h
      | false =>
        refine fun o ho => ?_
        cases o with
        | none => exact hk (none, 9) fun t h => by cases h
        | some r =>
          refine ⟨?_, fun z _ c hc => ?_⟩
          · unfold shV at ho
            obtain ⟨j, b1, rfl, b3, b4, b5, b6, _⟩ := shGo_spec ho
            have := lesser_le a.scale b.scale
            simp only; omega
          · cases c with
            | true => exact hk (none, 9) fun t h => by cases h
            | false =>
              refine hk (some (addE a b r.1.toNat r.2.1.toNat r.2.2 z), 0) fun u h => ?_
              obtain rfl := Option.some.inj h
              exact ⟨add_ok' hA.fits hB.fits hA.c.ct hB.c.ct hA.c.zr hB.c.zr hA.t.rP hA.t.rN hB.t.rP hB.t.rN ho hc, rfl, rfl, rfl⟩
    · exact hk.elim
  · exact hk.elim
theorem tot_eq {l : List Int} (h : R64 l) : tot 0 l = if S l < 18446744073709551616 then (S l, true) else (0, false) := by
  have := tot_S l 0 h (by decide)
  rwa [Int.zero_add] at this
theorem nfT {p : Prop} {b : Bool} (e : b = true) (c : b = false) : p := by rw [e] at c; cases c
theorem nfF {p : Prop} {b : Bool} (e : b = false) (c : b = true) : p := by rw [e] at c; cases c
def lawTotalsS (k : Nat) : List U → Out SV
  | [.a la, .a lb, .c (.v (.int .i64 most)), .c (.v (.int .i64 by_))] => match asExp la, asExp lb with
    | some a, some b => .need (a.Typ ∧ b.Typ ∧ a.Cnt ∧ b.Cnt ∧ (a.Small → b.Small → DpE k a ∧ DpE k b)) (one (Bo true))
    | _, _ => .fail
  | _ => .fail
set_option maxHeartbeats 4000000 in
theorem lawTotals_ok {k : Nat} : Ok G1 7 (lawTotalsS k) := by
  have hS : AllSound (B [(10, .pure (normG (B []) [] firstS)), (18, .pure (normG (B []) [49] fewS)), (27, .pure (normG (B []) [22] totalS)), (12, .pure (normG (B []) [24, 3] downW)), (15, .pure (normG (B []) [24] trimW)), (28, .pure (normG (B []) [47, 47, 3] (mexpW k))), (21, .pure (normG (B []) [24] tightS))]) G1 :=
    .cons _ first_ok (.cons _ few_ok (.cons _ total_ok (.cons _ downW_ok (.cons _ trimW_ok (.cons _ mexpW_ok (.cons _ tight_ok noneS))))))
  refine okP hS Tryd.func7 rfl (by decide) fun K us hk => ?_
  unfold lawTotalsS at hk
  split at hk
  · rename_i la lb most by_
    split at hk
    · rename_i a b ha hb
      rw [asExp_eq ha, asExp_eq hb]
      refine ⟨by show 4 ≤ _; decide, ?_⟩
      obtain ⟨⟨tA, tB, cA, cB, hD⟩, hk⟩ := hk
      conv => whnf
      refine ⟨⟨tA, tB⟩, ?_⟩
      conv => whnf
      intro f hf
      have hf : f = true → a.Small ∧ b.Small := hf
      cases f with
      | false =>
        conv => whnf
        exact hk
      | true =>
        obtain ⟨sA, sB⟩ := hf rfl
        obtain ⟨dA, dB⟩ := hD sA sB
        have gA : Good k a := ⟨tA, cA, sA, dA⟩
        have gB : Good k b := ⟨tB, cB, sB, dB⟩
        conv => whnf
        refine Ask.i (fun c => by conv => whnf
                                  exact hk) (fun c1 => ?_)
        have c1 : (!a.hasP) = false := c1
        conv => whnf
        refine Ask.i (fun c => by conv => whnf
                                  exact hk) (fun c2 => ?_)
        have c2 : (!b.hasP) = false := c2
        conv => whnf
        refine Ask.i (fun c => by conv => whnf
                                  exact hk) (fun c3 => ?_)
        have c3 : (!a.hasN) = false := c3
        conv => whnf
        refine Ask.i (fun c => by conv => whnf
                                  exact hk) (fun c4 => ?_)
        have c4 : (!b.hasN) = false := c4
        have c1 : a.hasP = true := by simpa using c1
        have c2 : b.hasP = true := by simpa using c2
        conv => whnf
        refine ⟨by have := sA.lP; show a.cP.length ≤ 68719476736; omega, ?_⟩
        have eA := tot_eq tA.rP
        have eB := tot_eq tB.rP
        have nA := S_nn tA.rP
        have nB := S_nn tB.rP
        have smA : Sm a.offP a.cP := ⟨sA.lP, tA.rP, tA.oP⟩
        generalize tot 0 a.cP = tot1 at *
        obtain ⟨n1, k1⟩ := tot1
        conv => whnf
        refine ⟨by have := sB.lP; show b.cP.length ≤ 68719476736; omega, ?_⟩
        generalize tot 0 b.cP = tot2 at *
        obtain ⟨n2, k2⟩ := tot2
        cases k1 with
        | false =>
          cases k2 with
          | false =>
            conv => whnf
            refine ⟨smA, ?_⟩
            conv => whnf
            intro o1 ho1
            have ho1 : ∀ t, o1 = some t → TrimOk a.cP t := ho1
            cases o1 with
            | none =>
              conv => whnf
              refine ⟨smA, ?_⟩
              conv => whnf
              intro o2 ho2
              have ho2 : ∀ t, o2 = some t → TrimOk a.cP t := ho2
              cases o2 with
              | none =>
                conv => whnf
                refine ⟨⟨gA, gB⟩, ?_⟩
                conv => whnf
                rintro ⟨o3, er⟩ ho3
                have ho3 : ∀ u, o3 = some u → AddW a b most u := ho3
                cases o3 with
                | none =>
                  conv => whnf
                  exact hk
                | some u =>
                  conv => whnf
                  exact hk
              | some s =>
                have hs := ho2 s rfl
                conv => whnf
                refine ⟨⟨gA, gB⟩, ?_⟩
                conv => whnf
                rintro ⟨o3, er⟩ ho3
                have ho3 : ∀ u, o3 = some u → AddW a b most u := ho3
                cases o3 with
                | none =>
                  conv => whnf
                  exact hk
                | some u =>
                  conv => whnf
                  exact hk
            | some t =>
              have ht := ho1 t rfl
              conv => whnf
              refine ⟨smA, ?_⟩
              conv => whnf
              intro o2 ho2
              have ho2 : ∀ t, o2 = some t → TrimOk a.cP t := ho2
              cases o2 with
              | none =>
                conv => whnf
                refine ⟨⟨gA, gB⟩, ?_⟩
                conv => whnf
                rintro ⟨o3, er⟩ ho3
                have ho3 : ∀ u, o3 = some u → AddW a b most u := ho3
                cases o3 with
                | none =>
                  conv => whnf
                  exact hk
                | some u =>
                  conv => whnf
                  exact hk
              | some s =>
                have hs := ho2 s rfl
                conv => whnf
                refine ⟨⟨gA, gB⟩, ?_⟩
                conv => whnf
                rintro ⟨o3, er⟩ ho3
                have ho3 : ∀ u, o3 = some u → AddW a b most u := ho3
                cases o3 with
                | none =>
                  conv => whnf
                  exact hk
                | some u =>
                  conv => whnf
                  exact hk
          | true =>
            conv => whnf
            refine ⟨smA, ?_⟩
            conv => whnf
            intro o1 ho1
            have ho1 : ∀ t, o1 = some t → TrimOk a.cP t := ho1
            cases o1 with
            | none =>
              conv => whnf
              refine ⟨smA, ?_⟩
              conv => whnf
              intro o2 ho2
              have ho2 : ∀ t, o2 = some t → TrimOk a.cP t := ho2
              cases o2 with
              | none =>
                conv => whnf
                refine ⟨⟨gA, gB⟩, ?_⟩
                conv => whnf
                rintro ⟨o3, er⟩ ho3
                have ho3 : ∀ u, o3 = some u → AddW a b most u := ho3
                cases o3 with
                | none =>
                  conv => whnf
                  exact hk
                | some u =>
                  conv => whnf
                  exact hk
              | some s =>
                have hs := ho2 s rfl
                conv => whnf
                refine ⟨⟨gA, gB⟩, ?_⟩
                conv => whnf
                rintro ⟨o3, er⟩ ho3
                have ho3 : ∀ u, o3 = some u → AddW a b most u := ho3
                cases o3 with
                | none =>
                  conv => whnf
                  exact hk
                | some u =>
                  conv => whnf
                  exact hk
            | some t =>
              have ht := ho1 t rfl
              conv => whnf
              refine ⟨smA, ?_⟩
              conv => whnf
              intro o2 ho2
              have ho2 : ∀ t, o2 = some t → TrimOk a.cP t := ho2
              cases o2 with
              | none =>
                conv => whnf
                refine ⟨⟨gA, gB⟩, ?_⟩
                conv => whnf
                rintro ⟨o3, er⟩ ho3
                have ho3 : ∀ u, o3 = some u → AddW a b most u := ho3
                cases o3 with
                | none =>
                  conv => whnf
                  exact hk
                | some u =>
                  conv => whnf
                  exact hk
              | some s =>
                have hs := ho2 s rfl
                conv => whnf
                refine ⟨⟨gA, gB⟩, ?_⟩
                conv => whnf
                rintro ⟨o3, er⟩ ho3
                have ho3 : ∀ u, o3 = some u → AddW a b most u := ho3
                cases o3 with
                | none =>
                  conv => whnf
                  exact hk
                | some u =>
                  conv => whnf
                  exact hk
        | true =>
          have eA : n1 = S a.cP ∧ S a.cP < 18446744073709551616 := by
            split at eA
            · rename_i h; exact ⟨(Prod.mk.inj eA).1, h⟩
            · cases (Prod.mk.inj eA).2
          cases k2 with
          | false =>
            conv => whnf
            refine ⟨smA, ?_⟩
            conv => whnf
            intro o1 ho1
            have ho1 : ∀ t, o1 = some t → TrimOk a.cP t := ho1
            cases o1 with
            | none =>
              conv => whnf
              refine ⟨smA, ?_⟩
              conv => whnf
              intro o2 ho2
              have ho2 : ∀ t, o2 = some t → TrimOk a.cP t := ho2
              cases o2 with
              | none =>
                conv => whnf
                refine ⟨⟨gA, gB⟩, ?_⟩
                conv => whnf
                rintro ⟨o3, er⟩ ho3
                have ho3 : ∀ u, o3 = some u → AddW a b most u := ho3
                cases o3 with
                | none =>
                  conv => whnf
                  exact hk
                | some u =>
                  conv => whnf
                  exact hk
              | some s =>
                have hs := ho2 s rfl
                conv => whnf
                refine ⟨by have := hs.len; show s.2.length ≤ 68719476736; omega, ?_⟩
                have es := tot_eq hs.r
                rw [hs.sum, if_pos eA.2, ← eA.1] at es
                conv => whnf
                refine Ask.i (fun c => nfF (by rw [es]; rfl) c) (fun _ => ?_)
                conv => whnf
                refine Ask.i (fun c => by have c : ((tot 0 s.2).1 != n1) = true := c; rw [es] at c; simp at c) (fun _ => ?_)
                conv => whnf
                refine ⟨by have := hs.len; show s.2.length ≤ 68719476736; omega, ?_⟩
                conv => whnf
                refine Ask.i (fun c => by have c : (!(tightB s.1 s.2)) = true := c; rw [tight_B (f := s.1) hs.tight hs.r] at c; cases c) (fun _ => ?_)
                conv => whnf
                refine ⟨⟨gA, gB⟩, ?_⟩
                conv => whnf
                rintro ⟨o3, er⟩ ho3
                have ho3 : ∀ u, o3 = some u → AddW a b most u := ho3
                cases o3 with
                | none =>
                  conv => whnf
                  exact hk
                | some u =>
                  conv => whnf
                  exact hk
            | some t =>
              have ht := ho1 t rfl
              conv => whnf
              refine ⟨smA, ?_⟩
              conv => whnf
              intro o2 ho2
              have ho2 : ∀ t, o2 = some t → TrimOk a.cP t := ho2
              cases o2 with
              | none =>
                conv => whnf
                refine ⟨by have := ht.len; show t.2.length ≤ 68719476736; omega, ?_⟩
                have et := tot_eq ht.r
                rw [ht.sum, if_pos eA.2, ← eA.1] at et
                conv => whnf
                refine Ask.i (fun c => nfF (by rw [et]; rfl) c) (fun _ => ?_)
                conv => whnf
                refine Ask.i (fun c => by have c : ((tot 0 t.2).1 != n1) = true := c; rw [et] at c; simp at c) (fun _ => ?_)
                conv => whnf
                refine ⟨by have := ht.len; show t.2.length ≤ 68719476736; omega, ?_⟩
                conv => whnf
                refine Ask.i (fun c => by have c : (!(tightB t.1 t.2)) = true := c; rw [tight_B (f := t.1) ht.tight ht.r] at c; cases c) (fun _ => ?_)
                conv => whnf
                refine ⟨⟨gA, gB⟩, ?_⟩
                conv => whnf
                rintro ⟨o3, er⟩ ho3
                have ho3 : ∀ u, o3 = some u → AddW a b most u := ho3
                cases o3 with
                | none =>
                  conv => whnf
                  exact hk
                | some u =>
                  conv => whnf
                  exact hk
              | some s =>
                have hs := ho2 s rfl
                conv => whnf
                refine ⟨by have := ht.len; show t.2.length ≤ 68719476736; omega, ?_⟩
                have et := tot_eq ht.r
                rw [ht.sum, if_pos eA.2, ← eA.1] at et
                conv => whnf
                refine Ask.i (fun c => nfF (by rw [et]; rfl) c) (fun _ => ?_)
                conv => whnf
                refine Ask.i (fun c => by have c : ((tot 0 t.2).1 != n1) = true := c; rw [et] at c; simp at c) (fun _ => ?_)
                conv => whnf
                refine ⟨by have := ht.len; show t.2.length ≤ 68719476736; omega, ?_⟩
                conv => whnf
                refine Ask.i (fun c => by have c : (!(tightB t.1 t.2)) = true := c; rw [tight_B (f := t.1) ht.tight ht.r] at c; cases c) (fun _ => ?_)
                conv => whnf
                refine ⟨by have := hs.len; show s.2.length ≤ 68719476736; omega, ?_⟩
                have es := tot_eq hs.r
                rw [hs.sum, if_pos eA.2, ← eA.1] at es
                conv => whnf
                refine Ask.i (fun c => nfF (by rw [es]; rfl) c) (fun _ => ?_)
                conv => whnf
                refine Ask.i (fun c => by have c : ((tot 0 s.2).1 != n1) = true := c; rw [es] at c; simp at c) (fun _ => ?_)
                conv => whnf
                refine ⟨by have := hs.len; show s.2.length ≤ 68719476736; omega, ?_⟩
                conv => whnf
                refine Ask.i (fun c => by have c : (!(tightB s.1 s.2)) = true := c; rw [tight_B (f := s.1) hs.tight hs.r] at c; cases c) (fun _ => ?_)
                conv => whnf
                refine ⟨⟨gA, gB⟩, ?_⟩
                conv => whnf
                rintro ⟨o3, er⟩ ho3
                have ho3 : ∀ u, o3 = some u → AddW a b most u := ho3
                cases o3 with
                | none =>
                  conv => whnf
                  exact hk
                | some u =>
                  conv => whnf
                  exact hk
          | true =>
            have eB : n2 = S b.cP ∧ S b.cP < 18446744073709551616 := by
              split at eB
              · rename_i h; exact ⟨(Prod.mk.inj eB).1, h⟩
              · cases (Prod.mk.inj eB).2
            conv => whnf
            refine ⟨smA, ?_⟩
            conv => whnf
            intro o1 ho1
            have ho1 : ∀ t, o1 = some t → TrimOk a.cP t := ho1
            cases o1 with
            | none =>
              conv => whnf
              refine ⟨smA, ?_⟩
              conv => whnf
              intro o2 ho2
              have ho2 : ∀ t, o2 = some t → TrimOk a.cP t := ho2
              cases o2 with
              | none =>
                conv => whnf
                refine ⟨⟨gA, gB⟩, ?_⟩
                conv => whnf
                rintro ⟨o3, er⟩ ho3
                have ho3 : ∀ u, o3 = some u → AddW a b most u := ho3
                cases o3 with
                | none =>
                  conv => whnf
                  exact hk
                | some u =>
                  have hu := ho3 u rfl
                  conv => whnf
                  refine ⟨by have := hu.ok.fit.lP; have := hu.ok.fit.m2; show u.cP.length ≤ 68719476736; omega, ?_⟩
                  have eU := tot_eq hu.ok.fit.rP
                  have sU : S u.cP = S a.cP + S b.cP := by have := hu.ok.sumP; rw [c1, c2] at this; exact this
                  have lP := hu.ok.fit.lP
                  have lN := hu.ok.fit.lN
                  have m2 := hu.ok.fit.m2
                  conv => whnf
                  refine Ask.i (fun c5 => ?_) (fun c5 => ?_)
                  · skip
                    conv => whnf
                    refine Ask.i (fun _ => ?_) (fun c => absurd lP (of_decide_eq_false c))
                    conv => whnf
                    refine Ask.i (fun _ => ?_) (fun c => absurd lN (of_decide_eq_false c))
                    conv => whnf
                    refine ⟨by show u.cP.length ≤ 68719476736; omega, ?_⟩
                    conv => whnf
                    refine Ask.i (fun _ => ?_) (fun c => nfT (tight_B hu.ok.fit.tP hu.ok.fit.rP) c)
                    conv => whnf
                    refine ⟨by show u.cN.length ≤ 68719476736; omega, ?_⟩
                    conv => whnf
                    refine Ask.i (fun _ => ?_) (fun c => nfT (tight_B hu.ok.fit.tN hu.ok.fit.rN) c)
                    conv => whnf
                    refine Ask.i (fun _ => ?_) (fun c => absurd hu.ok.sA (of_decide_eq_false c))
                    conv => whnf
                    refine Ask.i (fun _ => ?_) (fun c => absurd hu.ok.sB (of_decide_eq_false c))
                    conv => whnf
                    refine Ask.i (fun _ => ?_) (fun c => by have c : (u.start == a.start) = false := c; rw [hu.start] at c; simp at c)
                    conv => whnf
                    refine Ask.i (fun _ => ?_) (fun c => by have c : (u.time == b.time) = false := c; rw [hu.time] at c; simp at c)
                    conv => whnf
                    refine fin hk (congrArg (fun z : Bool => SV.u (.c (Bo z))) (?_ : true = (u.count == x64 (a.count + b.count))))
                    rw [hu.count]; simp
                  · have c5 : ¬ x64 (n1 + n2) < n1 := of_decide_eq_false c5
                    have w : x64 (n1 + n2) = n1 + n2 := by
                      refine no_wrap ?_ ?_ (decide_eq_false c5)
                      · rw [eA.1]; exact ⟨nA, eA.2⟩
                      · rw [eB.1]; exact ⟨nB, eB.2⟩
                    have wr := x64_r (n1 + n2)
                    rw [w] at wr
                    rw [eA.1, eB.1] at wr
                    rw [sU, if_pos wr.2, ← eA.1, ← eB.1] at eU
                    conv => whnf
                    refine Ask.i (fun _ => ?_) (fun c => nfT (by rw [eU]) c)
                    conv => whnf
                    refine Ask.i (fun _ => ?_) (fun c => by have c : ((tot 0 u.cP).1 == x64 (n1 + n2)) = false := c; rw [eU, w] at c; simp at c)
                    conv => whnf
                    refine Ask.i (fun _ => ?_) (fun c => absurd lP (of_decide_eq_false c))
                    conv => whnf
                    refine Ask.i (fun _ => ?_) (fun c => absurd lN (of_decide_eq_false c))
                    conv => whnf
                    refine ⟨by show u.cP.length ≤ 68719476736; omega, ?_⟩
                    conv => whnf
                    refine Ask.i (fun _ => ?_) (fun c => nfT (tight_B hu.ok.fit.tP hu.ok.fit.rP) c)
                    conv => whnf
                    refine ⟨by show u.cN.length ≤ 68719476736; omega, ?_⟩
                    conv => whnf
                    refine Ask.i (fun _ => ?_) (fun c => nfT (tight_B hu.ok.fit.tN hu.ok.fit.rN) c)
                    conv => whnf
                    refine Ask.i (fun _ => ?_) (fun c => absurd hu.ok.sA (of_decide_eq_false c))
                    conv => whnf
                    refine Ask.i (fun _ => ?_) (fun c => absurd hu.ok.sB (of_decide_eq_false c))
                    conv => whnf
                    refine Ask.i (fun _ => ?_) (fun c => by have c : (u.start == a.start) = false := c; rw [hu.start] at c; simp at c)
                    conv => whnf
                    refine Ask.i (fun _ => ?_) (fun c => by have c : (u.time == b.time) = false := c; rw [hu.time] at c; simp at c)
                    conv => whnf
                    refine fin hk (congrArg (fun z : Bool => SV.u (.c (Bo z))) (?_ : true = (u.count == x64 (a.count + b.count))))
                    rw [hu.count]; simp
              | some s =>
                have hs := ho2 s rfl
                conv => whnf
                refine ⟨by have := hs.len; show s.2.length ≤ 68719476736; omega, ?_⟩
                have es := tot_eq hs.r
                rw [hs.sum, if_pos eA.2, ← eA.1] at es
                conv => whnf
                refine Ask.i (fun c => nfF (by rw [es]; rfl) c) (fun _ => ?_)
                conv => whnf
                refine Ask.i (fun c => by have c : ((tot 0 s.2).1 != n1) = true := c; rw [es] at c; simp at c) (fun _ => ?_)
                conv => whnf
                refine ⟨by have := hs.len; show s.2.length ≤ 68719476736; omega, ?_⟩
                conv => whnf
                refine Ask.i (fun c => by have c : (!(tightB s.1 s.2)) = true := c; rw [tight_B (f := s.1) hs.tight hs.r] at c; cases c) (fun _ => ?_)
                conv => whnf
                refine ⟨⟨gA, gB⟩, ?_⟩
                conv => whnf
                rintro ⟨o3, er⟩ ho3
                have ho3 : ∀ u, o3 = some u → AddW a b most u := ho3
                cases o3 with
                | none =>
                  conv => whnf
                  exact hk
                | some u =>
                  have hu := ho3 u rfl
                  conv => whnf
                  refine ⟨by have := hu.ok.fit.lP; have := hu.ok.fit.m2; show u.cP.length ≤ 68719476736; omega, ?_⟩
                  have eU := tot_eq hu.ok.fit.rP
                  have sU : S u.cP = S a.cP + S b.cP := by have := hu.ok.sumP; rw [c1, c2] at this; exact this
                  have lP := hu.ok.fit.lP
                  have lN := hu.ok.fit.lN
                  have m2 := hu.ok.fit.m2
                  conv => whnf
                  refine Ask.i (fun c5 => ?_) (fun c5 => ?_)
                  · skip
                    conv => whnf
                    refine Ask.i (fun _ => ?_) (fun c => absurd lP (of_decide_eq_false c))
                    conv => whnf
                    refine Ask.i (fun _ => ?_) (fun c => absurd lN (of_decide_eq_false c))
                    conv => whnf
                    refine ⟨by show u.cP.length ≤ 68719476736; omega, ?_⟩
                    conv => whnf
                    refine Ask.i (fun _ => ?_) (fun c => nfT (tight_B hu.ok.fit.tP hu.ok.fit.rP) c)
                    conv => whnf
                    refine ⟨by show u.cN.length ≤ 68719476736; omega, ?_⟩
                    conv => whnf
                    refine Ask.i (fun _ => ?_) (fun c => nfT (tight_B hu.ok.fit.tN hu.ok.fit.rN) c)
                    conv => whnf
                    refine Ask.i (fun _ => ?_) (fun c => absurd hu.ok.sA (of_decide_eq_false c))
                    conv => whnf
                    refine Ask.i (fun _ => ?_) (fun c => absurd hu.ok.sB (of_decide_eq_false c))
                    conv => whnf
                    refine Ask.i (fun _ => ?_) (fun c => by have c : (u.start == a.start) = false := c; rw [hu.start] at c; simp at c)
                    conv => whnf
                    refine Ask.i (fun _ => ?_) (fun c => by have c : (u.time == b.time) = false := c; rw [hu.time] at c; simp at c)
                    conv => whnf
                    refine fin hk (congrArg (fun z : Bool => SV.u (.c (Bo z))) (?_ : true = (u.count == x64 (a.count + b.count))))
                    rw [hu.count]; simp
                  · have c5 : ¬ x64 (n1 + n2) < n1 := of_decide_eq_false c5
                    have w : x64 (n1 + n2) = n1 + n2 := by
                      refine no_wrap ?_ ?_ (decide_eq_false c5)
                      · rw [eA.1]; exact ⟨nA, eA.2⟩
                      · rw [eB.1]; exact ⟨nB, eB.2⟩
                    have wr := x64_r (n1 + n2)
                    rw [w] at wr
                    rw [eA.1, eB.1] at wr
                    rw [sU, if_pos wr.2, ← eA.1, ← eB.1] at eU
                    conv => whnf
                    refine Ask.i (fun _ => ?_) (fun c => nfT (by rw [eU]) c)
                    conv => whnf
                    refine Ask.i (fun _ => ?_) (fun c => by have c : ((tot 0 u.cP).1 == x64 (n1 + n2)) = false := c; rw [eU, w] at c; simp at c)
                    conv => whnf
                    refine Ask.i (fun _ => ?_) (fun c => absurd lP (of_decide_eq_false c))
                    conv => whnf
                    refine Ask.i (fun _ => ?_) (fun c => absurd lN (of_decide_eq_false c))
                    conv => whnf
                    refine ⟨by show u.cP.length ≤ 68719476736; omega, ?_⟩
                    conv => whnf
                    refine Ask.i (fun _ => ?_) (fun c => nfT (tight_B hu.ok.fit.tP hu.ok.fit.rP) c)
                    conv => whnf
                    refine ⟨by show u.cN.length ≤ 68719476736; omega, ?_⟩
                    conv => whnf
                    refine Ask.i (fun _ => ?_) (fun c => nfT (tight_B hu.ok.fit.tN hu.ok.fit.rN) c)
                    conv => whnf
                    refine Ask.i (fun _ => ?_) (fun c => absurd hu.ok.sA (of_decide_eq_false c))
                    conv => whnf
                    refine Ask.i (fun _ => ?_) (fun c => absurd hu.ok.sB (of_decide_eq_false c))
                    conv => whnf
                    refine Ask.i (fun _ => ?_) (fun c => by have c : (u.start == a.start) = false := c; rw [hu.start] at c; simp at c)
                    conv => whnf
                    refine Ask.i (fun _ => ?_) (fun c => by have c : (u.time == b.time) = false := c; rw [hu.time] at c; simp at c)
                    conv => whnf
                    refine fin hk (congrArg (fun z : Bool => SV.u (.c (Bo z))) (?_ : true = (u.count == x64 (a.count + b.count))))
                    rw [hu.count]; simp
            | some t =>
              have ht := ho1 t rfl
              conv => whnf
              refine ⟨smA, ?_⟩
              conv => whnf
              intro o2 ho2
              have ho2 : ∀ t, o2 = some t → TrimOk a.cP t := ho2
              cases o2 with
              | none =>
                conv => whnf
                refine ⟨by have := ht.len; show t.2.length ≤ 68719476736; omega, ?_⟩
                have et := tot_eq ht.r
                rw [ht.sum, if_pos eA.2, ← eA.1] at et
                conv => whnf
                refine Ask.i (fun c => nfF (by rw [et]; rfl) c) (fun _ => ?_)
                conv => whnf
                refine Ask.i (fun c => by have c : ((tot 0 t.2).1 != n1) = true := c; rw [et] at c; simp at c) (fun _ => ?_)
                conv => whnf
                refine ⟨by have := ht.len; show t.2.length ≤ 68719476736; omega, ?_⟩
                conv => whnf
                refine Ask.i (fun c => by have c : (!(tightB t.1 t.2)) = true := c; rw [tight_B (f := t.1) ht.tight ht.r] at c; cases c) (fun _ => ?_)
                conv => whnf
                refine ⟨⟨gA, gB⟩, ?_⟩
                conv => whnf
                rintro ⟨o3, er⟩ ho3
                have ho3 : ∀ u, o3 = some u → AddW a b most u := ho3
                cases o3 with
                | none =>
                  conv => whnf
                  exact hk
                | some u =>
                  have hu := ho3 u rfl
                  conv => whnf
                  refine ⟨by have := hu.ok.fit.lP; have := hu.ok.fit.m2; show u.cP.length ≤ 68719476736; omega, ?_⟩
                  have eU := tot_eq hu.ok.fit.rP
                  have sU : S u.cP = S a.cP + S b.cP := by have := hu.ok.sumP; rw [c1, c2] at this; exact this
                  have lP := hu.ok.fit.lP
                  have lN := hu.ok.fit.lN
                  have m2 := hu.ok.fit.m2
                  conv => whnf
                  refine Ask.i (fun c5 => ?_) (fun c5 => ?_)
                  · skip
                    conv => whnf
                    refine Ask.i (fun _ => ?_) (fun c => absurd lP (of_decide_eq_false c))
                    conv => whnf
                    refine Ask.i (fun _ => ?_) (fun c => absurd lN (of_decide_eq_false c))
                    conv => whnf
                    refine ⟨by show u.cP.length ≤ 68719476736; omega, ?_⟩
                    conv => whnf
                    refine Ask.i (fun _ => ?_) (fun c => nfT (tight_B hu.ok.fit.tP hu.ok.fit.rP) c)
                    conv => whnf
                    refine ⟨by show u.cN.length ≤ 68719476736; omega, ?_⟩
                    conv => whnf
                    refine Ask.i (fun _ => ?_) (fun c => nfT (tight_B hu.ok.fit.tN hu.ok.fit.rN) c)
                    conv => whnf
                    refine Ask.i (fun _ => ?_) (fun c => absurd hu.ok.sA (of_decide_eq_false c))
                    conv => whnf
                    refine Ask.i (fun _ => ?_) (fun c => absurd hu.ok.sB (of_decide_eq_false c))
                    conv => whnf
                    refine Ask.i (fun _ => ?_) (fun c => by have c : (u.start == a.start) = false := c; rw [hu.start] at c; simp at c)
                    conv => whnf
                    refine Ask.i (fun _ => ?_) (fun c => by have c : (u.time == b.time) = false := c; rw [hu.time] at c; simp at c)
                    conv => whnf
                    refine fin hk (congrArg (fun z : Bool => SV.u (.c (Bo z))) (?_ : true = (u.count == x64 (a.count + b.count))))
                    rw [hu.count]; simp
                  · have c5 : ¬ x64 (n1 + n2) < n1 := of_decide_eq_false c5
                    have w : x64 (n1 + n2) = n1 + n2 := by
                      refine no_wrap ?_ ?_ (decide_eq_false c5)
                      · rw [eA.1]; exact ⟨nA, eA.2⟩
                      · rw [eB.1]; exact ⟨nB, eB.2⟩
                    have wr := x64_r (n1 + n2)
                    rw [w] at wr
                    rw [eA.1, eB.1] at wr
                    rw [sU, if_pos wr.2, ← eA.1, ← eB.1] at eU
                    conv => whnf
                    refine Ask.i (fun _ => ?_) (fun c => nfT (by rw [eU]) c)
                    conv => whnf
                    refine Ask.i (fun _ => ?_) (fun c => by have c : ((tot 0 u.cP).1 == x64 (n1 + n2)) = false := c; rw [eU, w] at c; simp at c)
                    conv => whnf
                    refine Ask.i (fun _ => ?_) (fun c => absurd lP (of_decide_eq_false c))
                    conv => whnf
                    refine Ask.i (fun _ => ?_) (fun c => absurd lN (of_decide_eq_false c))
                    conv => whnf
                    refine ⟨by show u.cP.length ≤ 68719476736; omega, ?_⟩
                    conv => whnf
                    refine Ask.i (fun _ => ?_) (fun c => nfT (tight_B hu.ok.fit.tP hu.ok.fit.rP) c)
                    conv => whnf
                    refine ⟨by show u.cN.length ≤ 68719476736; omega, ?_⟩
                    conv => whnf
                    refine Ask.i (fun _ => ?_) (fun c => nfT (tight_B hu.ok.fit.tN hu.ok.fit.rN) c)
                    conv => whnf
                    refine Ask.i (fun _ => ?_) (fun c => absurd hu.ok.sA (of_decide_eq_false c))
                    conv => whnf
                    refine Ask.i (fun _ => ?_) (fun c => absurd hu.ok.sB (of_decide_eq_false c))
                    conv => whnf
                    refine Ask.i (fun _ => ?_) (fun c => by have c : (u.start == a.start) = false := c; rw [hu.start] at c; simp at c)
                    conv => whnf
                    refine Ask.i (fun _ => ?_) (fun c => by have c : (u.time == b.time) = false := c; rw [hu.time] at c; simp at c)
                    conv => whnf
                    refine fin hk (congrArg (fun z : Bool => SV.u (.c (Bo z))) (?_ : true = (u.count == x64 (a.count + b.count))))
                    rw [hu.count]; simp
              | some s =>
                have hs := ho2 s rfl
                conv => whnf
                refine ⟨by have := ht.len; show t.2.length ≤ 68719476736; omega, ?_⟩
                have et := tot_eq ht.r
                rw [ht.sum, if_pos eA.2, ← eA.1] at et
                conv => whnf
                refine Ask.i (fun c => nfF (by rw [et]; rfl) c) (fun _ => ?_)
                conv => whnf
                refine Ask.i (fun c => by have c : ((tot 0 t.2).1 != n1) = true := c; rw [et] at c; simp at c) (fun _ => ?_)
                conv => whnf
                refine ⟨by have := ht.len; show t.2.length ≤ 68719476736; omega, ?_⟩
                conv => whnf
                refine Ask.i (fun c => by have c : (!(tightB t.1 t.2)) = true := c; rw [tight_B (f := t.1) ht.tight ht.r] at c; cases c) (fun _ => ?_)
                conv => whnf
                refine ⟨by have := hs.len; show s.2.length ≤ 68719476736; omega, ?_⟩
                have es := tot_eq hs.r
                rw [hs.sum, if_pos eA.2, ← eA.1] at es
                conv => whnf
                refine Ask.i (fun c => nfF (by rw [es]; rfl) c) (fun _ => ?_)
                conv => whnf
                refine Ask.i (fun c => by have c : ((tot 0 s.2).1 != n1) = true := c; rw [es] at c; simp at c) (fun _ => ?_)
                conv => whnf
                refine ⟨by have := hs.len; show s.2.length ≤ 68719476736; omega, ?_⟩
                conv => whnf
                refine Ask.i (fun c => by have c : (!(tightB s.1 s.2)) = true := c; rw [tight_B (f := s.1) hs.tight hs.r] at c; cases c) (fun _ => ?_)
                conv => whnf
                refine ⟨⟨gA, gB⟩, ?_⟩
                conv => whnf
                rintro ⟨o3, er⟩ ho3
                have ho3 : ∀ u, o3 = some u → AddW a b most u := ho3
                cases o3 with
                | none =>
                  conv => whnf
                  exact hk
                | some u =>
                  have hu := ho3 u rfl
                  conv => whnf
                  refine ⟨by have := hu.ok.fit.lP; have := hu.ok.fit.m2; show u.cP.length ≤ 68719476736; omega, ?_⟩
                  have eU := tot_eq hu.ok.fit.rP
                  have sU : S u.cP = S a.cP + S b.cP := by have := hu.ok.sumP; rw [c1, c2] at this; exact this
                  have lP := hu.ok.fit.lP
                  have lN := hu.ok.fit.lN
                  have m2 := hu.ok.fit.m2
                  conv => whnf
                  refine Ask.i (fun c5 => ?_) (fun c5 => ?_)
                  · skip
                    conv => whnf
                    refine Ask.i (fun _ => ?_) (fun c => absurd lP (of_decide_eq_false c))
                    conv => whnf
                    refine Ask.i (fun _ => ?_) (fun c => absurd lN (of_decide_eq_false c))
                    conv => whnf
                    refine ⟨by show u.cP.length ≤ 68719476736; omega, ?_⟩
                    conv => whnf
                    refine Ask.i (fun _ => ?_) (fun c => nfT (tight_B hu.ok.fit.tP hu.ok.fit.rP) c)
                    conv => whnf
                    refine ⟨by show u.cN.length ≤ 68719476736; omega, ?_⟩
                    conv => whnf
                    refine Ask.i (fun _ => ?_) (fun c => nfT (tight_B hu.ok.fit.tN hu.ok.fit.rN) c)
                    conv => whnf
                    refine Ask.i (fun _ => ?_) (fun c => absurd hu.ok.sA (of_decide_eq_false c))
                    conv => whnf
                    refine Ask.i (fun _ => ?_) (fun c => absurd hu.ok.sB (of_decide_eq_false c))
                    conv => whnf
                    refine Ask.i (fun _ => ?_) (fun c => by have c : (u.start == a.start) = false := c; rw [hu.start] at c; simp at c)
                    conv => whnf
                    refine Ask.i (fun _ => ?_) (fun c => by have c : (u.time == b.time) = false := c; rw [hu.time] at c; simp at c)
                    conv => whnf
                    refine fin hk (congrArg (fun z : Bool => SV.u (.c (Bo z))) (?_ : true = (u.count == x64 (a.count + b.count))))
                    rw [hu.count]; simp
                  · have c5 : ¬ x64 (n1 + n2) < n1 := of_decide_eq_false c5
                    have w : x64 (n1 + n2) = n1 + n2 := by
                      refine no_wrap ?_ ?_ (decide_eq_false c5)
                      · rw [eA.1]; exact ⟨nA, eA.2⟩
                      · rw [eB.1]; exact ⟨nB, eB.2⟩
                    have wr := x64_r (n1 + n2)
                    rw [w] at wr
                    rw [eA.1, eB.1] at wr
                    rw [sU, if_pos wr.2, ← eA.1, ← eB.1] at eU
                    conv => whnf
                    refine Ask.i (fun _ => ?_) (fun c => nfT (by rw [eU]) c)
                    conv => whnf
                    refine Ask.i (fun _ => ?_) (fun c => by have c : ((tot 0 u.cP).1 == x64 (n1 + n2)) = false := c; rw [eU, w] at c; simp at c)
                    conv => whnf
                    refine Ask.i (fun _ => ?_) (fun c => absurd lP (of_decide_eq_false c))
                    conv => whnf
                    refine Ask.i (fun _ => ?_) (fun c => absurd lN (of_decide_eq_false c))
                    conv => whnf
                    refine ⟨by show u.cP.length ≤ 68719476736; omega, ?_⟩
                    conv => whnf
                    refine Ask.i (fun _ => ?_) (fun c => nfT (tight_B hu.ok.fit.tP hu.ok.fit.rP) c)
                    conv => whnf
                    refine ⟨by show u.cN.length ≤ 68719476736; omega, ?_⟩
                    conv => whnf
                    refine Ask.i (fun _ => ?_) (fun c => nfT (tight_B hu.ok.fit.tN hu.ok.fit.rN) c)
                    conv => whnf
                    refine Ask.i (fun _ => ?_) (fun c => absurd hu.ok.sA (of_decide_eq_false c))
                    conv => whnf
                    refine Ask.i (fun _ => ?_) (fun c => absurd hu.ok.sB (of_decide_eq_false c))
                    conv => whnf
                    refine Ask.i (fun _ => ?_) (fun c => by have c : (u.start == a.start) = false := c; rw [hu.start] at c; simp at c)
                    conv => whnf
                    refine Ask.i (fun _ => ?_) (fun c => by have c : (u.time == b.time) = false := c; rw [hu.time] at c; simp at c)
                    conv => whnf
                    refine fin hk (congrArg (fun z : Bool => SV.u (.c (Bo z))) (?_ : true = (u.count == x64 (a.count + b.count))))
                    rw [hu.count]; simp
    · exact hk.elim
  · exact hk.elim
end Sx
