/- What the reference's functions on sides answer. -/
import Derived.Test.YtcmghblegllmlaaDoorPMergex10
import Derived.Test.YtcmghblegllmlaaDoorDnProg
namespace Go.Proofs.YtcmghblegllmlaaDoor.Dn
open Go.RowKit Go.Proofs.YtcmghblegllmlaaDoorW.PrintWords Go.Proofs.YtcmghblegllmlaaDoorW.PrintLast Go.Proofs.YtcmghblegllmlaaDoorW.PrintMore Go.Proofs.YtcmghblegllmlaaDoor.PMerge
set_option linter.unusedSimpArgs false
set_option linter.unusedVariables false

theorem w32 (n : Int) (h1 : -2147483648 ≤ n) (h2 : n ≤ 2147483647) : wrap32 n = n := by unfold wrap32; omega
def codeC : Option Int → Int
  | none => 0
  | some c => c

theorem rtrim_l1 (a : Int) (l : List Int) (u : ByteArray) (i : Nat) (ha1 : -2147483648 ≤ a) (ha2 : a ≤ 2147483647) (hl : l.length ≤ 100000) (hi0 : ∀ j, j < i → l.getD j 0 = 0) (hi1 : i = l.length ∨ l.getD i 0 ≠ 0) (hu : U64 l) :
    ∀ (n t : Nat), i + n = t → t ≤ l.length → (∀ j, t ≤ j → l.getD j 0 = 0) →
      ∃ r, (∀ k, n + 3 ≤ k → hygref25_Trim.l1 k (i : Int) (t : Int) a l u = some (r.1, r.2.1, ⟨#[]⟩, codeC r.2.2)) ∧ Res a l 0 r := by
  have hz : ∀ p, dn a l (Int.toNat 0) p = if a ≤ p ∧ p < a + l.length then l.getD (p - a).toNat 0 else 0 := fun p => dn0 a l p
  intro n
  have fin : ∀ t : Nat, i ≤ t → t ≤ l.length → (∀ j, t ≤ j → l.getD j 0 = 0) → (t = i ∨ l.getD (t - 1) 0 ≠ 0) → ∃ r, (∀ k, 1 ≤ k → hygref25_Trim.j3 k (i : Int) (t : Int) a l u = some (r.1, r.2.1, ⟨#[]⟩, codeC r.2.2)) ∧ Res a l 0 r := by
    intro t h1 h2 h3 h4
    by_cases hti : t = i
    · subst hti
      refine ⟨(0, [], none), fun k hk => ?_, .inl ⟨rfl, by omega, by omega, .inl ⟨rfl, rfl⟩, fun p => ?_, fun p => ?_, by simp⟩⟩
      · obtain ⟨k, rfl⟩ : ∃ j, k = j + 1 := ⟨k - 1, by omega⟩
        rw [hygref25_Trim.j3]
        rw [if_pos rfl]; rfl
      all_goals
        rw [hz]
        have : (if a ≤ p ∧ p < a + (l.length : Int) then l.getD (p - a).toNat 0 else 0) = 0 := by
          split
          · by_cases hj : (p - a).toNat < t
            · exact hi0 _ hj
            · exact h3 _ (by omega)
          · rfl
        rw [this]
      · simp [dn, S]
      · omega
    · have hi : i < l.length := by omega
      have hne : l.getD i 0 ≠ 0 := by rcases hi1 with h | h; omega; exact h
      have hne2 : l.getD (t - 1) 0 ≠ 0 := by rcases h4 with h | h; omega; exact h
      by_cases hov : 2147483647 < a + i
      · refine ⟨(0, [], some 9), fun k hk => ?_, .inr ⟨rfl, .inr (.inr ⟨a + i, hov, ?_, fun q hq => ?_⟩)⟩⟩
        · obtain ⟨k, rfl⟩ : ∃ j, k = j + 1 := ⟨k - 1, by omega⟩
          rw [hygref25_Trim.j3]
          rw [if_neg (by omega), w64 a (by omega) (by omega), w64 _ (by omega) (by omega), if_pos (by omega)]; rfl
        · rw [hz, if_pos (by omega), show (a + (i : Int) - a).toNat = i by omega]; exact hne
        · rw [hz]
          split
          · exact hi0 _ (by omega)
          · rfl
      · have hg : ∀ j, ((l.take t).drop i).getD j 0 = if i + j < t then l.getD (i + j) 0 else 0 := by
          intro j
          simp only [List.getD, List.getElem?_drop, List.getElem?_take]
          split <;> rfl
        have hlen : ((l.take t).drop i).length = t - i := by simp; omega
        refine ⟨(a + i, (l.take t).drop i, none), fun k hk => ?_, .inl ⟨rfl, by omega, by omega, .inr ⟨?_, ?_, ?_⟩, fun p => ?_, fun p => ?_, by simp only; omega⟩⟩
        · obtain ⟨k, rfl⟩ : ∃ j, k = j + 1 := ⟨k - 1, by omega⟩
          rw [hygref25_Trim.j3]
          rw [if_neg (by omega), w64 a (by omega) (by omega), w64 _ (by omega) (by omega), if_neg (by omega), if_pos (by omega), if_pos (by omega), if_pos (by omega)]
          simp only [hygref_CopyNums.f, Option.bind_some, Int.toNat_natCast, List.nil_append, List.length_nil, Nat.zero_add]
          rw [if_pos (by omega), w32 _ (by omega) (by omega)]; rfl
        · simp only [hlen]; omega
        · simp only [hg]; rw [if_pos (by omega)]; simpa using hne
        · simp only [hlen, hg]; rw [if_pos (by omega), show i + (t - i - 1) = t - 1 by omega]; exact hne2
        · rw [dn0, hz]
          simp only [hlen, hg]
          by_cases hc : a + (i : Int) ≤ p ∧ p < a + (i : Int) + ((t - i : Nat) : Int)
          · rw [if_pos hc, if_pos (by omega), if_pos (by omega)]; congr 1; omega
          · rw [if_neg hc]
            split
            · by_cases hj : (p - a).toNat < i
              · exact (hi0 _ hj).symm
              · exact (h3 _ (by omega)).symm
            · rfl
        · rw [hz]
          split
          · exact (hu.getD _).2
          · omega
  induction n with
  | zero =>
    intro t ht h2 h3
    obtain ⟨r, e, g⟩ := fin t (by omega) h2 h3 (.inl (by omega))
    refine ⟨r, fun k hk => ?_, g⟩
    obtain ⟨k, rfl⟩ : ∃ j, k = j + 1 := ⟨k - 1, by omega⟩
    rw [hygref25_Trim.l1]
    rw [if_neg (by omega)]
    exact e k (by omega)
  | succ n ih =>
    intro t ht h2 h3
    by_cases hx : l.getD (t - 1) 0 = 0
    · obtain ⟨r, e, g⟩ := ih (t - 1) (by omega) (by omega) (fun j hj => by
        by_cases hj2 : j = t - 1
        · rw [hj2]; exact hx
        · exact h3 j (by omega))
      refine ⟨r, fun k hk => ?_, g⟩
      obtain ⟨k, rfl⟩ : ∃ j, k = j + 1 := ⟨k - 1, by omega⟩
      rw [hygref25_Trim.l1]
      rw [if_pos (by omega), w64 _ (by omega) (by omega), if_pos (by omega), if_pos (by omega)]
      rw [if_pos (by unfold rd; rw [show ((t : Int) - 1).toNat = t - 1 by omega]; exact hx), show (t : Int) - 1 = ((t - 1 : Nat) : Int) by omega]
      exact e k (by omega)
    · obtain ⟨r, e, g⟩ := fin t (by omega) h2 h3 (.inr hx)
      refine ⟨r, fun k hk => ?_, g⟩
      obtain ⟨k, rfl⟩ : ∃ j, k = j + 1 := ⟨k - 1, by omega⟩
      rw [hygref25_Trim.l1]
      rw [if_pos (by omega), w64 _ (by omega) (by omega), if_pos (by omega), if_pos (by omega)]
      rw [if_neg (by unfold rd; rw [show ((t : Int) - 1).toNat = t - 1 by omega]; exact hx)]
      exact e k (by omega)

theorem rtrim_spec (a : Int) (l : List Int) (u : ByteArray) (ha1 : -2147483648 ≤ a) (ha2 : a ≤ 2147483647) (hl : l.length ≤ 100000) (hu : U64 l) :
    ∃ r, (∀ k, 2 * l.length + 10 ≤ k → hygref25_Trim.f k a l u = some (r.1, r.2.1, ⟨#[]⟩, codeC r.2.2)) ∧ Res a l 0 r := by
  have go : ∀ (n i : Nat), i + n = l.length → (∀ j, j < i → l.getD j 0 = 0) → ∃ r, (∀ k, n + l.length + 10 ≤ k → hygref25_Trim.l0 k (i : Int) (l.length : Int) a l u = some (r.1, r.2.1, ⟨#[]⟩, codeC r.2.2)) ∧ Res a l 0 r := by
    intro n
    have stop : ∀ i : Nat, i ≤ l.length → (∀ j, j < i → l.getD j 0 = 0) → (i = l.length ∨ l.getD i 0 ≠ 0) → ∃ r, (∀ k, l.length + 5 ≤ k → hygref25_Trim.j1 k (i : Int) (l.length : Int) a l u = some (r.1, r.2.1, ⟨#[]⟩, codeC r.2.2)) ∧ Res a l 0 r := by
      intro i h1 h2 h3
      obtain ⟨r, e, g⟩ := rtrim_l1 a l u i ha1 ha2 hl h2 h3 hu (l.length - i) l.length (by omega) (Nat.le_refl _) (fun j hj => by simp [List.getD, hj])
      refine ⟨r, fun k hk => ?_, g⟩
      obtain ⟨k, rfl⟩ : ∃ j, k = j + 1 := ⟨k - 1, by omega⟩
      rw [hygref25_Trim.j1]
      exact e k (by omega)
    induction n with
    | zero =>
      intro i hi h2
      obtain ⟨r, e, g⟩ := stop i (by omega) h2 (.inl (by omega))
      refine ⟨r, fun k hk => ?_, g⟩
      obtain ⟨k, rfl⟩ : ∃ j, k = j + 1 := ⟨k - 1, by omega⟩
      rw [hygref25_Trim.l0]
      rw [if_neg (by omega)]
      exact e k (by omega)
    | succ n ih =>
      intro i hi h2
      by_cases hx : l.getD i 0 = 0
      · obtain ⟨r, e, g⟩ := ih (i + 1) (by omega) (fun j hj => by
          by_cases hj2 : j = i
          · rw [hj2]; exact hx
          · exact h2 j (by omega))
        refine ⟨r, fun k hk => ?_, g⟩
        obtain ⟨k, rfl⟩ : ∃ j, k = j + 1 := ⟨k - 1, by omega⟩
        rw [hygref25_Trim.l0]
        rw [if_pos (by omega), if_pos (by omega), if_pos (by omega), if_pos (by simpa [rd] using hx), w64 _ (by omega) (by omega)]
        exact e k (by omega)
      · obtain ⟨r, e, g⟩ := stop i (by omega) h2 (.inr hx)
        refine ⟨r, fun k hk => ?_, g⟩
        obtain ⟨k, rfl⟩ : ∃ j, k = j + 1 := ⟨k - 1, by omega⟩
        rw [hygref25_Trim.l0]
        rw [if_pos (by omega), if_pos (by omega), if_pos (by omega), if_neg (by simpa [rd] using hx)]
        exact e k (by omega)
  obtain ⟨r, e, g⟩ := go l.length 0 (by omega) (fun j hj => by omega)
  exact ⟨r, fun k hk => e k (by omega), g⟩

/-- what lies at place p -/
def lk : List S139 → Int → Int
  | [], _ => 0
  | x :: P, p => (if x.f0 = p then x.f1 else 0) + lk P p
theorem lk_snoc (P : List S139) (z : S139) (p : Int) : lk (P ++ [z]) p = lk P p + (if z.f0 = p then z.f1 else 0) := by
  induction P with
  | nil => simp [lk]
  | cons x P ih => simp only [List.cons_append, lk, ih]; omega
theorem lk_zero {P : List S139} {p : Int} (h : ∀ x ∈ P, x.f0 ≠ p) : lk P p = 0 := by
  induction P with
  | nil => rfl
  | cons x P ih =>
    simp only [lk]
    rw [if_neg (h x (List.mem_cons_self ..)), ih (fun y hy => h y (List.mem_cons_of_mem _ hy))]; rfl
/-- rising places with counts -/
structure Ris (P : List S139) : Prop where
  up : P.Pairwise (fun x y => x.f0 < y.f0)
  pos : ∀ x ∈ P, 0 < x.f1 ∧ x.f1 < 18446744073709551616
theorem Ris.last {P : List S139} {z : S139} (h : Ris (P ++ [z])) : Ris P ∧ (∀ x ∈ P, x.f0 < z.f0) ∧ 0 < z.f1 ∧ z.f1 < 18446744073709551616 := by
  have := h.up
  rw [List.pairwise_append] at this
  exact ⟨⟨this.1, fun x hx => h.pos x (List.mem_append_left _ hx)⟩, fun x hx => this.2.2 x hx z (by simp), h.pos z (by simp)⟩
theorem Ris.snoc {P : List S139} {z : S139} (h : Ris P) (hz : ∀ x ∈ P, x.f0 < z.f0) (h1 : 0 < z.f1) (h2 : z.f1 < 18446744073709551616) : Ris (P ++ [z]) := by
  refine ⟨List.pairwise_append.mpr ⟨h.up, by simp, fun x hx y hy => ?_⟩, fun x hx => ?_⟩
  · obtain rfl := List.mem_singleton.mp hy; exact hz x hx
  · rcases List.mem_append.mp hx with hx | hx
    · exact h.pos x hx
    · obtain rfl := List.mem_singleton.mp hx; exact ⟨h1, h2⟩
theorem snoc_get (P : List S139) (z : S139) : rd_T139 (P ++ [z]) (P.length : Int) = z := by
  unfold rd_T139; simp [List.getD]

theorem places_spec (a : Int) (l : List Int) (u : ByteArray) (b : Nat) (hu : U64 l) (ha1 : -2147483648 ≤ a) (ha2 : a ≤ 2147483647) (hl : l.length ≤ 100000) (hb : b ≤ 31) :
    ∀ (n i : Nat) (P : List S139), i + n = l.length → Ris P → (∀ x ∈ P, a / 2 ^ b ≤ x.f0 ∧ x.f0 ≤ (a + (i : Int) - 1) / 2 ^ b) → P.length ≤ i → (∀ p, lk P p = dn a (l.take i) b p) →
      ∃ P' ok, (∀ k, 2 * n + 1 ≤ k → hygref25_places.l0 k (b : Int) P (i : Int) a l u = some (P', ok)) ∧
        (ok = false → ∃ p, 18446744073709551616 ≤ dn a l b p) ∧ (ok = true → Ris P' ∧ (∀ x ∈ P', a / 2 ^ b ≤ x.f0 ∧ x.f0 ≤ (a + (l.length : Int) - 1) / 2 ^ b) ∧ P'.length ≤ l.length ∧ ∀ p, lk P' p = dn a l b p) := by
  intro n
  induction n with
  | zero =>
    intro i P hi hR hrg hP hlk
    rw [show i = l.length by omega, List.take_length] at hlk
    rw [show i = l.length by omega] at hrg hP
    refine ⟨P, true, fun k hk => ?_, (fun h => by cases h), fun _ => ⟨hR, hrg, hP, hlk⟩⟩
    obtain ⟨k, rfl⟩ : ∃ j, k = j + 1 := ⟨k - 1, by omega⟩
    rw [hygref25_places.l0, if_neg (by omega)]
  | succ n ih =>
    intro i P hi hR hrg hP hlk
    have hx := hu.getD i
    have htk : ∀ p, dn a (l.take (i + 1)) b p = dn a (l.take i) b p + (if (a + (i : Int)) / 2 ^ b = p then l.getD i 0 else 0) := by
      intro p
      rw [take_succ (by omega), dn_snoc, show ((l.take i).length : Int) = i by simp; omega]
    have dm := div_mono (show a + (i : Int) - 1 ≤ a + ((i + 1 : Nat) : Int) - 1 by omega) b
    have dm0 := div_mono (show a ≤ a + (i : Int) by omega) b
    have dm1 : (a + ((i + 1 : Nat) : Int) - 1) / 2 ^ b = (a + (i : Int)) / 2 ^ b := by congr 1; omega
    have dm2 := div_mono (show a + (i : Int) ≤ a + (l.length : Int) - 1 by omega) b
    by_cases hx0 : l.getD i 0 = 0
    · obtain ⟨P', ok, e, g⟩ := ih (i + 1) P (by omega) hR (fun x hx => by have := hrg x hx; omega) (by omega) (fun p => by rw [htk, hx0, hlk]; simp)
      refine ⟨P', ok, fun k hk => ?_, g⟩
      obtain ⟨k, rfl⟩ : ∃ j, k = j + 1 := ⟨k - 1, by omega⟩
      rw [hygref25_places.l0, if_pos (by omega), if_pos (by omega), if_pos (by simpa [rd] using hx0), w64 _ (by omega) (by omega)]
      exact e k (by omega)
    · obtain ⟨at_, hat⟩ : ∃ z, (a + (i : Int)) / 2 ^ b = z := ⟨_, rfl⟩
      rw [hat] at htk dm0 dm1 dm2
      have hwb : IntKind.u64.wrap (b : Int) = b := by rw [IntKind.wrap_u64]; omega
      have hk0 : shr .i64 (wrap64 (wrap64 a + (i : Int))) (IntKind.u64.wrap (b : Int)) = at_ := by
        rw [hwb, w64 a (by omega) (by omega), w64 _ (by omega) (by omega), shr_eq _ _ hb]; exact hat
      have stepA : ∀ k (x9 : Int), hygref25_places.j1 (k + 1) (b : Int) P (i : Int) at_ x9 false a l u = hygref25_places.l0 k (b : Int) (P ++ [⟨at_, l.getD i 0⟩]) ((i + 1 : Nat) : Int) a l u := by
        intro k x9
        rw [hygref25_places.j1, if_neg (by decide), if_pos (by omega), if_pos (by omega), if_pos (by omega), w64 _ (by omega) (by omega)]
        rfl
      have appendCase : (∀ x ∈ P, x.f0 < at_) → ∃ P' ok, (∀ k, 2 * n + 1 ≤ k → hygref25_places.l0 k (b : Int) (P ++ [⟨at_, l.getD i 0⟩]) ((i + 1 : Nat) : Int) a l u = some (P', ok)) ∧
        (ok = false → ∃ p, 18446744073709551616 ≤ dn a l b p) ∧ (ok = true → Ris P' ∧ (∀ x ∈ P', a / 2 ^ b ≤ x.f0 ∧ x.f0 ≤ (a + (l.length : Int) - 1) / 2 ^ b) ∧ P'.length ≤ l.length ∧ ∀ p, lk P' p = dn a l b p) := by
        intro hlt
        refine ih (i + 1) _ (by omega) (hR.snoc hlt (by show 0 < l.getD i 0; omega) (by show l.getD i 0 < _; omega)) (fun x hx => ?_) (by simp; omega) (fun p => by rw [htk, lk_snoc, hlk])
        rcases List.mem_append.mp hx with hx | hx
        · have := hrg x hx; omega
        · obtain rfl := List.mem_singleton.mp hx; simp only; omega
      by_cases hPn : P = []
      · obtain ⟨P', ok, e, g⟩ := appendCase (by rw [hPn]; simp)
        refine ⟨P', ok, fun k hk => ?_, g⟩
        obtain ⟨k, rfl⟩ : ∃ j, k = j + 2 := ⟨k - 2, by omega⟩
        rw [hygref25_places.l0, if_pos (by omega), if_pos (by omega), if_neg (by simpa [rd] using hx0), if_pos (by rw [hwb]; omega), if_neg (by rw [hPn]; simp [wrap64]), hk0, stepA]
        exact e k (by omega)
      · obtain ⟨Q, z, rfl⟩ : ∃ Q z, P = Q ++ [z] := ⟨P.dropLast, P.getLast hPn, (List.dropLast_concat_getLast hPn).symm⟩
        obtain ⟨hQ, hQz, hz1, hz2⟩ := hR.last
        have hwl : wrap64 (((Q ++ [z]).length : Int) - 1) = Q.length := by
          rw [w64 _ (by simp only [List.length_append, List.length_singleton] at hP ⊢; omega) (by simp only [List.length_append, List.length_singleton] at hP ⊢; omega)]; simp
        have hzr := hrg z (by simp)
        have dmi := div_mono (show a + (i : Int) - 1 ≤ a + i by omega) b
        rw [hat] at dmi
        have hlz : lk (Q ++ [z]) z.f0 = z.f1 := by
          rw [lk_snoc, if_pos rfl, lk_zero (fun x hx => by have := hQz x hx; omega)]; omega
        by_cases hsame : z.f0 = at_
        · have hsum : hygref25_sum.f z.f1 (l.getD i 0) = some (if z.f1 + l.getD i 0 < 18446744073709551616 then z.f1 + l.getD i 0 else z.f1 + l.getD i 0 - 18446744073709551616, decide (z.f1 + l.getD i 0 < 18446744073709551616)) := by
            have hw : IntKind.u64.wrap (z.f1 + l.getD i 0) = if z.f1 + l.getD i 0 < 18446744073709551616 then z.f1 + l.getD i 0 else z.f1 + l.getD i 0 - 18446744073709551616 := by
              rw [IntKind.wrap_u64]; split <;> omega
            unfold hygref25_sum.f
            rw [hw]
            congr 2
            by_cases h : z.f1 + l.getD i 0 < 18446744073709551616
            · rw [if_pos h, decide_eq_true (by omega), decide_eq_true (by omega)]
            · rw [if_neg h, decide_eq_false (by omega), decide_eq_false (by omega)]
          have pre : ∀ k, hygref25_places.l0 (k + 2) (b : Int) (Q ++ [z]) (i : Int) a l u = (hygref25_sum.f z.f1 (l.getD i 0)).bind fun bt => if bt.2 = true then hygref25_places.l0 k (b : Int) (Q ++ [⟨z.f0, bt.1⟩]) ((i + 1 : Nat) : Int) a l u else some ([], false) := by
            intro k
            rw [hygref25_places.l0, if_pos (by omega), if_pos (by omega), if_neg (by simpa [rd] using hx0), if_pos (by rw [hwb]; omega), hwl, if_pos (by omega), if_pos (by omega), if_pos (by simp; omega), hk0, snoc_get, show (z.f0 == at_) = true from beq_iff_eq.mpr hsame]
            rw [hygref25_places.j1, if_pos rfl, if_pos (by omega), if_pos (by simp; omega), if_pos (by omega), if_pos (by omega), snoc_get, w64 ((i : Int) + 1) (by omega) (by omega)]
            simp only [Int.toNat_natCast]
            have hset : ∀ y, (Q ++ [z]).set Q.length y = Q ++ [y] := fun y => by simp
            simp only [hset, rd, Int.toNat_natCast]
            rfl
          by_cases hov : z.f1 + l.getD i 0 < 18446744073709551616
          · rw [if_pos hov, decide_eq_true hov] at hsum
            obtain ⟨P', ok, e, g⟩ := ih (i + 1) (Q ++ [⟨z.f0, z.f1 + l.getD i 0⟩]) (by omega) (hQ.snoc hQz (by show 0 < z.f1 + l.getD i 0; omega) hov) (fun x hx => by
              rcases List.mem_append.mp hx with hx | hx
              · have := hrg x (List.mem_append_left _ hx); omega
              · obtain rfl := List.mem_singleton.mp hx; simp only; omega) (by simp at hP ⊢; omega) (fun p => by
                rw [htk, ← hlk, lk_snoc, lk_snoc]
                simp only
                by_cases hp : z.f0 = p
                · rw [if_pos hp, if_pos hp, if_pos (by omega)]; omega
                · rw [if_neg hp, if_neg hp, if_neg (by omega)]; omega)
            refine ⟨P', ok, fun k hk => ?_, g⟩
            obtain ⟨k, rfl⟩ : ∃ j, k = j + 2 := ⟨k - 2, by omega⟩
            rw [pre, hsum, Option.bind_some, if_pos rfl]
            exact e k (by omega)
          · rw [if_neg hov, decide_eq_false hov] at hsum
            refine ⟨[], false, fun k hk => ?_, fun _ => ⟨at_, ?_⟩, (fun h => by cases h)⟩
            · obtain ⟨k, rfl⟩ : ∃ j, k = j + 2 := ⟨k - 2, by omega⟩
              rw [pre, hsum, Option.bind_some, if_neg (by simp)]
            · have h1 := htk at_
              rw [if_pos rfl, ← hlk, ← hsame, hlz] at h1
              have h2 : dn a (l.take (i + 1)) b z.f0 ≤ dn a l b z.f0 := by
                conv => rhs; rw [← List.take_append_drop (i + 1) l]
                unfold dn
                rw [S_append]
                have := S_nonneg (l := l.drop (i + 1)) (fun x hx => (hu x (List.mem_of_mem_drop hx)).1) (a + ((l.take (i + 1)).length : Int)) (fun t => t / 2 ^ b == z.f0)
                omega
              rw [← hsame]; omega
        · obtain ⟨P', ok, e, g⟩ := appendCase (fun x hx => by
            rcases List.mem_append.mp hx with hx | hx
            · have := hQz x hx; omega
            · obtain rfl := List.mem_singleton.mp hx; omega)
          refine ⟨P', ok, fun k hk => ?_, g⟩
          obtain ⟨k, rfl⟩ : ∃ j, k = j + 2 := ⟨k - 2, by omega⟩
          rw [hygref25_places.l0, if_pos (by omega), if_pos (by omega), if_neg (by simpa [rd] using hx0), if_pos (by rw [hwb]; omega), hwl, if_pos (by omega), if_pos (by omega), if_pos (by simp; omega), hk0, snoc_get, beq_false_of_ne hsame, stepA]
          exact e k (by omega)

theorem ptake_succ {P : List S139} {n : Nat} (h : n < P.length) : P.take (n + 1) = P.take n ++ [P[n]] := by
  rw [List.take_add_one, List.getElem?_eq_getElem h]; simp
theorem rd_get {P : List S139} {n : Nat} (h : n < P.length) : rd_T139 P (n : Int) = P[n] := by
  unfold rd_T139; simp [List.getD, h]
theorem Ris.lt {P : List S139} (h : Ris P) {i j : Nat} (hij : i < j) (hj : j < P.length) : (P[i]'(by omega)).f0 < P[j].f0 :=
  List.pairwise_iff_getElem.mp h.up i j (by omega) hj hij
theorem Ris.lk_take {P : List S139} (h : Ris P) {i : Nat} (hi : i < P.length) : lk (P.take i) P[i].f0 = 0 := by
  apply lk_zero
  intro x hx
  obtain ⟨j, hj, rfl⟩ := List.getElem_of_mem hx
  have hj2 : j < i := by simp at hj; omega
  rw [List.getElem_take]
  have := h.lt hj2 hi
  omega
theorem Ris.lk_at {P : List S139} (h : Ris P) {i : Nat} (hi : i < P.length) : lk P P[i].f0 = P[i].f1 := by
  have go : ∀ n, i < n → n ≤ P.length → lk (P.take n) P[i].f0 = P[i].f1 := by
    intro n
    induction n with
    | zero => intro h; omega
    | succ n ih =>
      intro h1 h2
      rw [ptake_succ (by omega), lk_snoc]
      by_cases hn : n = i
      · subst hn; rw [h.lk_take hi, if_pos rfl]; omega
      · have := h.lt (show i < n by omega) (by omega)
        rw [ih (by omega) (by omega), if_neg (by omega)]; omega
  have := go P.length hi (Nat.le_refl _)
  rwa [List.take_length] at this

theorem dense_loop (P : List S139) (hR : Ris P) (first o : Int) (m : Nat) (u : ByteArray) (hf : -1099511627776 ≤ first) (hm : first + m ≤ 1099511627776) (hlen : P.length ≤ 100000) (hrg : ∀ x ∈ P, first ≤ x.f0 ∧ x.f0 < first + m) :
    ∀ (n i : Nat) (out : List Int), i + n = P.length → out.length = m → (∀ j, j < m → out.getD j 0 = lk (P.take i) (first + j)) →
      ∃ out', (∀ k, n + 1 ≤ k → hygref25_dense.l0 k P first (i : Int) o out u = some (o, out', u, true)) ∧ out'.length = m ∧ ∀ j, j < m → out'.getD j 0 = lk P (first + j) := by
  intro n
  induction n with
  | zero =>
    intro i out hi ho h
    rw [show i = P.length by omega, List.take_length] at h
    refine ⟨out, fun k hk => ?_, ho, h⟩
    obtain ⟨k, rfl⟩ : ∃ j, k = j + 1 := ⟨k - 1, by omega⟩
    rw [hygref25_dense.l0, if_neg (by omega)]
  | succ n ih =>
    intro i out hi ho h
    have hil : i < P.length := by omega
    have hx := hrg _ (List.getElem_mem hil)
    obtain ⟨j, hj⟩ : ∃ j : Nat, P[i].f0 = first + j := ⟨(P[i].f0 - first).toNat, by omega⟩
    have hw : wrap64 (P[i].f0 - first) = j := by rw [w64 _ (by omega) (by omega)]; omega
    have hl0 := hR.lk_take hil
    obtain ⟨out', e, g⟩ := ih (i + 1) (out.set j P[i].f1) (by omega) (by simp [ho]) (fun j' hj' => by
      rw [getD_set _ _ _ _ (by omega), ptake_succ hil, lk_snoc]
      by_cases hjj : j = j'
      · subst hjj; rw [if_pos rfl, if_pos hj, ← hj, hl0]; omega
      · rw [if_neg hjj, if_neg (by omega), h j' hj']; omega)
    refine ⟨out', fun k hk => ?_, g⟩
    obtain ⟨k, rfl⟩ : ∃ j, k = j + 1 := ⟨k - 1, by omega⟩
    rw [hygref25_dense.l0, if_pos (by omega), if_pos (by omega), rd_get hil, hw, if_pos (by omega), if_pos (by omega), w64 _ (by omega) (by omega)]
    exact e k (by omega)

theorem dense_spec (P : List S139) (hR : Ris P) (lo : Int) (N : Nat) (hlo : -2147483648 ≤ lo) (hlo2 : lo ≤ 2147483647) (hN : N ≤ 100000) (hlen : P.length ≤ 100000) (hrg : ∀ x ∈ P, lo ≤ x.f0 ∧ x.f0 < lo + N) :
    ∃ r : Int × List Int × Option Int, (∀ k, P.length + 1 ≤ k → hygref25_dense.f k P = some (r.1, r.2.1, ⟨#[]⟩, r.2.2.isNone)) ∧
      ((r.2.2 = none ∧ Tr r.1 r.2.1 ∧ (∀ p, dn r.1 r.2.1 0 p = lk P p) ∧ r.1 ≤ 2147483647) ∨ (r = (0, [], some 9) ∧ ∃ p, 2147483647 < p ∧ lk P p ≠ 0 ∧ ∀ q, q < p → lk P q = 0)) := by
  by_cases hP : P.length = 0
  · have hPn : P = [] := List.length_eq_zero_iff.mp hP
    subst hPn
    refine ⟨(0, [], none), fun k hk => ?_, .inl ⟨rfl, .inl ⟨rfl, rfl⟩, fun p => by simp [dn, S, lk], by simp⟩⟩
    unfold hygref25_dense.f
    simp
  · have h0 : 0 < P.length := by omega
    have hr0 : rd_T139 P 0 = P[0] := rd_get h0
    have hx0 := hrg _ (List.getElem_mem h0)
    have hp0 := hR.pos _ (List.getElem_mem h0)
    have hn1 : P.length - 1 < P.length := by omega
    have hxn := hrg _ (List.getElem_mem hn1)
    have hpn := hR.pos _ (List.getElem_mem hn1)
    have hle : ∀ x ∈ P, P[0].f0 ≤ x.f0 ∧ x.f0 ≤ P[P.length - 1].f0 := by
      intro x hx
      obtain ⟨j, hj, rfl⟩ := List.getElem_of_mem hx
      constructor
      · by_cases h : 0 < j
        · exact Int.le_of_lt (hR.lt h hj)
        · have : j = 0 := by omega
          subst this; exact Int.le_refl _
      · by_cases h : j < P.length - 1
        · exact Int.le_of_lt (hR.lt h hn1)
        · have : j = P.length - 1 := by omega
          subst this; exact Int.le_refl _
    have hl0 := hle _ (List.getElem_mem hn1)
    by_cases hov : 2147483647 < P[0].f0
    · refine ⟨(0, [], some 9), fun k hk => ?_, .inr ⟨rfl, P[0].f0, hov, by rw [hR.lk_at h0]; omega, fun q hq => lk_zero (fun x hx => by have := hle x hx; omega)⟩⟩
      unfold hygref25_dense.f
      rw [if_neg (by omega), if_pos (by omega), hr0, if_pos (by omega)]; rfl
    · obtain ⟨m, hm⟩ : ∃ m : Nat, P[0].f0 + m = P[P.length - 1].f0 + 1 := ⟨(P[P.length - 1].f0 + 1 - P[0].f0).toNat, by omega⟩
      obtain ⟨out, e, o1, o2⟩ := dense_loop P hR P[0].f0 (wrap32 P[0].f0) m ⟨#[]⟩ (by omega) (by omega) hlen (fun x hx => by have := hle x hx; omega) P.length 0 (List.replicate m 0) (by omega) (by simp) (fun j hj => by simp [lk, List.getD, hj])
      refine ⟨(P[0].f0, out, none), fun k hk => ?_, .inl ⟨rfl, .inr ⟨by simp only; omega, ?_, ?_⟩, fun p => ?_, by simp only; omega⟩⟩
      · unfold hygref25_dense.f
        rw [if_neg (by omega), if_pos (by omega), hr0, if_neg (by omega), w64 ((P.length : Int) - 1) (by omega) (by omega), if_pos (by omega), if_pos (by omega), show (P.length : Int) - 1 = ((P.length - 1 : Nat) : Int) by omega, rd_get hn1]
        rw [w64 (P[P.length - 1].f0 - P[0].f0) (by omega) (by omega), w64 (P[P.length - 1].f0 - P[0].f0 + 1) (by omega) (by omega), show P[P.length - 1].f0 - P[0].f0 + 1 = (m : Int) by omega, if_pos (by omega), if_pos (by simp; omega), Int.toNat_natCast]
        have := e k (by omega)
        rw [w32 _ (by omega) (by omega)] at this ⊢
        exact this
      · simp only
        rw [o2 0 (by omega), Int.natCast_zero, Int.add_zero, hR.lk_at h0]; omega
      · simp only [o1]
        rw [o2 (m - 1) (by omega), show P[0].f0 + ((m - 1 : Nat) : Int) = P[P.length - 1].f0 by omega, hR.lk_at hn1]; omega
      · rw [dn0]
        simp only [o1]
        by_cases hc : P[0].f0 ≤ p ∧ p < P[0].f0 + (m : Int)
        · rw [if_pos hc, o2 _ (by omega)]; congr 1; omega
        · rw [if_neg hc, lk_zero (fun x hx => by have := hle x hx; omega)]

theorem rdown_spec (a : Int) (l : List Int) (u : ByteArray) (by_ : Int) (ha1 : -2147483648 ≤ a) (ha2 : a ≤ 2147483647) (hl : l.length ≤ 100000) (hu : U64 l) :
    ∃ r, (∀ k, 2 * l.length + 10 ≤ k → hygref25_Down.f k a l u by_ = some (r.1, r.2.1, ⟨#[]⟩, codeC r.2.2)) ∧ Res a l by_ r := by
  by_cases hb : by_ < 0 ∨ 31 < by_
  · refine ⟨(0, [], some 9), fun k hk => ?_, .inr ⟨rfl, .inl hb⟩⟩
    obtain ⟨k, rfl⟩ : ∃ j, k = j + 1 := ⟨k - 1, by omega⟩
    unfold hygref25_Down.f
    by_cases hb1 : by_ < 0
    · rw [if_pos hb1, hygref25_Down.j0, if_pos rfl]; rfl
    · rw [if_neg hb1, hygref25_Down.j0, if_pos (by rw [decide_eq_true_iff]; omega)]; rfl
  · obtain ⟨b, rfl⟩ : ∃ b : Nat, by_ = b := ⟨by_.toNat, by omega⟩
    have hb31 : b ≤ 31 := by omega
    have pre : ∀ k, hygref25_Down.f (k + 1) a l u (b : Int) = (hygref25_places.f k a l u (b : Int)).bind fun bt253 => (if bt253.2 = true then ((hygref25_dense.f k bt253.1).bind fun bt257 => (if bt257.2.2.2 = true then (some (bt257.1, bt257.2.1, bt257.2.2.1, 0)) else (some (0, ([] : List Int), (⟨#[]⟩ : ByteArray), 9)))) else (some (0, ([] : List Int), (⟨#[]⟩ : ByteArray), 9))) := by
      intro k
      unfold hygref25_Down.f
      rw [if_neg (by omega), hygref25_Down.j0, if_neg (by rw [decide_eq_true_iff]; omega)]
    obtain ⟨P, ok, e, o1, o2⟩ := places_spec a l u b hu ha1 ha2 hl hb31 l.length 0 [] (by omega) ⟨List.Pairwise.nil, by simp⟩ (by simp) (by simp) (fun p => by simp [lk, dn, S])
    cases hok : ok with
    | false =>
      subst hok
      refine ⟨(0, [], some 9), fun k hk => ?_, .inr ⟨rfl, .inr (.inl (o1 rfl))⟩⟩
      obtain ⟨k, rfl⟩ : ∃ j, k = j + 1 := ⟨k - 1, by omega⟩
      have := e k (by omega)
      rw [pre]
      unfold hygref25_places.f
      rw [Int.natCast_zero] at this
      rw [this, Option.bind_some, if_neg (by simp)]; rfl
    | true =>
      subst hok
      obtain ⟨g1, g2, g3, g4⟩ := o2 rfl
      have q1 := div_lo (M := 2147483648) (by omega) ha1 b
      have q2 := div_hi (M := 2147483647) (by omega) ha2 b
      have q3 := div_add_le a l.length (by omega) b
      have q4 := div_mono (show a + (l.length : Int) - 1 ≤ a + l.length by omega) b
      obtain ⟨r, e2, hr⟩ := dense_spec P g1 (a / 2 ^ b) (l.length + 1 - 1 + 1 - 1) q1 q2 (by omega) (by omega) (fun x hx => by
        have := g2 x hx
        have q5 := div_add_le a (l.length - 1) (by
          have := List.length_pos_of_mem hx
          omega) b
        rw [show a + ((l.length : Int) - 1) = a + l.length - 1 by omega] at q5
        omega)
      have hlt : r.2.2 = none → ∀ p, dn a l b p < 18446744073709551616 := fun _ p => by
        rw [← g4]
        by_cases h : ∃ x ∈ P, x.f0 = p
        · obtain ⟨x, hx, rfl⟩ := h
          obtain ⟨j, hj, rfl⟩ := List.getElem_of_mem hx
          rw [g1.lk_at hj]; exact (g1.pos _ hx).2
        · rw [lk_zero (fun x hx h2 => h ⟨x, hx, h2⟩)]; omega
      refine ⟨r, fun k hk => ?_, ?_⟩
      · obtain ⟨k, rfl⟩ : ∃ j, k = j + 1 := ⟨k - 1, by omega⟩
        have := e k (by omega)
        rw [pre]
        unfold hygref25_places.f
        rw [Int.natCast_zero] at this
        rw [this, Option.bind_some, if_pos rfl, e2 k (by omega), Option.bind_some]
        rcases hr with ⟨h1, _⟩ | ⟨h1, _⟩
        · rw [h1]; rfl
        · rw [h1]; rfl
      · rcases hr with ⟨h1, h2, h3, h4⟩ | ⟨h1, p, h2, h3, h4⟩
        · exact .inl ⟨h1, by omega, by omega, h2, fun p => by rw [h3, g4]; rfl, hlt h1, h4⟩
        · exact .inr ⟨h1, .inr (.inr ⟨p, h2, by rw [Int.toNat_natCast, ← g4]; exact h3, fun q hq => by rw [Int.toNat_natCast, ← g4]; exact h4 q hq⟩)⟩
end Go.Proofs.YtcmghblegllmlaaDoor.Dn
