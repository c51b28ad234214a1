/- merge.Trim, merge.Down: what they answer, by their walks and the plain theory. -/
import Derived.Test.YtcmghblegllmlaaDoorPMergex3
import Derived.Test.YtcmghblegllmlaaDoorPMergex7
import Derived.Test.YtcmghblegllmlaaDoorCode
import Derived.Test.YtcmghblegllmlaaDoorDnRef
namespace Go.Proofs.YtcmghblegllmlaaDoor.Hand
open Go.RowKit Go.Proofs.YtcmghblegllmlaaDoorW.PrintWords Go.Proofs.YtcmghblegllmlaaDoorW.PrintLast Go.Proofs.YtcmghblegllmlaaDoorW.PrintMore Go.Proofs.YtcmghblegllmlaaDoor.PMerge Go.Proofs.YtcmghblegllmlaaDoor.Cd Go.Proofs.YtcmghblegllmlaaDoor.Dn
set_option linter.unusedVariables false
set_option linter.unusedSimpArgs false
theorem errV_errW (o : Option Int) : errW o = errV o := by cases o <;> rfl
def buck (s : Int × List Int) : Int × List Int × Option Int := if 2147483647 < s.1 then (0, [], some 9) else (s.1, s.2, none)
theorem buckets_f {k : Nat} {a : Int} {l : List Int} {s : Int × List Int} (h : merge_side_trimmed.f k a l = some s) (h1 : -2147483648 ≤ s.1) (hl : s.2.length ≤ 100000) :
    merge_side_buckets.f k a l = some ((buck s).1, (buck s).2.1, (⟨#[]⟩ : ByteArray), (buck s).2.2) := by
  unfold merge_side_buckets.f buck
  rw [h, Option.bind_some]
  by_cases c : 2147483647 < s.1
  · rw [if_pos c, if_pos c]
  · rw [if_neg c, if_neg c, if_pos (by simp; omega), List.nil_append, w32 _ h1 (by omega)]


/-- bounds of what side functions hand back -/
structure Fine (l : List Int) (r : Int × List Int × Option Int) : Prop where
  lo : -2147483648 ≤ r.1
  hi : r.1 ≤ 2147483647
  len : r.2.1.length ≤ l.length
  u64 : U64 r.2.1
theorem fine_err (l : List Int) (o : Option Int) : Fine l (0, [], o) := ⟨by simp, by simp, by simp, fun x hx => by simp at hx⟩

/-- what side.buckets makes of a trimmed side with the counts of another -/
theorem buck_res {a s1 : Int} {l s2 : List Int} {b : Int} (hb0 : 0 ≤ b) (hb1 : b ≤ 31) (ht : Tr s1 s2) (hd : ∀ p, dn s1 s2 0 p = dn a l b.toNat p) (hlt : ∀ p, dn a l b.toNat p < 18446744073709551616)
    (h1 : -2147483648 ≤ s1) (hlen : s2.length ≤ l.length) (hu : U64 s2) : Res a l b (buck (s1, s2)) ∧ Fine l (buck (s1, s2)) := by
  unfold buck
  simp only
  by_cases hc : 2147483647 < s1
  · rw [if_pos hc]
    refine ⟨.inr ⟨rfl, .inr (.inr ⟨s1, hc, ?_, fun q hq => ?_⟩)⟩, fine_err _ _⟩
    · rcases ht with ⟨_, h⟩ | ⟨k1, k2, k3⟩
      · omega
      · rw [← hd, dn0, if_pos (by omega), show (s1 - s1).toNat = 0 by omega]; exact k2
    · rw [← hd, dn0, if_neg (by omega)]
  · rw [if_neg hc]
    exact ⟨.inl ⟨rfl, hb0, hb1, ht, hd, hlt, by simp only; omega⟩, h1, by simp only; omega, hlen, hu⟩


theorem trim_f (a : Int) (ha1 : -2147483648 ≤ a) (ha2 : a ≤ 2147483647) (l : List Int) (u : ByteArray) (hl : l.length ≤ 100000) (hu : U64 l) :
    ∃ r : Int × List Int × Option Int, merge_Trim.f (2 * l.length + 3) a l u = some (r.1, r.2.1, (⟨#[]⟩ : ByteArray), r.2.2) ∧ Res a l 0 r ∧ Fine l r := by
  obtain ⟨⟨s1, s2⟩, e, g1, g2, g3, g4, g5⟩ := trimmed_spec a l (by omega) (by omega)
  simp only at g1 g2 g3 g4 g5
  have hu' : U64 s2 := fun x hx => hu x (g3 x hx)
  have hs1 : -2147483648 ≤ s1 := by
    rcases g1 with ⟨_, h⟩ | ⟨h, _⟩
    · omega
    · rcases g5 with h2 | ⟨h2, _⟩
      · rw [h2] at h; simp at h
      · omega
  have hlt : ∀ p, dn a l 0 p < 18446744073709551616 := fun p => by
    rw [dn0]; split
    · exact (hu.getD _).2
    · omega
  have hr := buck_res (b := 0) (by omega) (by omega) g1 g2 hlt hs1 g4 hu'
  refine ⟨_, ?_, hr.1, hr.2⟩
  unfold merge_Trim.f merge_sideOf.f
  rw [if_pos rfl, Option.bind_some, w64 a (by omega) (by omega), buckets_f (e _ (Nat.le_refl _)) hs1 (by simp only; omega), Option.bind_some]
theorem trim_res (a : Int) (ha1 : -2147483648 ≤ a) (ha2 : a ≤ 2147483647) (P : Nat → Prop) (A : Option Addr) (c : Nat) (l : List Int) (u : ByteArray) (w : World)
    (hV : Kd.V (Kd.int .u64) 41 w w.heap.size P (.slice A l.length c) l) (hl : l.length ≤ 100000) (hu : U64 l) :
    Calls Tryd.prog 15 #[.agg #[.int .i32 a, .slice A l.length c, .string u]] w fun e w' => ∃ r v, e = .returned (.tuple #[.agg #[.int .i32 r.1, v, .string ⟨#[]⟩], errV r.2.2]) ∧ Res a l 0 r ∧ Fine l r ∧ Kd.R (Kd.int .u64) 41 w' w.heap.size (fun _ => True) v r.2.1 ∧ Below w.heap.size w w' := by
  obtain ⟨r, h, h1, h2⟩ := trim_f a ha1 ha2 l u hl hu
  have hr := Kd.V_reads' hV
  refine (merge_Trim.calls _ a A c l u _ _ _ _ w hr.2.2 hr.2.1 h).mono ?_
  rintro e w' ⟨v, rfl, hR, hB⟩
  exact ⟨r, v, by rw [errV_errW], h1, h2, hR, hB⟩

theorem down_f (a : Int) (ha1 : -2147483648 ≤ a) (ha2 : a ≤ 2147483647) (l : List Int) (u : ByteArray) (by_ : Int) (hl : l.length ≤ 100000) (hu : U64 l) :
    ∃ (k : Nat) (r : Int × List Int × Option Int), merge_Down.f k a l u by_ = some (r.1, r.2.1, (⟨#[]⟩ : ByteArray), r.2.2) ∧ Res a l by_ r ∧ Fine l r := by
  by_cases hb : by_ < 0 ∨ 31 < by_
  · refine ⟨1, (0, [], some 9), ?_, .inr ⟨rfl, .inl hb⟩, fine_err _ _⟩
    unfold merge_Down.f
    rcases hb with hb | hb
    · rw [if_pos hb]; simp [merge_Down.j0]
    · rw [if_neg (by omega), merge_Down.j0, if_pos (by simpa using hb)]
  · obtain ⟨b, rfl⟩ : ∃ b : Nat, by_ = b := ⟨by_.toNat, by omega⟩
    obtain ⟨s1, s2, bad, e, o1, o2, h4, h5, h6⟩ := down_spec a l b hu ha1 ha2 hl (by omega)
    refine ⟨3 * l.length + 10 + 1, ?_⟩
    unfold merge_Down.f
    rw [if_neg (by omega), merge_Down.j0, if_neg (by simp; omega)]
    unfold merge_sideOf.f
    rw [if_pos rfl, Option.bind_some, w64 a (by omega) (by omega), e _ (Nat.le_refl _), Option.bind_some]
    cases bad with
    | true =>
      refine ⟨(0, [], some 9), ?_, .inr ⟨rfl, .inr (.inl (o1 rfl))⟩, fine_err _ _⟩
      simp [merge_count_err.f]
    | false =>
      obtain ⟨g1, g2, g3, g4⟩ := o2 rfl
      have hr := buck_res (b := (b : Int)) (by omega) (by omega) g1 (fun p => by rw [Int.toNat_natCast]; exact g2 p) (fun p => by rw [Int.toNat_natCast]; exact g3 p) h5 h4 g4
      refine ⟨_, ?_, hr.1, hr.2⟩
      have hb := buckets_f (k := 3 * l.length + 10) (a := s1) (l := s2) (s := (s1, s2)) (trimmed_same s1 s2 g1 (by omega) (by omega) _ (by omega)) h5 (by simp only; omega)
      simp [merge_count_err.f, hb]
theorem down_res (a : Int) (ha1 : -2147483648 ≤ a) (ha2 : a ≤ 2147483647) (P : Nat → Prop) (A : Option Addr) (c : Nat) (l : List Int) (u : ByteArray) (by_ : Int) (w : World)
    (hV : Kd.V (Kd.int .u64) 41 w w.heap.size P (.slice A l.length c) l) (hl : l.length ≤ 100000) (hu : U64 l) :
    Calls Tryd.prog 12 #[.agg #[.int .i32 a, .slice A l.length c, .string u], .int .i64 by_] w fun e w' => ∃ r v, e = .returned (.tuple #[.agg #[.int .i32 r.1, v, .string ⟨#[]⟩], errV r.2.2]) ∧ Res a l by_ r ∧ Fine l r ∧ Kd.R (Kd.int .u64) 41 w' w.heap.size (fun _ => True) v r.2.1 ∧ Below w.heap.size w w' := by
  obtain ⟨k, r, h, h1, h2⟩ := down_f a ha1 ha2 l u by_ hl hu
  have hr := Kd.V_reads' hV
  refine (merge_Down.calls _ a A c l u by_ _ _ _ _ w hr.2.2 hr.2.1 h).mono ?_
  rintro e w' ⟨v, rfl, hR, hB⟩
  exact ⟨r, v, by rw [errV_errW], h1, h2, hR, hB⟩
end Go.Proofs.YtcmghblegllmlaaDoor.Hand
