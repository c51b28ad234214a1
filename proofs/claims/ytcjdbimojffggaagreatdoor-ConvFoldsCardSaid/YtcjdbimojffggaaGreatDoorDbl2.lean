/- Part of the proof: a machine of states for walks, and contracts of functions over it. Conditions: those that each theorem names. -/
import Derived.Test.YtcjdbimojffggaaGreatDoorDbl1
set_option linter.unusedVariables false
set_option linter.unusedSimpArgs false
/-! Plain: which double is less: the program's answer is the reference's. -/
namespace Sx
open Go Go.Proofs
open Go.Proofs.SxPu (cls qt sz sg addV subV ng finV)
set_option linter.unusedVariables false
set_option linter.unusedSimpArgs false
theorem szV_mod {x : Int} (h : UU x) : szV x = x % 9223372036854775808 := by
  show anU x 9223372036854775808 = _
  rw [← bits_an]; exact Go.Proofs.SxFl.andNot_sign h.1 h.2
theorem nanV_cls {x : Int} (h : UU x) : nanV x = decide (cls x = 4) := by
  unfold nanV
  rw [szV_mod h]
  exact decide_eq_decide.2 (Iff.symm (Go.Proofs.SxPu.cls_nan x))
theorem rankV_of {x : Int} (h : UU x) : rankV x = if 9223372036854775808 ≤ x then 18446744073709551615 - x else x + 9223372036854775808 := by
  have h0 := h.1; have h1 := h.2
  unfold rankV
  rw [show andU x 9223372036854775808 = x / 9223372036854775808 * 9223372036854775808 by rw [← bits_and]; exact Go.Proofs.SxFl.and_sign h0 h1]
  by_cases c : 9223372036854775808 ≤ x
  · rw [if_pos c, decide_eq_true (by omega), ← bits_xor]
    exact Go.Proofs.SxFl.xor_all h0 h1
  · rw [if_neg c, decide_eq_false (by omega), ← bits_or]
    exact Go.Proofs.SxFl.or_sign h0 (by omega)
def LessP (a b : Int) : Prop := ¬ cls a = 4 ∧ ¬ cls b = 4 ∧ ¬ (a % 9223372036854775808 = 0 ∧ b % 9223372036854775808 = 0) ∧
  (if 9223372036854775808 ≤ a then (if 9223372036854775808 ≤ b then a % 9223372036854775808 > b % 9223372036854775808 else True) else (if 9223372036854775808 ≤ b then False else a % 9223372036854775808 < b % 9223372036854775808))
theorem eqV_of {a b : Int} (ha : UU a) (hb : UU b) (na : nanV a = false) (nb : nanV b = false) : eqV a b = true ↔ (a = b ∨ (a % 9223372036854775808 = 0 ∧ b % 9223372036854775808 = 0)) := by
  obtain ⟨o1, o2, o3⟩ := Go.Proofs.SxFl.or_size_zero ha.1 ha.2 hb.1 hb.2
  unfold eqV
  rw [na, nb, ← bits_or, szV_mod ⟨o1, o2⟩]
  simp only [Bool.not_false, Bool.true_and, Bool.or_eq_true, beq_iff_eq]
  exact or_congr Iff.rfl o3
theorem lessV_iff {a b : Int} (ha : UU a) (hb : UU b) : lessV a b = true ↔ LessP a b := by
  have na := nanV_cls ha
  have nb := nanV_cls hb
  have h0 := ha.1; have h1 := ha.2; have h2 := hb.1; have h3 := hb.2
  unfold LessP lessV
  by_cases ca : cls a = 4
  · rw [na, decide_eq_true ca]; exact ⟨fun h => (by simp at h), fun h => absurd ca h.1⟩
  by_cases cb : cls b = 4
  · rw [nb, decide_eq_true cb]; exact ⟨fun h => (by simp at h), fun h => absurd cb h.2.1⟩
  rw [decide_eq_false ca] at na
  rw [decide_eq_false cb] at nb
  have he := eqV_of ha hb na nb
  rw [na, nb]
  simp only [Bool.not_false, Bool.true_and, Bool.and_eq_true, Bool.not_eq_true', decide_eq_true_eq]
  rw [← Bool.not_eq_true, he]
  have hc : cmpV (rankV a) (rankV b) < 0 ↔ rankV a < rankV b := by
    unfold cmpV
    by_cases c : rankV a < rankV b
    · rw [decide_eq_true c]; exact ⟨fun _ => c, fun _ => by show (-1 : Int) < 0; decide⟩
    · rw [decide_eq_false c]
      refine ⟨fun h => ?_, fun h => absurd h c⟩
      by_cases d : rankV a > rankV b
      · rw [decide_eq_true d] at h; exact absurd h (by decide)
      · rw [decide_eq_false d] at h; exact absurd h (by decide)
  rw [hc, rankV_of ha, rankV_of hb]
  refine ⟨fun h => ⟨ca, cb, ?_⟩, fun h => ?_⟩
  · obtain ⟨h4, h5⟩ := h
    refine ⟨fun h6 => h4 (.inr h6), ?_⟩
    (repeat' split at h5) <;> (repeat' split) <;> first | trivial | omega
  · obtain ⟨_, _, h4, h5⟩ := h
    refine ⟨fun h6 => ?_, ?_⟩
    · rcases h6 with rfl | h6
      · (repeat' split at h5) <;> omega
      · exact h4 h6
    · (repeat' split at h5) <;> (repeat' split) <;> first | trivial | omega
end Sx
/-! Contracts: the reference's sum of two doubles. -/
namespace Sx
open Go Go.Proofs
open Sx.Pf (hygref6_Add.j2 hygref6_Add.j3 hygref6_parts.f hygref6_round.f hygref6_neg.f)
open Go.Proofs.SxPu (cls qt sz sg addV subV ng finV sumV)
set_option linter.unusedVariables false
set_option linter.unusedSimpArgs false
set_option maxRecDepth 30000
variable {G : Glob}
def addTP (P : Int → Int → Prop) : List U → Out SV
  | [.c (.v (.int .u64 a)), .c (.v (.int .u64 b))] => .need (UU a ∧ UU b ∧ P a b) (one (U64 (addV a b)))
  | _ => .fail
def P0 (a b : Int) : Prop := ¬ (cls a < 3 ∧ cls b < 3) ∨ (sz a = 0 ∧ sz b = 0)
def P1 (a b : Int) : Prop := (cls a < 3 ∧ cls b < 3) ∧ sz a < sz b
def P2 (a b : Int) : Prop := (cls a < 3 ∧ cls b < 3) ∧ sz b ≤ sz a ∧ 0 < sz a
theorem Ok.byCases3 {f : FuncId} {g g0 g1 g2 : List U → Out SV} (h0 : Ok G f g0) (h1 : Ok G f g1) (h2 : Ok G f g2) (hm : ∀ us K, (g us).wp K → (g0 us).wp K ∨ (g1 us).wp K ∨ (g2 us).wp K) : Ok G f g := ⟨h0.1, fun K us X w vals hk => by
  rcases hm us K hk with h | h | h
  · exact h0.2 K us X w vals h
  · exact h1.2 K us X w vals h
  · exact h2.2 K us X w vals h⟩
theorem mu10 : (2 : Int) ^ min (Int.toNat 10) IntKind.u64.bits = 1024 := rfl
theorem addS_all {G : Glob} : AllSound (B [(91, .pure (normG (B []) [31] classT)), (92, .pure (normG (B []) [31] quietT)), (93, .pure (normG (B []) [31] rsizeT)), (94, .pure (normG (B []) [31] partsT)), (95, .pure (normG (B []) [31] rnegT)), (96, .pure (normG (B []) [4, 31, 3] rroundT))]) G :=
  .cons _ rclass_ex (.cons _ rquiet_ex (.cons _ rsize_ex (.cons _ parts_ex (.cons _ rneg_ex (.cons _ rround_ex noneS)))))

theorem radd_ex0 : Ok G 59 (addTP P0) := by
  refine okP addS_all Tryz.func59 rfl (by decide) fun K us hk => ?_
  unfold addTP at hk
  split at hk
  · rename_i a b
    refine ⟨by show 2 ≤ _; decide, ?_⟩
    obtain ⟨⟨ua, ub, hP⟩, hk⟩ := hk
    unfold P0 at hP
    have key : ∀ z, addV a b = z → K (.u (.c (U64 z))) := fun z h => fin hk (congrArg (fun z : Int => SV.u (.c (U64 z))) h)
    have av : addV a b = if cls a = 4 then qt a else if cls b = 4 then qt b else if cls a = 3 then (if cls b = 3 then (if a = b then a else 9221120237041090560) else a) else if cls b = 3 then b else finV a b := rfl
    have ra := Go.Proofs.SxPu.cls_range a
    have rb := Go.Proofs.SxPu.cls_range b
    conv => whnf
    refine ⟨ua, ?_⟩
    conv => whnf
    refine Ask.i (fun q8 => ?_) (fun q8 => ?_)
    · have q8 : cls a = 4 := eq_of_beq q8
      conv => whnf
      exact key _ (by rw [av]; (repeat' split) <;> first | rfl | (exfalso; omega))
    · have q8 : ¬ cls a = 4 := ne_of_beq_false q8
      conv => whnf
      refine ⟨ub, ?_⟩
      conv => whnf
      refine Ask.i (fun q9 => ?_) (fun q9 => ?_)
      · have q9 : cls b = 4 := eq_of_beq q9
        conv => whnf
        exact key _ (by rw [av]; (repeat' split) <;> first | rfl | (exfalso; omega))
      · have q9 : ¬ cls b = 4 := ne_of_beq_false q9
        conv => whnf
        refine ⟨ua, ?_⟩
        conv => whnf
        refine Ask.i (fun q1 => ?_) (fun q1 => ?_)
        · have q1 : cls a = 3 := eq_of_beq q1
          conv => whnf
          refine ⟨ub, ?_⟩
          conv => whnf
          refine Ask.i (fun q2 => ?_) (fun q2 => ?_)
          · have q2 : cls b = 3 := eq_of_beq q2
            conv => whnf
            refine Ask.i (fun q3 => ?_) (fun q3 => ?_)
            · have q3 : a ≠ b := bne_iff_ne.1 q3
              conv => whnf
              exact key _ (by rw [av]; (repeat' split) <;> first | rfl | (exfalso; omega))
            · have q3 : a = b := of_bne_false q3
              conv => whnf
              refine ⟨ua, ?_⟩
              conv => whnf
              refine Ask.i (fun q4 => ?_) (fun q4 => ?_)
              · have q4 : cls a = 3 := eq_of_beq q4
                conv => whnf
                exact key _ (by rw [av]; (repeat' split) <;> first | rfl | (exfalso; omega))
              · have q4 : ¬ cls a = 3 := ne_of_beq_false q4
                conv => whnf
                refine ⟨ub, ?_⟩
                conv => whnf
                refine Ask.i (fun q5 => ?_) (fun q5 => ?_)
                · have q5 : cls b = 3 := eq_of_beq q5
                  conv => whnf
                  exact key _ (by rw [av]; (repeat' split) <;> first | rfl | (exfalso; omega))
                · have q5 : ¬ cls b = 3 := ne_of_beq_false q5
                  conv => whnf
                  refine ⟨ua, ?_⟩
                  conv => whnf
                  refine Ask.i (fun q6 => ?_) (fun q6 => ?_)
                  · have q6 : ((sz a : Nat) : Int) = 0 := eq_of_beq q6
                    conv => whnf
                    refine ⟨ub, ?_⟩
                    conv => whnf
                    refine Ask.i (fun q7 => ?_) (fun q7 => ?_)
                    · have q7 : ((sz b : Nat) : Int) = 0 := eq_of_beq q7
                      have q6 : sz a = 0 := Int.ofNat.inj q6
                      have q7 : sz b = 0 := Int.ofNat.inj q7
                      conv => whnf
                      exact key _ (by rw [av, if_neg (by omega), if_neg (by omega), if_neg (by omega), if_neg (by omega), Go.Proofs.SxPu.finV_zero ua ub q6 q7]; rfl)
                    · have q7 : ¬ ((sz b : Nat) : Int) = 0 := ne_of_beq_false q7
                      have q6 : sz a = 0 := Int.ofNat.inj q6
                      have q7 : ¬ sz b = 0 := fun h => q7 (by rw [h]; rfl)
                      exfalso; omega
                  · have q6 : ¬ ((sz a : Nat) : Int) = 0 := ne_of_beq_false q6
                    have q6 : ¬ sz a = 0 := fun h => q6 (by rw [h]; rfl)
                    exfalso; omega
          · have q2 : ¬ cls b = 3 := ne_of_beq_false q2
            conv => whnf
            refine ⟨ua, ?_⟩
            conv => whnf
            refine Ask.i (fun q4 => ?_) (fun q4 => ?_)
            · have q4 : cls a = 3 := eq_of_beq q4
              conv => whnf
              exact key _ (by rw [av]; (repeat' split) <;> first | rfl | (exfalso; omega))
            · have q4 : ¬ cls a = 3 := ne_of_beq_false q4
              conv => whnf
              refine ⟨ub, ?_⟩
              conv => whnf
              refine Ask.i (fun q5 => ?_) (fun q5 => ?_)
              · have q5 : cls b = 3 := eq_of_beq q5
                conv => whnf
                exact key _ (by rw [av]; (repeat' split) <;> first | rfl | (exfalso; omega))
              · have q5 : ¬ cls b = 3 := ne_of_beq_false q5
                conv => whnf
                refine ⟨ua, ?_⟩
                conv => whnf
                refine Ask.i (fun q6 => ?_) (fun q6 => ?_)
                · have q6 : ((sz a : Nat) : Int) = 0 := eq_of_beq q6
                  conv => whnf
                  refine ⟨ub, ?_⟩
                  conv => whnf
                  refine Ask.i (fun q7 => ?_) (fun q7 => ?_)
                  · have q7 : ((sz b : Nat) : Int) = 0 := eq_of_beq q7
                    have q6 : sz a = 0 := Int.ofNat.inj q6
                    have q7 : sz b = 0 := Int.ofNat.inj q7
                    conv => whnf
                    exact key _ (by rw [av, if_neg (by omega), if_neg (by omega), if_neg (by omega), if_neg (by omega), Go.Proofs.SxPu.finV_zero ua ub q6 q7]; rfl)
                  · have q7 : ¬ ((sz b : Nat) : Int) = 0 := ne_of_beq_false q7
                    have q6 : sz a = 0 := Int.ofNat.inj q6
                    have q7 : ¬ sz b = 0 := fun h => q7 (by rw [h]; rfl)
                    exfalso; omega
                · have q6 : ¬ ((sz a : Nat) : Int) = 0 := ne_of_beq_false q6
                  have q6 : ¬ sz a = 0 := fun h => q6 (by rw [h]; rfl)
                  exfalso; omega
        · have q1 : ¬ cls a = 3 := ne_of_beq_false q1
          conv => whnf
          refine ⟨ua, ?_⟩
          conv => whnf
          refine Ask.i (fun q4 => ?_) (fun q4 => ?_)
          · have q4 : cls a = 3 := eq_of_beq q4
            conv => whnf
            exact key _ (by rw [av]; (repeat' split) <;> first | rfl | (exfalso; omega))
          · have q4 : ¬ cls a = 3 := ne_of_beq_false q4
            conv => whnf
            refine ⟨ub, ?_⟩
            conv => whnf
            refine Ask.i (fun q5 => ?_) (fun q5 => ?_)
            · have q5 : cls b = 3 := eq_of_beq q5
              conv => whnf
              exact key _ (by rw [av]; (repeat' split) <;> first | rfl | (exfalso; omega))
            · have q5 : ¬ cls b = 3 := ne_of_beq_false q5
              conv => whnf
              refine ⟨ua, ?_⟩
              conv => whnf
              refine Ask.i (fun q6 => ?_) (fun q6 => ?_)
              · have q6 : ((sz a : Nat) : Int) = 0 := eq_of_beq q6
                conv => whnf
                refine ⟨ub, ?_⟩
                conv => whnf
                refine Ask.i (fun q7 => ?_) (fun q7 => ?_)
                · have q7 : ((sz b : Nat) : Int) = 0 := eq_of_beq q7
                  have q6 : sz a = 0 := Int.ofNat.inj q6
                  have q7 : sz b = 0 := Int.ofNat.inj q7
                  conv => whnf
                  exact key _ (by rw [av, if_neg (by omega), if_neg (by omega), if_neg (by omega), if_neg (by omega), Go.Proofs.SxPu.finV_zero ua ub q6 q7]; rfl)
                · have q7 : ¬ ((sz b : Nat) : Int) = 0 := ne_of_beq_false q7
                  have q6 : sz a = 0 := Int.ofNat.inj q6
                  have q7 : ¬ sz b = 0 := fun h => q7 (by rw [h]; rfl)
                  exfalso; omega
              · have q6 : ¬ ((sz a : Nat) : Int) = 0 := ne_of_beq_false q6
                have q6 : ¬ sz a = 0 := fun h => q6 (by rw [h]; rfl)
                exfalso; omega
  · exact hk.elim
theorem radd_ex1 : Ok G 59 (addTP P1) := by
  refine okP addS_all Tryz.func59 rfl (by decide) fun K us hk => ?_
  unfold addTP at hk
  split at hk
  · rename_i a b
    refine ⟨by show 2 ≤ _; decide, ?_⟩
    obtain ⟨⟨ua, ub, hP⟩, hk⟩ := hk
    unfold P1 at hP
    have key : ∀ z, addV a b = z → K (.u (.c (U64 z))) := fun z h => fin hk (congrArg (fun z : Int => SV.u (.c (U64 z))) h)
    have av : addV a b = if cls a = 4 then qt a else if cls b = 4 then qt b else if cls a = 3 then (if cls b = 3 then (if a = b then a else 9221120237041090560) else a) else if cls b = 3 then b else finV a b := rfl
    have ra := Go.Proofs.SxPu.cls_range a
    have rb := Go.Proofs.SxPu.cls_range b
    conv => whnf
    refine ⟨ua, ?_⟩
    conv => whnf
    refine Ask.i (fun q8 => ?_) (fun q8 => ?_)
    · have q8 : cls a = 4 := eq_of_beq q8
      exfalso; omega
    · have q8 : ¬ cls a = 4 := ne_of_beq_false q8
      conv => whnf
      refine ⟨ub, ?_⟩
      conv => whnf
      refine Ask.i (fun q9 => ?_) (fun q9 => ?_)
      · have q9 : cls b = 4 := eq_of_beq q9
        exfalso; omega
      · have q9 : ¬ cls b = 4 := ne_of_beq_false q9
        conv => whnf
        refine ⟨ua, ?_⟩
        conv => whnf
        refine Ask.i (fun q1 => ?_) (fun q1 => ?_)
        · have q1 : cls a = 3 := eq_of_beq q1
          exfalso; omega
        · have q1 : ¬ cls a = 3 := ne_of_beq_false q1
          conv => whnf
          refine ⟨ua, ?_⟩
          conv => whnf
          refine Ask.i (fun q4 => ?_) (fun q4 => ?_)
          · have q4 : cls a = 3 := eq_of_beq q4
            exfalso; omega
          · have q4 : ¬ cls a = 3 := ne_of_beq_false q4
            conv => whnf
            refine ⟨ub, ?_⟩
            conv => whnf
            refine Ask.i (fun q5 => ?_) (fun q5 => ?_)
            · have q5 : cls b = 3 := eq_of_beq q5
              exfalso; omega
            · have q5 : ¬ cls b = 3 := ne_of_beq_false q5
              conv => whnf
              refine ⟨ua, ?_⟩
              conv => whnf
              refine Ask.i (fun q6 => ?_) (fun q6 => ?_)
              · have q6 : ((sz a : Nat) : Int) = 0 := eq_of_beq q6
                conv => whnf
                refine ⟨ub, ?_⟩
                conv => whnf
                refine Ask.i (fun q7 => ?_) (fun q7 => ?_)
                · have q7 : ((sz b : Nat) : Int) = 0 := eq_of_beq q7
                  have q6 : sz a = 0 := Int.ofNat.inj q6
                  have q7 : sz b = 0 := Int.ofNat.inj q7
                  exfalso; omega
                · have q7 : ¬ ((sz b : Nat) : Int) = 0 := ne_of_beq_false q7
                  have q6 : sz a = 0 := Int.ofNat.inj q6
                  have q7 : ¬ sz b = 0 := fun h => q7 (by rw [h]; rfl)
                  have av2 : addV a b = sumV b a := by rw [av, if_neg (by omega), if_neg (by omega), if_neg (by omega), if_neg (by omega)]; unfold finV; rw [if_pos (by omega)]
                  have hr := Go.Proofs.SxPu.radd_j2 (k := 197 + 1) (x := b) (y := a) ub ua (by decide) (by have := Go.Proofs.SxPu.cls_fin ub (by omega); exact this) (by omega) (by omega)
                  generalize sumV b a = R at av2 hr
                  have key2 : ∀ z, z = R → K (.u (.c (U64 z))) := fun z h => key z (av2.trans h.symm)
                  clear key hk av av2
                  rw [hygref6_Add.j2] at hr
                  obtain ⟨v1, h1, hr⟩ := Option.bind_eq_some_iff.1 hr
                  obtain ⟨v2, h2, hr⟩ := Option.bind_eq_some_iff.1 hr
                  simp only [hygref6_Add.j3, Go.Proofs.SxPu.rneg_f ub, Go.Proofs.SxPu.rneg_f ua, Option.bind_some, rw64, bits_or, bits_and] at hr
                  conv => whnf
                  refine ⟨ua, ?_⟩
                  conv => whnf
                  refine ⟨ub, ?_⟩
                  conv => whnf
                  refine Ask.i (fun s0 => ?_) (fun s0 => ?_)
                  · replace s0 : ((sz a : Nat) : Int) < ((sz b : Nat) : Int) := of_decide_eq_true s0
                    conv => whnf
                    refine ⟨by rw [h1]; rfl, ?_⟩
                    conv => whnf
                    intro p1 e1
                    obtain rfl := optG_eq h1 e1
                    conv => whnf
                    refine ⟨by rw [h2]; rfl, ?_⟩
                    conv => whnf
                    intro p2 e2
                    obtain rfl := optG_eq h2 e2
                    conv => whnf
                    refine ⟨by decide, ?_⟩
                    conv => whnf
                    refine ⟨by decide, ?_⟩
                    conv => whnf
                    generalize hm : IntKind.u64.wrap (p1.1 * 2 ^ min (Int.toNat 10) IntKind.u64.bits) = mm
                    generalize hn : IntKind.u64.wrap (p2.1 * 2 ^ min (Int.toNat 10) IntKind.u64.bits) = nn
                    generalize he : IntKind.i64.wrap (p1.2 - 10) = ee
                    generalize hf : IntKind.i64.wrap (p2.2 - 10) = ff
                    generalize hd : IntKind.i64.wrap (ee - ff) = dd
                    rw [show IntKind.u64.wrap (p1.1 * 1024) = mm from hm, show IntKind.u64.wrap (p2.1 * 1024) = nn from hn, show w64 (p1.2 - 10) = ee from he, show w64 (p2.2 - 10) = ff from hf, show w64 (ee - ff) = dd from hd] at hr
                    clear hm hn he hf hd h1 h2 e1 e2
                    refine Ask.i (fun t0 => ?_) (fun t0 => ?_)
                    · replace t0 : dd > 0 := of_decide_eq_true t0
                      replace hr := itp hr t0
                      conv => whnf
                      refine Ask.i (fun t1 => ?_) (fun t1 => ?_)
                      · replace t1 : dd > 63 := of_decide_eq_true t1
                        replace hr := itp hr t1
                        conv => whnf
                        refine Ask.i (fun t2 => ?_) (fun t2 => ?_)
                        · replace t2 : nn > 0 := of_decide_eq_true t2
                          replace hr := itp hr t2
                          conv => whnf
                          refine ⟨ub, ?_⟩
                          conv => whnf
                          refine ⟨ua, ?_⟩
                          conv => whnf
                          refine Ask.i (fun s1 => ?_) (fun s1 => ?_)
                          · have s1 : decide (9223372036854775808 ≤ b) = decide (9223372036854775808 ≤ a) := eq_of_beq s1
                            replace hr := itp hr (beq_iff_eq.2 s1)
                            conv => whnf
                            refine ⟨ub, ?_⟩
                            conv => whnf
                            obtain ⟨v5, h5, hr⟩ := Option.bind_eq_some_iff.1 hr
                            refine ⟨Option.isSome_iff_exists.2 ⟨_, h5⟩, ?_⟩
                            conv => whnf
                            intro p5 e5
                            obtain rfl := optG_eq h5 e5
                            conv => whnf
                            exact key2 _ (Option.some.inj hr)
                          · have s1 : ¬ decide (9223372036854775808 ≤ b) = decide (9223372036854775808 ≤ a) := ne_of_beq_false s1
                            replace hr := itn hr (fun h => s1 (eq_of_beq h))
                            conv => whnf
                            refine Ask.i (fun s2 => ?_) (fun s2 => ?_)
                            · replace s2 := eq_of_beq s2
                              replace hr := itp hr s2
                              conv => whnf
                              exact key2 _ (Option.some.inj hr)
                            · replace s2 := ne_of_beq_false s2
                              replace hr := itn hr s2
                              conv => whnf
                              refine ⟨ub, ?_⟩
                              conv => whnf
                              obtain ⟨v5, h5, hr⟩ := Option.bind_eq_some_iff.1 hr
                              refine ⟨Option.isSome_iff_exists.2 ⟨_, h5⟩, ?_⟩
                              conv => whnf
                              intro p5 e5
                              obtain rfl := optG_eq h5 e5
                              conv => whnf
                              exact key2 _ (Option.some.inj hr)
                        · replace t2 : ¬ nn > 0 := of_decide_eq_false t2
                          replace hr := itn hr t2
                          conv => whnf
                          refine ⟨ub, ?_⟩
                          conv => whnf
                          refine ⟨ua, ?_⟩
                          conv => whnf
                          refine Ask.i (fun s1 => ?_) (fun s1 => ?_)
                          · have s1 : decide (9223372036854775808 ≤ b) = decide (9223372036854775808 ≤ a) := eq_of_beq s1
                            replace hr := itp hr (beq_iff_eq.2 s1)
                            conv => whnf
                            refine ⟨ub, ?_⟩
                            conv => whnf
                            obtain ⟨v5, h5, hr⟩ := Option.bind_eq_some_iff.1 hr
                            refine ⟨Option.isSome_iff_exists.2 ⟨_, h5⟩, ?_⟩
                            conv => whnf
                            intro p5 e5
                            obtain rfl := optG_eq h5 e5
                            conv => whnf
                            exact key2 _ (Option.some.inj hr)
                          · have s1 : ¬ decide (9223372036854775808 ≤ b) = decide (9223372036854775808 ≤ a) := ne_of_beq_false s1
                            replace hr := itn hr (fun h => s1 (eq_of_beq h))
                            conv => whnf
                            refine Ask.i (fun s2 => ?_) (fun s2 => ?_)
                            · replace s2 := eq_of_beq s2
                              replace hr := itp hr s2
                              conv => whnf
                              exact key2 _ (Option.some.inj hr)
                            · replace s2 := ne_of_beq_false s2
                              replace hr := itn hr s2
                              conv => whnf
                              refine ⟨ub, ?_⟩
                              conv => whnf
                              obtain ⟨v5, h5, hr⟩ := Option.bind_eq_some_iff.1 hr
                              refine ⟨Option.isSome_iff_exists.2 ⟨_, h5⟩, ?_⟩
                              conv => whnf
                              intro p5 e5
                              obtain rfl := optG_eq h5 e5
                              conv => whnf
                              exact key2 _ (Option.some.inj hr)
                      · replace t1 : ¬ dd > 63 := of_decide_eq_false t1
                        replace hr := itp (itn hr t1) (x64_r _).1
                        conv => whnf
                        refine ⟨(x64_r _).1, ?_⟩
                        generalize hq : IntKind.u64.wrap (1 * 2 ^ min (IntKind.u64.wrap dd).toNat IntKind.u64.bits) = qq
                        change runOps (B _) Tryz.f59.ntmps _ _ _ _ _
                        unfold runOps
                        change (stepO _ _ _ _).wp _
                        change runOps (B _) Tryz.f59.ntmps _ _ _ _ _
                        unfold runOps
                        change (stepO _ _ _ _).wp _
                        change runOps (B _) Tryz.f59.ntmps _ _ _ _ _
                        unfold runOps
                        change (stepO _ _ _ _).wp _
                        change runOps (B _) Tryz.f59.ntmps _ _ _ _ _
                        unfold runOps
                        change wpC _ _ _ _ _ _ _ _
                        unfold wpC
                        change Ask (decide (IntKind.u64.wrap _ > 0)) _
                        unfold Ask
                        refine Ask.i (fun t2 => ?_) (fun t2 => ?_)
                        · replace t2 := of_decide_eq_true t2
                          rw [← hq] at t2
                          replace hr := itp hr t2
                          clear hq t2
                          conv => whnf
                          refine ⟨(x64_r _).1, ?_⟩
                          generalize hs : nn.fdiv (2 ^ min (IntKind.u64.wrap dd).toNat IntKind.u64.bits) = ss
                          rw [show Sx.Pf.shr IntKind.u64 nn (IntKind.u64.wrap dd) = ss from (fdn _ _).symm.trans hs] at hr
                          clear hs
                          conv => whnf
                          refine ⟨ub, ?_⟩
                          conv => whnf
                          refine ⟨ua, ?_⟩
                          conv => whnf
                          refine Ask.i (fun s1 => ?_) (fun s1 => ?_)
                          · have s1 : decide (9223372036854775808 ≤ b) = decide (9223372036854775808 ≤ a) := eq_of_beq s1
                            replace hr := itp hr (beq_iff_eq.2 s1)
                            conv => whnf
                            refine ⟨ub, ?_⟩
                            conv => whnf
                            obtain ⟨v5, h5, hr⟩ := Option.bind_eq_some_iff.1 hr
                            refine ⟨Option.isSome_iff_exists.2 ⟨_, h5⟩, ?_⟩
                            conv => whnf
                            intro p5 e5
                            obtain rfl := optG_eq h5 e5
                            conv => whnf
                            exact key2 _ (Option.some.inj hr)
                          · have s1 : ¬ decide (9223372036854775808 ≤ b) = decide (9223372036854775808 ≤ a) := ne_of_beq_false s1
                            replace hr := itn hr (fun h => s1 (eq_of_beq h))
                            conv => whnf
                            refine Ask.i (fun s2 => ?_) (fun s2 => ?_)
                            · replace s2 := eq_of_beq s2
                              replace hr := itp hr s2
                              conv => whnf
                              exact key2 _ (Option.some.inj hr)
                            · replace s2 := ne_of_beq_false s2
                              replace hr := itn hr s2
                              conv => whnf
                              refine ⟨ub, ?_⟩
                              conv => whnf
                              obtain ⟨v5, h5, hr⟩ := Option.bind_eq_some_iff.1 hr
                              refine ⟨Option.isSome_iff_exists.2 ⟨_, h5⟩, ?_⟩
                              conv => whnf
                              intro p5 e5
                              obtain rfl := optG_eq h5 e5
                              conv => whnf
                              exact key2 _ (Option.some.inj hr)
                        · replace t2 := of_decide_eq_false t2
                          rw [← hq] at t2
                          replace hr := itn hr t2
                          clear hq t2
                          conv => whnf
                          refine ⟨(x64_r _).1, ?_⟩
                          generalize hs : nn.fdiv (2 ^ min (IntKind.u64.wrap dd).toNat IntKind.u64.bits) = ss
                          rw [show Sx.Pf.shr IntKind.u64 nn (IntKind.u64.wrap dd) = ss from (fdn _ _).symm.trans hs] at hr
                          clear hs
                          conv => whnf
                          refine ⟨ub, ?_⟩
                          conv => whnf
                          refine ⟨ua, ?_⟩
                          conv => whnf
                          refine Ask.i (fun s1 => ?_) (fun s1 => ?_)
                          · have s1 : decide (9223372036854775808 ≤ b) = decide (9223372036854775808 ≤ a) := eq_of_beq s1
                            replace hr := itp hr (beq_iff_eq.2 s1)
                            conv => whnf
                            refine ⟨ub, ?_⟩
                            conv => whnf
                            obtain ⟨v5, h5, hr⟩ := Option.bind_eq_some_iff.1 hr
                            refine ⟨Option.isSome_iff_exists.2 ⟨_, h5⟩, ?_⟩
                            conv => whnf
                            intro p5 e5
                            obtain rfl := optG_eq h5 e5
                            conv => whnf
                            exact key2 _ (Option.some.inj hr)
                          · have s1 : ¬ decide (9223372036854775808 ≤ b) = decide (9223372036854775808 ≤ a) := ne_of_beq_false s1
                            replace hr := itn hr (fun h => s1 (eq_of_beq h))
                            conv => whnf
                            refine Ask.i (fun s2 => ?_) (fun s2 => ?_)
                            · replace s2 := eq_of_beq s2
                              replace hr := itp hr s2
                              conv => whnf
                              exact key2 _ (Option.some.inj hr)
                            · replace s2 := ne_of_beq_false s2
                              replace hr := itn hr s2
                              conv => whnf
                              refine ⟨ub, ?_⟩
                              conv => whnf
                              obtain ⟨v5, h5, hr⟩ := Option.bind_eq_some_iff.1 hr
                              refine ⟨Option.isSome_iff_exists.2 ⟨_, h5⟩, ?_⟩
                              conv => whnf
                              intro p5 e5
                              obtain rfl := optG_eq h5 e5
                              conv => whnf
                              exact key2 _ (Option.some.inj hr)
                    · replace t0 : ¬ dd > 0 := of_decide_eq_false t0
                      replace hr := itn hr t0
                      conv => whnf
                      refine ⟨ub, ?_⟩
                      conv => whnf
                      refine ⟨ua, ?_⟩
                      conv => whnf
                      refine Ask.i (fun s1 => ?_) (fun s1 => ?_)
                      · have s1 : decide (9223372036854775808 ≤ b) = decide (9223372036854775808 ≤ a) := eq_of_beq s1
                        replace hr := itp hr (beq_iff_eq.2 s1)
                        conv => whnf
                        refine ⟨ub, ?_⟩
                        conv => whnf
                        obtain ⟨v5, h5, hr⟩ := Option.bind_eq_some_iff.1 hr
                        refine ⟨Option.isSome_iff_exists.2 ⟨_, h5⟩, ?_⟩
                        conv => whnf
                        intro p5 e5
                        obtain rfl := optG_eq h5 e5
                        conv => whnf
                        exact key2 _ (Option.some.inj hr)
                      · have s1 : ¬ decide (9223372036854775808 ≤ b) = decide (9223372036854775808 ≤ a) := ne_of_beq_false s1
                        replace hr := itn hr (fun h => s1 (eq_of_beq h))
                        conv => whnf
                        refine Ask.i (fun s2 => ?_) (fun s2 => ?_)
                        · replace s2 := eq_of_beq s2
                          replace hr := itp hr s2
                          conv => whnf
                          exact key2 _ (Option.some.inj hr)
                        · replace s2 := ne_of_beq_false s2
                          replace hr := itn hr s2
                          conv => whnf
                          refine ⟨ub, ?_⟩
                          conv => whnf
                          obtain ⟨v5, h5, hr⟩ := Option.bind_eq_some_iff.1 hr
                          refine ⟨Option.isSome_iff_exists.2 ⟨_, h5⟩, ?_⟩
                          conv => whnf
                          intro p5 e5
                          obtain rfl := optG_eq h5 e5
                          conv => whnf
                          exact key2 _ (Option.some.inj hr)
                  · replace s0 : ¬ ((sz a : Nat) : Int) < ((sz b : Nat) : Int) := of_decide_eq_false s0
                    exfalso; omega
              · have q6 : ¬ ((sz a : Nat) : Int) = 0 := ne_of_beq_false q6
                have q6 : ¬ sz a = 0 := fun h => q6 (by rw [h]; rfl)
                have av2 : addV a b = sumV b a := by rw [av, if_neg (by omega), if_neg (by omega), if_neg (by omega), if_neg (by omega)]; unfold finV; rw [if_pos (by omega)]
                have hr := Go.Proofs.SxPu.radd_j2 (k := 197 + 1) (x := b) (y := a) ub ua (by decide) (by have := Go.Proofs.SxPu.cls_fin ub (by omega); exact this) (by omega) (by omega)
                generalize sumV b a = R at av2 hr
                have key2 : ∀ z, z = R → K (.u (.c (U64 z))) := fun z h => key z (av2.trans h.symm)
                clear key hk av av2
                rw [hygref6_Add.j2] at hr
                obtain ⟨v1, h1, hr⟩ := Option.bind_eq_some_iff.1 hr
                obtain ⟨v2, h2, hr⟩ := Option.bind_eq_some_iff.1 hr
                simp only [hygref6_Add.j3, Go.Proofs.SxPu.rneg_f ub, Go.Proofs.SxPu.rneg_f ua, Option.bind_some, rw64, bits_or, bits_and] at hr
                conv => whnf
                refine ⟨ua, ?_⟩
                conv => whnf
                refine ⟨ub, ?_⟩
                conv => whnf
                refine Ask.i (fun s0 => ?_) (fun s0 => ?_)
                · replace s0 : ((sz a : Nat) : Int) < ((sz b : Nat) : Int) := of_decide_eq_true s0
                  conv => whnf
                  refine ⟨by rw [h1]; rfl, ?_⟩
                  conv => whnf
                  intro p1 e1
                  obtain rfl := optG_eq h1 e1
                  conv => whnf
                  refine ⟨by rw [h2]; rfl, ?_⟩
                  conv => whnf
                  intro p2 e2
                  obtain rfl := optG_eq h2 e2
                  conv => whnf
                  refine ⟨by decide, ?_⟩
                  conv => whnf
                  refine ⟨by decide, ?_⟩
                  conv => whnf
                  generalize hm : IntKind.u64.wrap (p1.1 * 2 ^ min (Int.toNat 10) IntKind.u64.bits) = mm
                  generalize hn : IntKind.u64.wrap (p2.1 * 2 ^ min (Int.toNat 10) IntKind.u64.bits) = nn
                  generalize he : IntKind.i64.wrap (p1.2 - 10) = ee
                  generalize hf : IntKind.i64.wrap (p2.2 - 10) = ff
                  generalize hd : IntKind.i64.wrap (ee - ff) = dd
                  rw [show IntKind.u64.wrap (p1.1 * 1024) = mm from hm, show IntKind.u64.wrap (p2.1 * 1024) = nn from hn, show w64 (p1.2 - 10) = ee from he, show w64 (p2.2 - 10) = ff from hf, show w64 (ee - ff) = dd from hd] at hr
                  clear hm hn he hf hd h1 h2 e1 e2
                  refine Ask.i (fun t0 => ?_) (fun t0 => ?_)
                  · replace t0 : dd > 0 := of_decide_eq_true t0
                    replace hr := itp hr t0
                    conv => whnf
                    refine Ask.i (fun t1 => ?_) (fun t1 => ?_)
                    · replace t1 : dd > 63 := of_decide_eq_true t1
                      replace hr := itp hr t1
                      conv => whnf
                      refine Ask.i (fun t2 => ?_) (fun t2 => ?_)
                      · replace t2 : nn > 0 := of_decide_eq_true t2
                        replace hr := itp hr t2
                        conv => whnf
                        refine ⟨ub, ?_⟩
                        conv => whnf
                        refine ⟨ua, ?_⟩
                        conv => whnf
                        refine Ask.i (fun s1 => ?_) (fun s1 => ?_)
                        · have s1 : decide (9223372036854775808 ≤ b) = decide (9223372036854775808 ≤ a) := eq_of_beq s1
                          replace hr := itp hr (beq_iff_eq.2 s1)
                          conv => whnf
                          refine ⟨ub, ?_⟩
                          conv => whnf
                          obtain ⟨v5, h5, hr⟩ := Option.bind_eq_some_iff.1 hr
                          refine ⟨Option.isSome_iff_exists.2 ⟨_, h5⟩, ?_⟩
                          conv => whnf
                          intro p5 e5
                          obtain rfl := optG_eq h5 e5
                          conv => whnf
                          exact key2 _ (Option.some.inj hr)
                        · have s1 : ¬ decide (9223372036854775808 ≤ b) = decide (9223372036854775808 ≤ a) := ne_of_beq_false s1
                          replace hr := itn hr (fun h => s1 (eq_of_beq h))
                          conv => whnf
                          refine Ask.i (fun s2 => ?_) (fun s2 => ?_)
                          · replace s2 := eq_of_beq s2
                            replace hr := itp hr s2
                            conv => whnf
                            exact key2 _ (Option.some.inj hr)
                          · replace s2 := ne_of_beq_false s2
                            replace hr := itn hr s2
                            conv => whnf
                            refine ⟨ub, ?_⟩
                            conv => whnf
                            obtain ⟨v5, h5, hr⟩ := Option.bind_eq_some_iff.1 hr
                            refine ⟨Option.isSome_iff_exists.2 ⟨_, h5⟩, ?_⟩
                            conv => whnf
                            intro p5 e5
                            obtain rfl := optG_eq h5 e5
                            conv => whnf
                            exact key2 _ (Option.some.inj hr)
                      · replace t2 : ¬ nn > 0 := of_decide_eq_false t2
                        replace hr := itn hr t2
                        conv => whnf
                        refine ⟨ub, ?_⟩
                        conv => whnf
                        refine ⟨ua, ?_⟩
                        conv => whnf
                        refine Ask.i (fun s1 => ?_) (fun s1 => ?_)
                        · have s1 : decide (9223372036854775808 ≤ b) = decide (9223372036854775808 ≤ a) := eq_of_beq s1
                          replace hr := itp hr (beq_iff_eq.2 s1)
                          conv => whnf
                          refine ⟨ub, ?_⟩
                          conv => whnf
                          obtain ⟨v5, h5, hr⟩ := Option.bind_eq_some_iff.1 hr
                          refine ⟨Option.isSome_iff_exists.2 ⟨_, h5⟩, ?_⟩
                          conv => whnf
                          intro p5 e5
                          obtain rfl := optG_eq h5 e5
                          conv => whnf
                          exact key2 _ (Option.some.inj hr)
                        · have s1 : ¬ decide (9223372036854775808 ≤ b) = decide (9223372036854775808 ≤ a) := ne_of_beq_false s1
                          replace hr := itn hr (fun h => s1 (eq_of_beq h))
                          conv => whnf
                          refine Ask.i (fun s2 => ?_) (fun s2 => ?_)
                          · replace s2 := eq_of_beq s2
                            replace hr := itp hr s2
                            conv => whnf
                            exact key2 _ (Option.some.inj hr)
                          · replace s2 := ne_of_beq_false s2
                            replace hr := itn hr s2
                            conv => whnf
                            refine ⟨ub, ?_⟩
                            conv => whnf
                            obtain ⟨v5, h5, hr⟩ := Option.bind_eq_some_iff.1 hr
                            refine ⟨Option.isSome_iff_exists.2 ⟨_, h5⟩, ?_⟩
                            conv => whnf
                            intro p5 e5
                            obtain rfl := optG_eq h5 e5
                            conv => whnf
                            exact key2 _ (Option.some.inj hr)
                    · replace t1 : ¬ dd > 63 := of_decide_eq_false t1
                      replace hr := itp (itn hr t1) (x64_r _).1
                      conv => whnf
                      refine ⟨(x64_r _).1, ?_⟩
                      generalize hq : IntKind.u64.wrap (1 * 2 ^ min (IntKind.u64.wrap dd).toNat IntKind.u64.bits) = qq
                      change runOps (B _) Tryz.f59.ntmps _ _ _ _ _
                      unfold runOps
                      change (stepO _ _ _ _).wp _
                      change runOps (B _) Tryz.f59.ntmps _ _ _ _ _
                      unfold runOps
                      change (stepO _ _ _ _).wp _
                      change runOps (B _) Tryz.f59.ntmps _ _ _ _ _
                      unfold runOps
                      change (stepO _ _ _ _).wp _
                      change runOps (B _) Tryz.f59.ntmps _ _ _ _ _
                      unfold runOps
                      change wpC _ _ _ _ _ _ _ _
                      unfold wpC
                      change Ask (decide (IntKind.u64.wrap _ > 0)) _
                      unfold Ask
                      refine Ask.i (fun t2 => ?_) (fun t2 => ?_)
                      · replace t2 := of_decide_eq_true t2
                        rw [← hq] at t2
                        replace hr := itp hr t2
                        clear hq t2
                        conv => whnf
                        refine ⟨(x64_r _).1, ?_⟩
                        generalize hs : nn.fdiv (2 ^ min (IntKind.u64.wrap dd).toNat IntKind.u64.bits) = ss
                        rw [show Sx.Pf.shr IntKind.u64 nn (IntKind.u64.wrap dd) = ss from (fdn _ _).symm.trans hs] at hr
                        clear hs
                        conv => whnf
                        refine ⟨ub, ?_⟩
                        conv => whnf
                        refine ⟨ua, ?_⟩
                        conv => whnf
                        refine Ask.i (fun s1 => ?_) (fun s1 => ?_)
                        · have s1 : decide (9223372036854775808 ≤ b) = decide (9223372036854775808 ≤ a) := eq_of_beq s1
                          replace hr := itp hr (beq_iff_eq.2 s1)
                          conv => whnf
                          refine ⟨ub, ?_⟩
                          conv => whnf
                          obtain ⟨v5, h5, hr⟩ := Option.bind_eq_some_iff.1 hr
                          refine ⟨Option.isSome_iff_exists.2 ⟨_, h5⟩, ?_⟩
                          conv => whnf
                          intro p5 e5
                          obtain rfl := optG_eq h5 e5
                          conv => whnf
                          exact key2 _ (Option.some.inj hr)
                        · have s1 : ¬ decide (9223372036854775808 ≤ b) = decide (9223372036854775808 ≤ a) := ne_of_beq_false s1
                          replace hr := itn hr (fun h => s1 (eq_of_beq h))
                          conv => whnf
                          refine Ask.i (fun s2 => ?_) (fun s2 => ?_)
                          · replace s2 := eq_of_beq s2
                            replace hr := itp hr s2
                            conv => whnf
                            exact key2 _ (Option.some.inj hr)
                          · replace s2 := ne_of_beq_false s2
                            replace hr := itn hr s2
                            conv => whnf
                            refine ⟨ub, ?_⟩
                            conv => whnf
                            obtain ⟨v5, h5, hr⟩ := Option.bind_eq_some_iff.1 hr
                            refine ⟨Option.isSome_iff_exists.2 ⟨_, h5⟩, ?_⟩
                            conv => whnf
                            intro p5 e5
                            obtain rfl := optG_eq h5 e5
                            conv => whnf
                            exact key2 _ (Option.some.inj hr)
                      · replace t2 := of_decide_eq_false t2
                        rw [← hq] at t2
                        replace hr := itn hr t2
                        clear hq t2
                        conv => whnf
                        refine ⟨(x64_r _).1, ?_⟩
                        generalize hs : nn.fdiv (2 ^ min (IntKind.u64.wrap dd).toNat IntKind.u64.bits) = ss
                        rw [show Sx.Pf.shr IntKind.u64 nn (IntKind.u64.wrap dd) = ss from (fdn _ _).symm.trans hs] at hr
                        clear hs
                        conv => whnf
                        refine ⟨ub, ?_⟩
                        conv => whnf
                        refine ⟨ua, ?_⟩
                        conv => whnf
                        refine Ask.i (fun s1 => ?_) (fun s1 => ?_)
                        · have s1 : decide (9223372036854775808 ≤ b) = decide (9223372036854775808 ≤ a) := eq_of_beq s1
                          replace hr := itp hr (beq_iff_eq.2 s1)
                          conv => whnf
                          refine ⟨ub, ?_⟩
                          conv => whnf
                          obtain ⟨v5, h5, hr⟩ := Option.bind_eq_some_iff.1 hr
                          refine ⟨Option.isSome_iff_exists.2 ⟨_, h5⟩, ?_⟩
                          conv => whnf
                          intro p5 e5
                          obtain rfl := optG_eq h5 e5
                          conv => whnf
                          exact key2 _ (Option.some.inj hr)
                        · have s1 : ¬ decide (9223372036854775808 ≤ b) = decide (9223372036854775808 ≤ a) := ne_of_beq_false s1
                          replace hr := itn hr (fun h => s1 (eq_of_beq h))
                          conv => whnf
                          refine Ask.i (fun s2 => ?_) (fun s2 => ?_)
                          · replace s2 := eq_of_beq s2
                            replace hr := itp hr s2
                            conv => whnf
                            exact key2 _ (Option.some.inj hr)
                          · replace s2 := ne_of_beq_false s2
                            replace hr := itn hr s2
                            conv => whnf
                            refine ⟨ub, ?_⟩
                            conv => whnf
                            obtain ⟨v5, h5, hr⟩ := Option.bind_eq_some_iff.1 hr
                            refine ⟨Option.isSome_iff_exists.2 ⟨_, h5⟩, ?_⟩
                            conv => whnf
                            intro p5 e5
                            obtain rfl := optG_eq h5 e5
                            conv => whnf
                            exact key2 _ (Option.some.inj hr)
                  · replace t0 : ¬ dd > 0 := of_decide_eq_false t0
                    replace hr := itn hr t0
                    conv => whnf
                    refine ⟨ub, ?_⟩
                    conv => whnf
                    refine ⟨ua, ?_⟩
                    conv => whnf
                    refine Ask.i (fun s1 => ?_) (fun s1 => ?_)
                    · have s1 : decide (9223372036854775808 ≤ b) = decide (9223372036854775808 ≤ a) := eq_of_beq s1
                      replace hr := itp hr (beq_iff_eq.2 s1)
                      conv => whnf
                      refine ⟨ub, ?_⟩
                      conv => whnf
                      obtain ⟨v5, h5, hr⟩ := Option.bind_eq_some_iff.1 hr
                      refine ⟨Option.isSome_iff_exists.2 ⟨_, h5⟩, ?_⟩
                      conv => whnf
                      intro p5 e5
                      obtain rfl := optG_eq h5 e5
                      conv => whnf
                      exact key2 _ (Option.some.inj hr)
                    · have s1 : ¬ decide (9223372036854775808 ≤ b) = decide (9223372036854775808 ≤ a) := ne_of_beq_false s1
                      replace hr := itn hr (fun h => s1 (eq_of_beq h))
                      conv => whnf
                      refine Ask.i (fun s2 => ?_) (fun s2 => ?_)
                      · replace s2 := eq_of_beq s2
                        replace hr := itp hr s2
                        conv => whnf
                        exact key2 _ (Option.some.inj hr)
                      · replace s2 := ne_of_beq_false s2
                        replace hr := itn hr s2
                        conv => whnf
                        refine ⟨ub, ?_⟩
                        conv => whnf
                        obtain ⟨v5, h5, hr⟩ := Option.bind_eq_some_iff.1 hr
                        refine ⟨Option.isSome_iff_exists.2 ⟨_, h5⟩, ?_⟩
                        conv => whnf
                        intro p5 e5
                        obtain rfl := optG_eq h5 e5
                        conv => whnf
                        exact key2 _ (Option.some.inj hr)
                · replace s0 : ¬ ((sz a : Nat) : Int) < ((sz b : Nat) : Int) := of_decide_eq_false s0
                  exfalso; omega
  · exact hk.elim
theorem radd_ex2 : Ok G 59 (addTP P2) := by
  refine okP addS_all Tryz.func59 rfl (by decide) fun K us hk => ?_
  unfold addTP at hk
  split at hk
  · rename_i a b
    refine ⟨by show 2 ≤ _; decide, ?_⟩
    obtain ⟨⟨ua, ub, hP⟩, hk⟩ := hk
    unfold P2 at hP
    have key : ∀ z, addV a b = z → K (.u (.c (U64 z))) := fun z h => fin hk (congrArg (fun z : Int => SV.u (.c (U64 z))) h)
    have av : addV a b = if cls a = 4 then qt a else if cls b = 4 then qt b else if cls a = 3 then (if cls b = 3 then (if a = b then a else 9221120237041090560) else a) else if cls b = 3 then b else finV a b := rfl
    have ra := Go.Proofs.SxPu.cls_range a
    have rb := Go.Proofs.SxPu.cls_range b
    conv => whnf
    refine ⟨ua, ?_⟩
    conv => whnf
    refine Ask.i (fun q8 => ?_) (fun q8 => ?_)
    · have q8 : cls a = 4 := eq_of_beq q8
      exfalso; omega
    · have q8 : ¬ cls a = 4 := ne_of_beq_false q8
      conv => whnf
      refine ⟨ub, ?_⟩
      conv => whnf
      refine Ask.i (fun q9 => ?_) (fun q9 => ?_)
      · have q9 : cls b = 4 := eq_of_beq q9
        exfalso; omega
      · have q9 : ¬ cls b = 4 := ne_of_beq_false q9
        conv => whnf
        refine ⟨ua, ?_⟩
        conv => whnf
        refine Ask.i (fun q1 => ?_) (fun q1 => ?_)
        · have q1 : cls a = 3 := eq_of_beq q1
          exfalso; omega
        · have q1 : ¬ cls a = 3 := ne_of_beq_false q1
          conv => whnf
          refine ⟨ua, ?_⟩
          conv => whnf
          refine Ask.i (fun q4 => ?_) (fun q4 => ?_)
          · have q4 : cls a = 3 := eq_of_beq q4
            exfalso; omega
          · have q4 : ¬ cls a = 3 := ne_of_beq_false q4
            conv => whnf
            refine ⟨ub, ?_⟩
            conv => whnf
            refine Ask.i (fun q5 => ?_) (fun q5 => ?_)
            · have q5 : cls b = 3 := eq_of_beq q5
              exfalso; omega
            · have q5 : ¬ cls b = 3 := ne_of_beq_false q5
              conv => whnf
              refine ⟨ua, ?_⟩
              conv => whnf
              refine Ask.i (fun q6 => ?_) (fun q6 => ?_)
              · have q6 : ((sz a : Nat) : Int) = 0 := eq_of_beq q6
                conv => whnf
                refine ⟨ub, ?_⟩
                conv => whnf
                refine Ask.i (fun q7 => ?_) (fun q7 => ?_)
                · have q7 : ((sz b : Nat) : Int) = 0 := eq_of_beq q7
                  have q6 : sz a = 0 := Int.ofNat.inj q6
                  have q7 : sz b = 0 := Int.ofNat.inj q7
                  exfalso; omega
                · have q7 : ¬ ((sz b : Nat) : Int) = 0 := ne_of_beq_false q7
                  have q6 : sz a = 0 := Int.ofNat.inj q6
                  have q7 : ¬ sz b = 0 := fun h => q7 (by rw [h]; rfl)
                  have av2 : addV a b = sumV a b := by rw [av, if_neg (by omega), if_neg (by omega), if_neg (by omega), if_neg (by omega)]; unfold finV; rw [if_neg (by omega)]
                  have hr := Go.Proofs.SxPu.radd_j2 (k := 197 + 1) (x := a) (y := b) ua ub (by decide) (by have := Go.Proofs.SxPu.cls_fin ua (by omega); exact this) (by omega) (by omega)
                  generalize sumV a b = R at av2 hr
                  have key2 : ∀ z, z = R → K (.u (.c (U64 z))) := fun z h => key z (av2.trans h.symm)
                  clear key hk av av2
                  rw [hygref6_Add.j2] at hr
                  obtain ⟨v1, h1, hr⟩ := Option.bind_eq_some_iff.1 hr
                  obtain ⟨v2, h2, hr⟩ := Option.bind_eq_some_iff.1 hr
                  simp only [hygref6_Add.j3, Go.Proofs.SxPu.rneg_f ua, Go.Proofs.SxPu.rneg_f ub, Option.bind_some, rw64, bits_or, bits_and] at hr
                  conv => whnf
                  refine ⟨ua, ?_⟩
                  conv => whnf
                  refine ⟨ub, ?_⟩
                  conv => whnf
                  refine Ask.i (fun s0 => ?_) (fun s0 => ?_)
                  · replace s0 : ((sz a : Nat) : Int) < ((sz b : Nat) : Int) := of_decide_eq_true s0
                    exfalso; omega
                  · replace s0 : ¬ ((sz a : Nat) : Int) < ((sz b : Nat) : Int) := of_decide_eq_false s0
                    conv => whnf
                    refine ⟨by rw [h1]; rfl, ?_⟩
                    conv => whnf
                    intro p1 e1
                    obtain rfl := optG_eq h1 e1
                    conv => whnf
                    refine ⟨by rw [h2]; rfl, ?_⟩
                    conv => whnf
                    intro p2 e2
                    obtain rfl := optG_eq h2 e2
                    conv => whnf
                    refine ⟨by decide, ?_⟩
                    conv => whnf
                    refine ⟨by decide, ?_⟩
                    conv => whnf
                    generalize hm : IntKind.u64.wrap (p1.1 * 2 ^ min (Int.toNat 10) IntKind.u64.bits) = mm
                    generalize hn : IntKind.u64.wrap (p2.1 * 2 ^ min (Int.toNat 10) IntKind.u64.bits) = nn
                    generalize he : IntKind.i64.wrap (p1.2 - 10) = ee
                    generalize hf : IntKind.i64.wrap (p2.2 - 10) = ff
                    generalize hd : IntKind.i64.wrap (ee - ff) = dd
                    rw [show IntKind.u64.wrap (p1.1 * 1024) = mm from hm, show IntKind.u64.wrap (p2.1 * 1024) = nn from hn, show w64 (p1.2 - 10) = ee from he, show w64 (p2.2 - 10) = ff from hf, show w64 (ee - ff) = dd from hd] at hr
                    clear hm hn he hf hd h1 h2 e1 e2
                    refine Ask.i (fun t0 => ?_) (fun t0 => ?_)
                    · replace t0 : dd > 0 := of_decide_eq_true t0
                      replace hr := itp hr t0
                      conv => whnf
                      refine Ask.i (fun t1 => ?_) (fun t1 => ?_)
                      · replace t1 : dd > 63 := of_decide_eq_true t1
                        replace hr := itp hr t1
                        conv => whnf
                        refine Ask.i (fun t2 => ?_) (fun t2 => ?_)
                        · replace t2 : nn > 0 := of_decide_eq_true t2
                          replace hr := itp hr t2
                          conv => whnf
                          refine ⟨ua, ?_⟩
                          conv => whnf
                          refine ⟨ub, ?_⟩
                          conv => whnf
                          refine Ask.i (fun s1 => ?_) (fun s1 => ?_)
                          · have s1 : decide (9223372036854775808 ≤ a) = decide (9223372036854775808 ≤ b) := eq_of_beq s1
                            replace hr := itp hr (beq_iff_eq.2 s1)
                            conv => whnf
                            refine ⟨ua, ?_⟩
                            conv => whnf
                            obtain ⟨v5, h5, hr⟩ := Option.bind_eq_some_iff.1 hr
                            refine ⟨Option.isSome_iff_exists.2 ⟨_, h5⟩, ?_⟩
                            conv => whnf
                            intro p5 e5
                            obtain rfl := optG_eq h5 e5
                            conv => whnf
                            exact key2 _ (Option.some.inj hr)
                          · have s1 : ¬ decide (9223372036854775808 ≤ a) = decide (9223372036854775808 ≤ b) := ne_of_beq_false s1
                            replace hr := itn hr (fun h => s1 (eq_of_beq h))
                            conv => whnf
                            refine Ask.i (fun s2 => ?_) (fun s2 => ?_)
                            · replace s2 := eq_of_beq s2
                              replace hr := itp hr s2
                              conv => whnf
                              exact key2 _ (Option.some.inj hr)
                            · replace s2 := ne_of_beq_false s2
                              replace hr := itn hr s2
                              conv => whnf
                              refine ⟨ua, ?_⟩
                              conv => whnf
                              obtain ⟨v5, h5, hr⟩ := Option.bind_eq_some_iff.1 hr
                              refine ⟨Option.isSome_iff_exists.2 ⟨_, h5⟩, ?_⟩
                              conv => whnf
                              intro p5 e5
                              obtain rfl := optG_eq h5 e5
                              conv => whnf
                              exact key2 _ (Option.some.inj hr)
                        · replace t2 : ¬ nn > 0 := of_decide_eq_false t2
                          replace hr := itn hr t2
                          conv => whnf
                          refine ⟨ua, ?_⟩
                          conv => whnf
                          refine ⟨ub, ?_⟩
                          conv => whnf
                          refine Ask.i (fun s1 => ?_) (fun s1 => ?_)
                          · have s1 : decide (9223372036854775808 ≤ a) = decide (9223372036854775808 ≤ b) := eq_of_beq s1
                            replace hr := itp hr (beq_iff_eq.2 s1)
                            conv => whnf
                            refine ⟨ua, ?_⟩
                            conv => whnf
                            obtain ⟨v5, h5, hr⟩ := Option.bind_eq_some_iff.1 hr
                            refine ⟨Option.isSome_iff_exists.2 ⟨_, h5⟩, ?_⟩
                            conv => whnf
                            intro p5 e5
                            obtain rfl := optG_eq h5 e5
                            conv => whnf
                            exact key2 _ (Option.some.inj hr)
                          · have s1 : ¬ decide (9223372036854775808 ≤ a) = decide (9223372036854775808 ≤ b) := ne_of_beq_false s1
                            replace hr := itn hr (fun h => s1 (eq_of_beq h))
                            conv => whnf
                            refine Ask.i (fun s2 => ?_) (fun s2 => ?_)
                            · replace s2 := eq_of_beq s2
                              replace hr := itp hr s2
                              conv => whnf
                              exact key2 _ (Option.some.inj hr)
                            · replace s2 := ne_of_beq_false s2
                              replace hr := itn hr s2
                              conv => whnf
                              refine ⟨ua, ?_⟩
                              conv => whnf
                              obtain ⟨v5, h5, hr⟩ := Option.bind_eq_some_iff.1 hr
                              refine ⟨Option.isSome_iff_exists.2 ⟨_, h5⟩, ?_⟩
                              conv => whnf
                              intro p5 e5
                              obtain rfl := optG_eq h5 e5
                              conv => whnf
                              exact key2 _ (Option.some.inj hr)
                      · replace t1 : ¬ dd > 63 := of_decide_eq_false t1
                        replace hr := itp (itn hr t1) (x64_r _).1
                        conv => whnf
                        refine ⟨(x64_r _).1, ?_⟩
                        generalize hq : IntKind.u64.wrap (1 * 2 ^ min (IntKind.u64.wrap dd).toNat IntKind.u64.bits) = qq
                        change runOps (B _) Tryz.f59.ntmps _ _ _ _ _
                        unfold runOps
                        change (stepO _ _ _ _).wp _
                        change runOps (B _) Tryz.f59.ntmps _ _ _ _ _
                        unfold runOps
                        change (stepO _ _ _ _).wp _
                        change runOps (B _) Tryz.f59.ntmps _ _ _ _ _
                        unfold runOps
                        change (stepO _ _ _ _).wp _
                        change runOps (B _) Tryz.f59.ntmps _ _ _ _ _
                        unfold runOps
                        change wpC _ _ _ _ _ _ _ _
                        unfold wpC
                        change Ask (decide (IntKind.u64.wrap _ > 0)) _
                        unfold Ask
                        refine Ask.i (fun t2 => ?_) (fun t2 => ?_)
                        · replace t2 := of_decide_eq_true t2
                          rw [← hq] at t2
                          replace hr := itp hr t2
                          clear hq t2
                          conv => whnf
                          refine ⟨(x64_r _).1, ?_⟩
                          generalize hs : nn.fdiv (2 ^ min (IntKind.u64.wrap dd).toNat IntKind.u64.bits) = ss
                          rw [show Sx.Pf.shr IntKind.u64 nn (IntKind.u64.wrap dd) = ss from (fdn _ _).symm.trans hs] at hr
                          clear hs
                          conv => whnf
                          refine ⟨ua, ?_⟩
                          conv => whnf
                          refine ⟨ub, ?_⟩
                          conv => whnf
                          refine Ask.i (fun s1 => ?_) (fun s1 => ?_)
                          · have s1 : decide (9223372036854775808 ≤ a) = decide (9223372036854775808 ≤ b) := eq_of_beq s1
                            replace hr := itp hr (beq_iff_eq.2 s1)
                            conv => whnf
                            refine ⟨ua, ?_⟩
                            conv => whnf
                            obtain ⟨v5, h5, hr⟩ := Option.bind_eq_some_iff.1 hr
                            refine ⟨Option.isSome_iff_exists.2 ⟨_, h5⟩, ?_⟩
                            conv => whnf
                            intro p5 e5
                            obtain rfl := optG_eq h5 e5
                            conv => whnf
                            exact key2 _ (Option.some.inj hr)
                          · have s1 : ¬ decide (9223372036854775808 ≤ a) = decide (9223372036854775808 ≤ b) := ne_of_beq_false s1
                            replace hr := itn hr (fun h => s1 (eq_of_beq h))
                            conv => whnf
                            refine Ask.i (fun s2 => ?_) (fun s2 => ?_)
                            · replace s2 := eq_of_beq s2
                              replace hr := itp hr s2
                              conv => whnf
                              exact key2 _ (Option.some.inj hr)
                            · replace s2 := ne_of_beq_false s2
                              replace hr := itn hr s2
                              conv => whnf
                              refine ⟨ua, ?_⟩
                              conv => whnf
                              obtain ⟨v5, h5, hr⟩ := Option.bind_eq_some_iff.1 hr
                              refine ⟨Option.isSome_iff_exists.2 ⟨_, h5⟩, ?_⟩
                              conv => whnf
                              intro p5 e5
                              obtain rfl := optG_eq h5 e5
                              conv => whnf
                              exact key2 _ (Option.some.inj hr)
                        · replace t2 := of_decide_eq_false t2
                          rw [← hq] at t2
                          replace hr := itn hr t2
                          clear hq t2
                          conv => whnf
                          refine ⟨(x64_r _).1, ?_⟩
                          generalize hs : nn.fdiv (2 ^ min (IntKind.u64.wrap dd).toNat IntKind.u64.bits) = ss
                          rw [show Sx.Pf.shr IntKind.u64 nn (IntKind.u64.wrap dd) = ss from (fdn _ _).symm.trans hs] at hr
                          clear hs
                          conv => whnf
                          refine ⟨ua, ?_⟩
                          conv => whnf
                          refine ⟨ub, ?_⟩
                          conv => whnf
                          refine Ask.i (fun s1 => ?_) (fun s1 => ?_)
                          · have s1 : decide (9223372036854775808 ≤ a) = decide (9223372036854775808 ≤ b) := eq_of_beq s1
                            replace hr := itp hr (beq_iff_eq.2 s1)
                            conv => whnf
                            refine ⟨ua, ?_⟩
                            conv => whnf
                            obtain ⟨v5, h5, hr⟩ := Option.bind_eq_some_iff.1 hr
                            refine ⟨Option.isSome_iff_exists.2 ⟨_, h5⟩, ?_⟩
                            conv => whnf
                            intro p5 e5
                            obtain rfl := optG_eq h5 e5
                            conv => whnf
                            exact key2 _ (Option.some.inj hr)
                          · have s1 : ¬ decide (9223372036854775808 ≤ a) = decide (9223372036854775808 ≤ b) := ne_of_beq_false s1
                            replace hr := itn hr (fun h => s1 (eq_of_beq h))
                            conv => whnf
                            refine Ask.i (fun s2 => ?_) (fun s2 => ?_)
                            · replace s2 := eq_of_beq s2
                              replace hr := itp hr s2
                              conv => whnf
                              exact key2 _ (Option.some.inj hr)
                            · replace s2 := ne_of_beq_false s2
                              replace hr := itn hr s2
                              conv => whnf
                              refine ⟨ua, ?_⟩
                              conv => whnf
                              obtain ⟨v5, h5, hr⟩ := Option.bind_eq_some_iff.1 hr
                              refine ⟨Option.isSome_iff_exists.2 ⟨_, h5⟩, ?_⟩
                              conv => whnf
                              intro p5 e5
                              obtain rfl := optG_eq h5 e5
                              conv => whnf
                              exact key2 _ (Option.some.inj hr)
                    · replace t0 : ¬ dd > 0 := of_decide_eq_false t0
                      replace hr := itn hr t0
                      conv => whnf
                      refine ⟨ua, ?_⟩
                      conv => whnf
                      refine ⟨ub, ?_⟩
                      conv => whnf
                      refine Ask.i (fun s1 => ?_) (fun s1 => ?_)
                      · have s1 : decide (9223372036854775808 ≤ a) = decide (9223372036854775808 ≤ b) := eq_of_beq s1
                        replace hr := itp hr (beq_iff_eq.2 s1)
                        conv => whnf
                        refine ⟨ua, ?_⟩
                        conv => whnf
                        obtain ⟨v5, h5, hr⟩ := Option.bind_eq_some_iff.1 hr
                        refine ⟨Option.isSome_iff_exists.2 ⟨_, h5⟩, ?_⟩
                        conv => whnf
                        intro p5 e5
                        obtain rfl := optG_eq h5 e5
                        conv => whnf
                        exact key2 _ (Option.some.inj hr)
                      · have s1 : ¬ decide (9223372036854775808 ≤ a) = decide (9223372036854775808 ≤ b) := ne_of_beq_false s1
                        replace hr := itn hr (fun h => s1 (eq_of_beq h))
                        conv => whnf
                        refine Ask.i (fun s2 => ?_) (fun s2 => ?_)
                        · replace s2 := eq_of_beq s2
                          replace hr := itp hr s2
                          conv => whnf
                          exact key2 _ (Option.some.inj hr)
                        · replace s2 := ne_of_beq_false s2
                          replace hr := itn hr s2
                          conv => whnf
                          refine ⟨ua, ?_⟩
                          conv => whnf
                          obtain ⟨v5, h5, hr⟩ := Option.bind_eq_some_iff.1 hr
                          refine ⟨Option.isSome_iff_exists.2 ⟨_, h5⟩, ?_⟩
                          conv => whnf
                          intro p5 e5
                          obtain rfl := optG_eq h5 e5
                          conv => whnf
                          exact key2 _ (Option.some.inj hr)
              · have q6 : ¬ ((sz a : Nat) : Int) = 0 := ne_of_beq_false q6
                have q6 : ¬ sz a = 0 := fun h => q6 (by rw [h]; rfl)
                have av2 : addV a b = sumV a b := by rw [av, if_neg (by omega), if_neg (by omega), if_neg (by omega), if_neg (by omega)]; unfold finV; rw [if_neg (by omega)]
                have hr := Go.Proofs.SxPu.radd_j2 (k := 197 + 1) (x := a) (y := b) ua ub (by decide) (by have := Go.Proofs.SxPu.cls_fin ua (by omega); exact this) (by omega) (by omega)
                generalize sumV a b = R at av2 hr
                have key2 : ∀ z, z = R → K (.u (.c (U64 z))) := fun z h => key z (av2.trans h.symm)
                clear key hk av av2
                rw [hygref6_Add.j2] at hr
                obtain ⟨v1, h1, hr⟩ := Option.bind_eq_some_iff.1 hr
                obtain ⟨v2, h2, hr⟩ := Option.bind_eq_some_iff.1 hr
                simp only [hygref6_Add.j3, Go.Proofs.SxPu.rneg_f ua, Go.Proofs.SxPu.rneg_f ub, Option.bind_some, rw64, bits_or, bits_and] at hr
                conv => whnf
                refine ⟨ua, ?_⟩
                conv => whnf
                refine ⟨ub, ?_⟩
                conv => whnf
                refine Ask.i (fun s0 => ?_) (fun s0 => ?_)
                · replace s0 : ((sz a : Nat) : Int) < ((sz b : Nat) : Int) := of_decide_eq_true s0
                  exfalso; omega
                · replace s0 : ¬ ((sz a : Nat) : Int) < ((sz b : Nat) : Int) := of_decide_eq_false s0
                  conv => whnf
                  refine ⟨by rw [h1]; rfl, ?_⟩
                  conv => whnf
                  intro p1 e1
                  obtain rfl := optG_eq h1 e1
                  conv => whnf
                  refine ⟨by rw [h2]; rfl, ?_⟩
                  conv => whnf
                  intro p2 e2
                  obtain rfl := optG_eq h2 e2
                  conv => whnf
                  refine ⟨by decide, ?_⟩
                  conv => whnf
                  refine ⟨by decide, ?_⟩
                  conv => whnf
                  generalize hm : IntKind.u64.wrap (p1.1 * 2 ^ min (Int.toNat 10) IntKind.u64.bits) = mm
                  generalize hn : IntKind.u64.wrap (p2.1 * 2 ^ min (Int.toNat 10) IntKind.u64.bits) = nn
                  generalize he : IntKind.i64.wrap (p1.2 - 10) = ee
                  generalize hf : IntKind.i64.wrap (p2.2 - 10) = ff
                  generalize hd : IntKind.i64.wrap (ee - ff) = dd
                  rw [show IntKind.u64.wrap (p1.1 * 1024) = mm from hm, show IntKind.u64.wrap (p2.1 * 1024) = nn from hn, show w64 (p1.2 - 10) = ee from he, show w64 (p2.2 - 10) = ff from hf, show w64 (ee - ff) = dd from hd] at hr
                  clear hm hn he hf hd h1 h2 e1 e2
                  refine Ask.i (fun t0 => ?_) (fun t0 => ?_)
                  · replace t0 : dd > 0 := of_decide_eq_true t0
                    replace hr := itp hr t0
                    conv => whnf
                    refine Ask.i (fun t1 => ?_) (fun t1 => ?_)
                    · replace t1 : dd > 63 := of_decide_eq_true t1
                      replace hr := itp hr t1
                      conv => whnf
                      refine Ask.i (fun t2 => ?_) (fun t2 => ?_)
                      · replace t2 : nn > 0 := of_decide_eq_true t2
                        replace hr := itp hr t2
                        conv => whnf
                        refine ⟨ua, ?_⟩
                        conv => whnf
                        refine ⟨ub, ?_⟩
                        conv => whnf
                        refine Ask.i (fun s1 => ?_) (fun s1 => ?_)
                        · have s1 : decide (9223372036854775808 ≤ a) = decide (9223372036854775808 ≤ b) := eq_of_beq s1
                          replace hr := itp hr (beq_iff_eq.2 s1)
                          conv => whnf
                          refine ⟨ua, ?_⟩
                          conv => whnf
                          obtain ⟨v5, h5, hr⟩ := Option.bind_eq_some_iff.1 hr
                          refine ⟨Option.isSome_iff_exists.2 ⟨_, h5⟩, ?_⟩
                          conv => whnf
                          intro p5 e5
                          obtain rfl := optG_eq h5 e5
                          conv => whnf
                          exact key2 _ (Option.some.inj hr)
                        · have s1 : ¬ decide (9223372036854775808 ≤ a) = decide (9223372036854775808 ≤ b) := ne_of_beq_false s1
                          replace hr := itn hr (fun h => s1 (eq_of_beq h))
                          conv => whnf
                          refine Ask.i (fun s2 => ?_) (fun s2 => ?_)
                          · replace s2 := eq_of_beq s2
                            replace hr := itp hr s2
                            conv => whnf
                            exact key2 _ (Option.some.inj hr)
                          · replace s2 := ne_of_beq_false s2
                            replace hr := itn hr s2
                            conv => whnf
                            refine ⟨ua, ?_⟩
                            conv => whnf
                            obtain ⟨v5, h5, hr⟩ := Option.bind_eq_some_iff.1 hr
                            refine ⟨Option.isSome_iff_exists.2 ⟨_, h5⟩, ?_⟩
                            conv => whnf
                            intro p5 e5
                            obtain rfl := optG_eq h5 e5
                            conv => whnf
                            exact key2 _ (Option.some.inj hr)
                      · replace t2 : ¬ nn > 0 := of_decide_eq_false t2
                        replace hr := itn hr t2
                        conv => whnf
                        refine ⟨ua, ?_⟩
                        conv => whnf
                        refine ⟨ub, ?_⟩
                        conv => whnf
                        refine Ask.i (fun s1 => ?_) (fun s1 => ?_)
                        · have s1 : decide (9223372036854775808 ≤ a) = decide (9223372036854775808 ≤ b) := eq_of_beq s1
                          replace hr := itp hr (beq_iff_eq.2 s1)
                          conv => whnf
                          refine ⟨ua, ?_⟩
                          conv => whnf
                          obtain ⟨v5, h5, hr⟩ := Option.bind_eq_some_iff.1 hr
                          refine ⟨Option.isSome_iff_exists.2 ⟨_, h5⟩, ?_⟩
                          conv => whnf
                          intro p5 e5
                          obtain rfl := optG_eq h5 e5
                          conv => whnf
                          exact key2 _ (Option.some.inj hr)
                        · have s1 : ¬ decide (9223372036854775808 ≤ a) = decide (9223372036854775808 ≤ b) := ne_of_beq_false s1
                          replace hr := itn hr (fun h => s1 (eq_of_beq h))
                          conv => whnf
                          refine Ask.i (fun s2 => ?_) (fun s2 => ?_)
                          · replace s2 := eq_of_beq s2
                            replace hr := itp hr s2
                            conv => whnf
                            exact key2 _ (Option.some.inj hr)
                          · replace s2 := ne_of_beq_false s2
                            replace hr := itn hr s2
                            conv => whnf
                            refine ⟨ua, ?_⟩
                            conv => whnf
                            obtain ⟨v5, h5, hr⟩ := Option.bind_eq_some_iff.1 hr
                            refine ⟨Option.isSome_iff_exists.2 ⟨_, h5⟩, ?_⟩
                            conv => whnf
                            intro p5 e5
                            obtain rfl := optG_eq h5 e5
                            conv => whnf
                            exact key2 _ (Option.some.inj hr)
                    · replace t1 : ¬ dd > 63 := of_decide_eq_false t1
                      replace hr := itp (itn hr t1) (x64_r _).1
                      conv => whnf
                      refine ⟨(x64_r _).1, ?_⟩
                      generalize hq : IntKind.u64.wrap (1 * 2 ^ min (IntKind.u64.wrap dd).toNat IntKind.u64.bits) = qq
                      change runOps (B _) Tryz.f59.ntmps _ _ _ _ _
                      unfold runOps
                      change (stepO _ _ _ _).wp _
                      change runOps (B _) Tryz.f59.ntmps _ _ _ _ _
                      unfold runOps
                      change (stepO _ _ _ _).wp _
                      change runOps (B _) Tryz.f59.ntmps _ _ _ _ _
                      unfold runOps
                      change (stepO _ _ _ _).wp _
                      change runOps (B _) Tryz.f59.ntmps _ _ _ _ _
                      unfold runOps
                      change wpC _ _ _ _ _ _ _ _
                      unfold wpC
                      change Ask (decide (IntKind.u64.wrap _ > 0)) _
                      unfold Ask
                      refine Ask.i (fun t2 => ?_) (fun t2 => ?_)
                      · replace t2 := of_decide_eq_true t2
                        rw [← hq] at t2
                        replace hr := itp hr t2
                        clear hq t2
                        conv => whnf
                        refine ⟨(x64_r _).1, ?_⟩
                        generalize hs : nn.fdiv (2 ^ min (IntKind.u64.wrap dd).toNat IntKind.u64.bits) = ss
                        rw [show Sx.Pf.shr IntKind.u64 nn (IntKind.u64.wrap dd) = ss from (fdn _ _).symm.trans hs] at hr
                        clear hs
                        conv => whnf
                        refine ⟨ua, ?_⟩
                        conv => whnf
                        refine ⟨ub, ?_⟩
                        conv => whnf
                        refine Ask.i (fun s1 => ?_) (fun s1 => ?_)
                        · have s1 : decide (9223372036854775808 ≤ a) = decide (9223372036854775808 ≤ b) := eq_of_beq s1
                          replace hr := itp hr (beq_iff_eq.2 s1)
                          conv => whnf
                          refine ⟨ua, ?_⟩
                          conv => whnf
                          obtain ⟨v5, h5, hr⟩ := Option.bind_eq_some_iff.1 hr
                          refine ⟨Option.isSome_iff_exists.2 ⟨_, h5⟩, ?_⟩
                          conv => whnf
                          intro p5 e5
                          obtain rfl := optG_eq h5 e5
                          conv => whnf
                          exact key2 _ (Option.some.inj hr)
                        · have s1 : ¬ decide (9223372036854775808 ≤ a) = decide (9223372036854775808 ≤ b) := ne_of_beq_false s1
                          replace hr := itn hr (fun h => s1 (eq_of_beq h))
                          conv => whnf
                          refine Ask.i (fun s2 => ?_) (fun s2 => ?_)
                          · replace s2 := eq_of_beq s2
                            replace hr := itp hr s2
                            conv => whnf
                            exact key2 _ (Option.some.inj hr)
                          · replace s2 := ne_of_beq_false s2
                            replace hr := itn hr s2
                            conv => whnf
                            refine ⟨ua, ?_⟩
                            conv => whnf
                            obtain ⟨v5, h5, hr⟩ := Option.bind_eq_some_iff.1 hr
                            refine ⟨Option.isSome_iff_exists.2 ⟨_, h5⟩, ?_⟩
                            conv => whnf
                            intro p5 e5
                            obtain rfl := optG_eq h5 e5
                            conv => whnf
                            exact key2 _ (Option.some.inj hr)
                      · replace t2 := of_decide_eq_false t2
                        rw [← hq] at t2
                        replace hr := itn hr t2
                        clear hq t2
                        conv => whnf
                        refine ⟨(x64_r _).1, ?_⟩
                        generalize hs : nn.fdiv (2 ^ min (IntKind.u64.wrap dd).toNat IntKind.u64.bits) = ss
                        rw [show Sx.Pf.shr IntKind.u64 nn (IntKind.u64.wrap dd) = ss from (fdn _ _).symm.trans hs] at hr
                        clear hs
                        conv => whnf
                        refine ⟨ua, ?_⟩
                        conv => whnf
                        refine ⟨ub, ?_⟩
                        conv => whnf
                        refine Ask.i (fun s1 => ?_) (fun s1 => ?_)
                        · have s1 : decide (9223372036854775808 ≤ a) = decide (9223372036854775808 ≤ b) := eq_of_beq s1
                          replace hr := itp hr (beq_iff_eq.2 s1)
                          conv => whnf
                          refine ⟨ua, ?_⟩
                          conv => whnf
                          obtain ⟨v5, h5, hr⟩ := Option.bind_eq_some_iff.1 hr
                          refine ⟨Option.isSome_iff_exists.2 ⟨_, h5⟩, ?_⟩
                          conv => whnf
                          intro p5 e5
                          obtain rfl := optG_eq h5 e5
                          conv => whnf
                          exact key2 _ (Option.some.inj hr)
                        · have s1 : ¬ decide (9223372036854775808 ≤ a) = decide (9223372036854775808 ≤ b) := ne_of_beq_false s1
                          replace hr := itn hr (fun h => s1 (eq_of_beq h))
                          conv => whnf
                          refine Ask.i (fun s2 => ?_) (fun s2 => ?_)
                          · replace s2 := eq_of_beq s2
                            replace hr := itp hr s2
                            conv => whnf
                            exact key2 _ (Option.some.inj hr)
                          · replace s2 := ne_of_beq_false s2
                            replace hr := itn hr s2
                            conv => whnf
                            refine ⟨ua, ?_⟩
                            conv => whnf
                            obtain ⟨v5, h5, hr⟩ := Option.bind_eq_some_iff.1 hr
                            refine ⟨Option.isSome_iff_exists.2 ⟨_, h5⟩, ?_⟩
                            conv => whnf
                            intro p5 e5
                            obtain rfl := optG_eq h5 e5
                            conv => whnf
                            exact key2 _ (Option.some.inj hr)
                  · replace t0 : ¬ dd > 0 := of_decide_eq_false t0
                    replace hr := itn hr t0
                    conv => whnf
                    refine ⟨ua, ?_⟩
                    conv => whnf
                    refine ⟨ub, ?_⟩
                    conv => whnf
                    refine Ask.i (fun s1 => ?_) (fun s1 => ?_)
                    · have s1 : decide (9223372036854775808 ≤ a) = decide (9223372036854775808 ≤ b) := eq_of_beq s1
                      replace hr := itp hr (beq_iff_eq.2 s1)
                      conv => whnf
                      refine ⟨ua, ?_⟩
                      conv => whnf
                      obtain ⟨v5, h5, hr⟩ := Option.bind_eq_some_iff.1 hr
                      refine ⟨Option.isSome_iff_exists.2 ⟨_, h5⟩, ?_⟩
                      conv => whnf
                      intro p5 e5
                      obtain rfl := optG_eq h5 e5
                      conv => whnf
                      exact key2 _ (Option.some.inj hr)
                    · have s1 : ¬ decide (9223372036854775808 ≤ a) = decide (9223372036854775808 ≤ b) := ne_of_beq_false s1
                      replace hr := itn hr (fun h => s1 (eq_of_beq h))
                      conv => whnf
                      refine Ask.i (fun s2 => ?_) (fun s2 => ?_)
                      · replace s2 := eq_of_beq s2
                        replace hr := itp hr s2
                        conv => whnf
                        exact key2 _ (Option.some.inj hr)
                      · replace s2 := ne_of_beq_false s2
                        replace hr := itn hr s2
                        conv => whnf
                        refine ⟨ua, ?_⟩
                        conv => whnf
                        obtain ⟨v5, h5, hr⟩ := Option.bind_eq_some_iff.1 hr
                        refine ⟨Option.isSome_iff_exists.2 ⟨_, h5⟩, ?_⟩
                        conv => whnf
                        intro p5 e5
                        obtain rfl := optG_eq h5 e5
                        conv => whnf
                        exact key2 _ (Option.some.inj hr)
  · exact hk.elim
end Sx
/-! Contracts: the reference's order of doubles, least, greatest; differences. -/
namespace Sx
open Go Go.Proofs
open Go.Proofs.SxPu (cls qt sz sg addV subV ng finV sumV)
set_option linter.unusedVariables false
set_option linter.unusedSimpArgs false
set_option maxRecDepth 30000
variable {G : Glob}
theorem less_val {a b : Int} {v : Bool} (ua : UU a) (ub : UU b) (h : v = true ↔ LessP a b) : lessV a b = v := by
  rw [Bool.eq_iff_iff, lessV_iff ua ub]; exact h.symm
theorem LessP_of {a b : Int} (h1 : ¬ cls a = 4) (h2 : ¬ cls b = 4) (h3 : ¬ (a % 9223372036854775808 = 0 ∧ b % 9223372036854775808 = 0)) : LessP a b ↔ (if 9223372036854775808 ≤ a then (if 9223372036854775808 ≤ b then a % 9223372036854775808 > b % 9223372036854775808 else True) else (if 9223372036854775808 ≤ b then False else a % 9223372036854775808 < b % 9223372036854775808)) :=
  ⟨fun h => h.2.2.2, fun h => ⟨h1, h2, h3, h⟩⟩
def lessRT : List U → Out SV
  | [.c (.v (.int .u64 a)), .c (.v (.int .u64 b))] => .need (UU a ∧ UU b) (one (Bo (lessV a b)))
  | _ => .fail
def minRT : List U → Out SV
  | [.c (.v (.int .u64 a)), .c (.v (.int .u64 b))] => .need (UU a ∧ UU b) (one (U64 (minV a b)))
  | _ => .fail
def maxRT : List U → Out SV
  | [.c (.v (.int .u64 a)), .c (.v (.int .u64 b))] => .need (UU a ∧ UU b) (one (U64 (maxV a b)))
  | _ => .fail
def subT : List U → Out SV
  | [.c (.v (.int .u64 a)), .c (.v (.int .u64 b))] => .need (UU a ∧ UU b) (one (U64 (subV a b)))
  | _ => .fail
theorem radd_ex : Ok G 59 addT := by
  refine Ok.byCases3 radd_ex0 radd_ex1 radd_ex2 fun us K hk => ?_
  unfold addT at hk
  split at hk
  · rename_i a b
    obtain ⟨⟨ua, ub⟩, hk⟩ := hk
    by_cases c : cls a < 3 ∧ cls b < 3
    · by_cases d : sz a < sz b
      · exact .inr (.inl ⟨⟨ua, ub, c, d⟩, hk⟩)
      · by_cases e : sz a = 0
        · exact .inl ⟨⟨ua, ub, .inr ⟨e, by omega⟩⟩, hk⟩
        · exact .inr (.inr ⟨⟨ua, ub, c, by omega, by omega⟩, hk⟩)
    · exact .inl ⟨⟨ua, ub, .inl c⟩, hk⟩
  · exact hk.elim
theorem rless_ex : Ok G 132 lessRT := by
  have hS : AllSound (B [(91, .pure (normG (B []) [31] classT)), (93, .pure (normG (B []) [31] rsizeT)), (95, .pure (normG (B []) [31] rnegT))]) G := .cons _ rclass_ex (.cons _ rsize_ex (.cons _ rneg_ex (noneS)))
  refine okP hS Tryz.func132 rfl (by decide) fun K us hk => ?_
  unfold lessRT at hk
  split at hk
  · rename_i a b
    refine ⟨by show 2 ≤ _; decide, ?_⟩
    obtain ⟨⟨ua, ub⟩, hk⟩ := hk
    have key : ∀ v : Bool, (v = true ↔ LessP a b) → K (.u (.c (Bo v))) := fun v h => fin hk (congrArg (fun z : Bool => SV.u (.c (Bo z))) (less_val ua ub h))
    have ca := Go.Proofs.SxPu.sz_cast ua
    have cb := Go.Proofs.SxPu.sz_cast ub
    conv => whnf
    refine ⟨ua, ?_⟩
    conv => whnf
    refine Ask.i (fun q8 => ?_) (fun q8 => ?_)
    · have q8 : cls a = 4 := eq_of_beq q8
      conv => whnf
      exact key _ ⟨fun h => (by cases h), fun h => absurd q8 h.1⟩
    · have q8 : ¬ cls a = 4 := ne_of_beq_false q8
      conv => whnf
      refine ⟨ub, ?_⟩
      conv => whnf
      refine Ask.i (fun q9 => ?_) (fun q9 => ?_)
      · have q9 : cls b = 4 := eq_of_beq q9
        conv => whnf
        exact key _ ⟨fun h => (by cases h), fun h => absurd q9 h.2.1⟩
      · have q9 : ¬ cls b = 4 := ne_of_beq_false q9
        conv => whnf
        refine ⟨ua, ?_⟩
        conv => whnf
        refine Ask.i (fun q6 => ?_) (fun q6 => ?_)
        · have q6 : ((sz a : Nat) : Int) = 0 := eq_of_beq q6
          conv => whnf
          refine ⟨ub, ?_⟩
          conv => whnf
          refine Ask.i (fun q7 => ?_) (fun q7 => ?_)
          · have q7 : ((sz b : Nat) : Int) = 0 := eq_of_beq q7
            conv => whnf
            exact key _ ⟨fun h => (by cases h), fun h => absurd ⟨by omega, by omega⟩ h.2.2.1⟩
          · have q7 : ¬ ((sz b : Nat) : Int) = 0 := ne_of_beq_false q7
            have hz : ¬ (a % 9223372036854775808 = 0 ∧ b % 9223372036854775808 = 0) := fun h => q7 (by omega)
            conv => whnf
            refine ⟨ua, ?_⟩
            conv => whnf
            refine ⟨ub, ?_⟩
            conv => whnf
            refine Ask.i (fun s1 => ?_) (fun s1 => ?_)
            · have s1 : (decide (9223372036854775808 ≤ a) != decide (9223372036854775808 ≤ b)) = true := s1
              conv => whnf
              refine ⟨ua, ?_⟩
              conv => whnf
              exact key _ (by rw [LessP_of q8 q9 hz]; by_cases A : 9223372036854775808 ≤ a <;> by_cases B : 9223372036854775808 ≤ b <;> simp [A, B] at s1 ⊢ <;> omega)
            · have s1 : (decide (9223372036854775808 ≤ a) != decide (9223372036854775808 ≤ b)) = false := s1
              conv => whnf
              refine ⟨ua, ?_⟩
              conv => whnf
              refine Ask.i (fun s2 => ?_) (fun s2 => ?_)
              · have s2 : 9223372036854775808 ≤ a := of_decide_eq_true s2
                conv => whnf
                refine ⟨ua, ?_⟩
                conv => whnf
                refine ⟨ub, ?_⟩
                conv => whnf
                exact key _ (by rw [LessP_of q8 q9 hz]; by_cases A : 9223372036854775808 ≤ a <;> by_cases B : 9223372036854775808 ≤ b <;> simp [A, B] at s1 s2 ⊢ <;> omega)
              · have s2 : ¬ 9223372036854775808 ≤ a := of_decide_eq_false s2
                conv => whnf
                refine ⟨ua, ?_⟩
                conv => whnf
                refine ⟨ub, ?_⟩
                conv => whnf
                exact key _ (by rw [LessP_of q8 q9 hz]; by_cases A : 9223372036854775808 ≤ a <;> by_cases B : 9223372036854775808 ≤ b <;> simp [A, B] at s1 s2 ⊢ <;> omega)
        · have q6 : ¬ ((sz a : Nat) : Int) = 0 := ne_of_beq_false q6
          have hz : ¬ (a % 9223372036854775808 = 0 ∧ b % 9223372036854775808 = 0) := fun h => q6 (by omega)
          conv => whnf
          refine ⟨ua, ?_⟩
          conv => whnf
          refine ⟨ub, ?_⟩
          conv => whnf
          refine Ask.i (fun s1 => ?_) (fun s1 => ?_)
          · have s1 : (decide (9223372036854775808 ≤ a) != decide (9223372036854775808 ≤ b)) = true := s1
            conv => whnf
            refine ⟨ua, ?_⟩
            conv => whnf
            exact key _ (by rw [LessP_of q8 q9 hz]; by_cases A : 9223372036854775808 ≤ a <;> by_cases B : 9223372036854775808 ≤ b <;> simp [A, B] at s1 ⊢ <;> omega)
          · have s1 : (decide (9223372036854775808 ≤ a) != decide (9223372036854775808 ≤ b)) = false := s1
            conv => whnf
            refine ⟨ua, ?_⟩
            conv => whnf
            refine Ask.i (fun s2 => ?_) (fun s2 => ?_)
            · have s2 : 9223372036854775808 ≤ a := of_decide_eq_true s2
              conv => whnf
              refine ⟨ua, ?_⟩
              conv => whnf
              refine ⟨ub, ?_⟩
              conv => whnf
              exact key _ (by rw [LessP_of q8 q9 hz]; by_cases A : 9223372036854775808 ≤ a <;> by_cases B : 9223372036854775808 ≤ b <;> simp [A, B] at s1 s2 ⊢ <;> omega)
            · have s2 : ¬ 9223372036854775808 ≤ a := of_decide_eq_false s2
              conv => whnf
              refine ⟨ua, ?_⟩
              conv => whnf
              refine ⟨ub, ?_⟩
              conv => whnf
              exact key _ (by rw [LessP_of q8 q9 hz]; by_cases A : 9223372036854775808 ≤ a <;> by_cases B : 9223372036854775808 ≤ b <;> simp [A, B] at s1 s2 ⊢ <;> omega)
  · exact hk.elim
theorem rmin_ex : Ok G 164 minRT := by
  have hS : AllSound (B [(91, .pure (normG (B []) [31] classT)), (132, .pure (normG (B []) [31, 31] lessRT))]) G := .cons _ rclass_ex (.cons _ rless_ex (noneS))
  refine okP hS Tryz.func164 rfl (by decide) fun K us hk => ?_
  unfold minRT at hk
  split at hk
  · rename_i a b
    refine ⟨by show 2 ≤ _; decide, ?_⟩
    obtain ⟨⟨ua, ub⟩, hk⟩ := hk
    have key : ∀ z, minV a b = z → K (.u (.c (U64 z))) := fun z h => fin hk (congrArg (fun z : Int => SV.u (.c (U64 z))) h)
    conv => whnf
    refine ⟨⟨ub, ua⟩, ?_⟩
    conv => whnf
    refine Ask.i (fun q1 => ?_) (fun q1 => ?_)
    · have q1 : lessV b a = true := q1
      conv => whnf
      exact key _ (by unfold minV; rw [q1]; rfl)
    · have q1 : lessV b a = false := q1
      conv => whnf
      refine ⟨ua, ?_⟩
      conv => whnf
      refine Ask.i (fun q2 => ?_) (fun q2 => ?_)
      · have q2 : cls a = 4 := eq_of_beq q2
        conv => whnf
        refine ⟨ub, ?_⟩
        conv => whnf
        refine Ask.i (fun q3 => ?_) (fun q3 => ?_)
        · have q3 : ¬ cls b = 4 := bne_iff_ne.1 q3
          conv => whnf
          exact key _ (by unfold minV otherV; rw [nanV_cls ua, nanV_cls ub, q1, decide_eq_true q2, decide_eq_false q3]; rfl)
        · have q3 : cls b = 4 := of_bne_false q3
          conv => whnf
          exact key _ (by unfold minV otherV; rw [nanV_cls ua, nanV_cls ub, q1, decide_eq_true q2, decide_eq_true q3]; rfl)
      · have q2 : ¬ cls a = 4 := ne_of_beq_false q2
        conv => whnf
        exact key _ (by unfold minV otherV; rw [nanV_cls ua, nanV_cls ub, q1, decide_eq_false q2]; rfl)
  · exact hk.elim
theorem rmax_ex : Ok G 165 maxRT := by
  have hS : AllSound (B [(91, .pure (normG (B []) [31] classT)), (132, .pure (normG (B []) [31, 31] lessRT))]) G := .cons _ rclass_ex (.cons _ rless_ex (noneS))
  refine okP hS Tryz.func165 rfl (by decide) fun K us hk => ?_
  unfold maxRT at hk
  split at hk
  · rename_i a b
    refine ⟨by show 2 ≤ _; decide, ?_⟩
    obtain ⟨⟨ua, ub⟩, hk⟩ := hk
    have key : ∀ z, maxV a b = z → K (.u (.c (U64 z))) := fun z h => fin hk (congrArg (fun z : Int => SV.u (.c (U64 z))) h)
    conv => whnf
    refine ⟨⟨ua, ub⟩, ?_⟩
    conv => whnf
    refine Ask.i (fun q1 => ?_) (fun q1 => ?_)
    · have q1 : lessV a b = true := q1
      conv => whnf
      exact key _ (by unfold maxV; rw [q1]; rfl)
    · have q1 : lessV a b = false := q1
      conv => whnf
      refine ⟨ua, ?_⟩
      conv => whnf
      refine Ask.i (fun q2 => ?_) (fun q2 => ?_)
      · have q2 : cls a = 4 := eq_of_beq q2
        conv => whnf
        refine ⟨ub, ?_⟩
        conv => whnf
        refine Ask.i (fun q3 => ?_) (fun q3 => ?_)
        · have q3 : ¬ cls b = 4 := bne_iff_ne.1 q3
          conv => whnf
          exact key _ (by unfold maxV otherV; rw [nanV_cls ua, nanV_cls ub, q1, decide_eq_true q2, decide_eq_false q3]; rfl)
        · have q3 : cls b = 4 := of_bne_false q3
          conv => whnf
          exact key _ (by unfold maxV otherV; rw [nanV_cls ua, nanV_cls ub, q1, decide_eq_true q2, decide_eq_true q3]; rfl)
      · have q2 : ¬ cls a = 4 := ne_of_beq_false q2
        conv => whnf
        exact key _ (by unfold maxV otherV; rw [nanV_cls ua, nanV_cls ub, q1, decide_eq_false q2]; rfl)
  · exact hk.elim
theorem sub_ex : Ok G 128 subT := by
  have hS : AllSound (B [(143, .pure (normG (B []) [31] classT)), (106, .pure (normG (B []) [31, 31] addT)), (166, .pure (normG (B []) [31] negT))]) G := .cons _ class_ex (.cons _ add_ex (.cons _ neg_ex (noneS)))
  refine okP hS Tryz.func128 rfl (by decide) fun K us hk => ?_
  unfold subT at hk
  split at hk
  · rename_i a b
    refine ⟨by show 2 ≤ _; decide, ?_⟩
    obtain ⟨⟨ua, ub⟩, hk⟩ := hk
    unfold subV at hk
    conv => whnf
    refine ⟨ub, ?_⟩
    conv => whnf
    refine Ask.i (fun q1 => ?_) (fun q1 => ?_)
    · have q1 : cls b = 4 := eq_of_beq q1
      rw [if_pos q1] at hk
      conv => whnf
      refine ⟨⟨ua, ub⟩, ?_⟩
      conv => whnf
      exact hk
    · have q1 : ¬ cls b = 4 := ne_of_beq_false q1
      rw [if_neg q1] at hk
      conv => whnf
      refine ⟨ub, ?_⟩
      conv => whnf
      refine ⟨⟨ua, Go.Proofs.SxPu.ng_U ub⟩, ?_⟩
      conv => whnf
      exact hk
  · exact hk.elim
theorem rsub_ex : Ok G 133 subT := by
  have hS : AllSound (B [(91, .pure (normG (B []) [31] classT)), (59, .pure (normG (B []) [31, 31] addT)), (170, .pure (normG (B []) [31] negT))]) G := .cons _ rclass_ex (.cons _ radd_ex (.cons _ rNeg_ex (noneS)))
  refine okP hS Tryz.func133 rfl (by decide) fun K us hk => ?_
  unfold subT at hk
  split at hk
  · rename_i a b
    refine ⟨by show 2 ≤ _; decide, ?_⟩
    obtain ⟨⟨ua, ub⟩, hk⟩ := hk
    unfold subV at hk
    conv => whnf
    refine ⟨ub, ?_⟩
    conv => whnf
    refine Ask.i (fun q1 => ?_) (fun q1 => ?_)
    · have q1 : cls b = 4 := eq_of_beq q1
      rw [if_pos q1] at hk
      conv => whnf
      refine ⟨⟨ua, ub⟩, ?_⟩
      conv => whnf
      exact hk
    · have q1 : ¬ cls b = 4 := ne_of_beq_false q1
      rw [if_neg q1] at hk
      conv => whnf
      refine ⟨ub, ?_⟩
      conv => whnf
      refine ⟨⟨ua, Go.Proofs.SxPu.ng_U ub⟩, ?_⟩
      conv => whnf
      exact hk
  · exact hk.elim
end Sx
