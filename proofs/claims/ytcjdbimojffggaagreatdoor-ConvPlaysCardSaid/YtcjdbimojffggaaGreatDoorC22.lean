/- Part of the proof: a machine of states for walks, and contracts of functions over it. Conditions: those that each theorem names. -/
import Derived.Test.YtcjdbimojffggaaGreatDoorC21
set_option linter.unusedVariables false
set_option linter.unusedSimpArgs false
namespace Sx
open Go Go.Proofs
open Go.Proofs.SxPu (cls qt sz sg addV subV ng finV)
theorem szV_mod {x : Int} (h : UU x) : szV x = x % 9223372036854775808:=by
 show anU x 9223372036854775808 = _
 rw [← bits_an]; exact Go.Proofs.SxFl.andNot_sign h.1 h.2
theorem nanV_cls {x : Int} (h : UU x) : nanV x = decide (cls x = 4):=by
 unfold nanV
 rw [szV_mod h]
 exact decide_eq_decide.2 (Iff.symm (Go.Proofs.SxPu.cls_nan x))
theorem rankV_of {x : Int} (h : UU x) : rankV x = if 9223372036854775808 ≤ x then 18446744073709551615 - x else x + 9223372036854775808:=by
 have h0:=h.1; have h1:=h.2
 unfold rankV
 rw [show andU x 9223372036854775808 = x / 9223372036854775808 * 9223372036854775808 by rw [← bits_and]; exact Go.Proofs.SxFl.and_sign h0 h1]
 by_cases c : 9223372036854775808 ≤ x
 ·rw [if_pos c,decide_eq_true (by omega),← bits_xor]
  exact Go.Proofs.SxFl.xor_all h0 h1
 rw [if_neg c,decide_eq_false (by omega),← bits_or]
 exact Go.Proofs.SxFl.or_sign h0 (by omega)
def LessP (a b : Int) : Prop:=¬ cls a = 4 ∧ ¬ cls b = 4 ∧ ¬ (a % 9223372036854775808 = 0 ∧ b % 9223372036854775808 = 0) ∧
 (if 9223372036854775808 ≤ a then (if 9223372036854775808 ≤ b then a % 9223372036854775808 > b % 9223372036854775808 else True) else (if 9223372036854775808 ≤ b then False else a % 9223372036854775808 < b % 9223372036854775808))
theorem eqV_of {a b : Int} (ha : UU a) (hb : UU b) (na : nanV a = false) (nb : nanV b = false) : eqV a b = true ↔ (a = b ∨ (a % 9223372036854775808 = 0 ∧ b % 9223372036854775808 = 0)):=by
 obtain ⟨o1,o2,o3⟩:=Go.Proofs.SxFl.or_size_zero ha.1 ha.2 hb.1 hb.2
 unfold eqV
 rw [na,nb,← bits_or,szV_mod ⟨o1,o2⟩]
 simp only [Bool.not_false,Bool.true_and,Bool.or_eq_true,beq_iff_eq]
 exact or_congr Iff.rfl o3
theorem lessV_iff {a b : Int} (ha : UU a) (hb : UU b) : lessV a b = true ↔ LessP a b:=by
 have na:=nanV_cls ha
 have nb:=nanV_cls hb
 have h0:=ha.1; have h1:=ha.2; have h2:=hb.1; have h3:=hb.2
 unfold LessP lessV
 by_cases ca : cls a = 4
 ·rw [na,decide_eq_true ca]; exact ⟨fun h=>(by simp at h),fun h=>absurd ca h.1⟩
 by_cases cb : cls b = 4
 ·rw [nb,decide_eq_true cb]; exact ⟨fun h=>(by simp at h),fun h=>absurd cb h.2.1⟩
 rw [decide_eq_false ca] at na
 rw [decide_eq_false cb] at nb
 have he:=eqV_of ha hb na nb
 rw [na,nb]
 simp only [Bool.not_false,Bool.true_and,Bool.and_eq_true,Bool.not_eq_true',decide_eq_true_eq]
 rw [← Bool.not_eq_true,he]
 have hc : cmpV (rankV a) (rankV b) < 0 ↔ rankV a < rankV b:=by
  unfold cmpV
  by_cases c : rankV a < rankV b
  ·rw [decide_eq_true c]; exact ⟨fun _=>c,fun _=>by show (-1 : Int) < 0; decide⟩
  rw [decide_eq_false c]
  refine ⟨fun h=>?_,fun h=>absurd h c⟩
  by_cases d : rankV a > rankV b
  ·rw [decide_eq_true d] at h; exact absurd h (by decide)
  rw [decide_eq_false d] at h; exact absurd h (by decide)
 rw [hc,rankV_of ha,rankV_of hb]
 refine ⟨fun h=>⟨ca,cb,?_⟩,fun h=>?_⟩
 ·obtain ⟨h4,h5⟩:=h
  refine ⟨fun h6=>h4 (.inr h6),?_⟩
  (repeat' split at h5) <;> (repeat' split) <;> first | trivial | omega
 obtain ⟨_,_,h4,h5⟩:=h
 refine ⟨fun h6=>?_,?_⟩
 ·rcases h6 with rfl | h6
  ·(repeat' split at h5) <;> omega
  exact h4 h6
 (repeat' split at h5) <;> (repeat' split) <;> first | trivial | omega
end Sx
