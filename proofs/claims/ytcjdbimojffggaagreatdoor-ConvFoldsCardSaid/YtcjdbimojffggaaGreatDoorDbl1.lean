/- Part of the proof: a machine of states for walks, and contracts of functions over it. Conditions: those that each theorem names. -/
import Derived.Test.YtcjdbimojffggaaGreatDoorCon4
import Derived.Test.YtcjdbimojffggaaGreatDoorPure
set_option linter.unusedVariables false
set_option linter.unusedSimpArgs false
/-! Contracts: doubles added, exactly. -/
namespace Sx
open Go Go.Proofs
open Sx.Pf (fadd_parted.f fadd_part_lower.f fadd_part_round.f fadd_part_raise.f fadd_part_raise.l0 fadd_finite.f fadd_finite.j0 mx mn shl shr)
open Go.Proofs.SxPu (cls qt sz sg addV subV ng finV)
abbrev UU (x : Int) : Prop := Go.Proofs.SxPu.U x
set_option linter.unusedVariables false
set_option maxRecDepth 30000
variable {G : Glob}
theorem Ok.mono {f : FuncId} {g g' : List U → Out SV} (h : Ok G f g) (hm : ∀ us K, (g' us).wp K → (g us).wp K) : Ok G f g' := ⟨h.1, fun K us X w vals hk => h.2 K us X w vals (hm us K hk)⟩
def optG {ρ : Type} (o : Option ρ) (d : ρ) (k : ρ → Out SV) : Out SV := .need (o.isSome = true) (.all ρ (fun p => o = some p ∨ o = none) ⟨o.getD d, by cases o <;> simp⟩ k)
theorem optG_wp {ρ : Type} {o : Option ρ} {d : ρ} {k : ρ → Out SV} {K : SV → Prop} (h : (optG o d k).wp K) : ∃ p, o = some p ∧ (k p).wp K := by
  obtain ⟨h1, h2⟩ := h
  obtain ⟨p, hp⟩ := Option.isSome_iff_exists.1 h1
  exact ⟨p, hp, h2 p (.inl hp)⟩
theorem optG_eq {ρ : Type} {o : Option ρ} {v p : ρ} (hv : o = some v) (h : o = some p ∨ o = none) : p = v := by
  subst hv; rcases h with h | h
  · exact (Option.some.inj h).symm
  · cases h
theorem bits_an (a b : Int) : Go.bits .andNot .u64 a b = anU a b := (Eq.refl _).trans (Eq.refl _)
theorem bits_and (a b : Int) : Go.bits .and .u64 a b = andU a b := (Eq.refl _).trans (Eq.refl _)
theorem bits_or (a b : Int) : Go.bits .or .u64 a b = orU a b := (Eq.refl _).trans (Eq.refl _)
theorem bits_xor (a b : Int) : Go.bits .xor .u64 a b = xorU a b := (Eq.refl _).trans (Eq.refl _)
theorem rw64 (n : Int) : Go.RowKit.wrap64 n = w64 n := by show _ = IntKind.i64.wrap n; rw [IntKind.wrap_i64]; unfold Go.RowKit.wrap64; omega
theorem fdl (a : Int) (n : Nat) : a.fdiv (2 ^ n) = a / 2 ^ n := Int.fdiv_eq_ediv_of_nonneg _ (by have := Int.pow_pos (n := 2) (m := n) (by decide); omega)
def quietT : List U → Out SV
  | [.c (.v (.int .u64 x))] => one (U64 (qt x))
  | _ => .fail
theorem quiet_ex : Ok G 144 quietT := by
  refine okP noneS Tryz.func144 rfl (by decide) fun K us hk => ?_
  unfold quietT at hk
  split at hk
  · refine ⟨by show 1 ≤ _; decide, ?_⟩
    conv => whnf
    exact hk
  · exact hk.elim
def negT : List U → Out SV
  | [.c (.v (.int .u64 x))] => .need (UU x) (one (U64 (ng x)))
  | _ => .fail
theorem neg_ex : Ok G 166 negT := by
  refine okP noneS Tryz.func166 rfl (by decide) fun K us hk => ?_
  unfold negT at hk
  split at hk
  · refine ⟨by show 1 ≤ _; decide, ?_⟩
    obtain ⟨hu, hk⟩ := hk
    conv => whnf
    refine fin hk (congrArg (fun z : Int => SV.u (.c (U64 z))) ?_)
    exact (Option.some.inj (Go.Proofs.SxPu.neg_f hu)).symm
  · exact hk.elim
def classT : List U → Out SV
  | [.c (.v (.int .u64 x))] => .need (UU x) (one (I64 (cls x)))
  | _ => .fail
theorem classV_cls {x : Int} (h : UU x) : classV x = cls x := by
  have e : szV x = x % 9223372036854775808 := by rw [← Go.Proofs.SxFl.andNot_sign h.1 h.2]; rfl
  unfold classV cls
  rw [e]
  by_cases c1 : x % 9223372036854775808 > 9218868437227405312
  · rw [if_pos c1, decide_eq_true c1]; rfl
  · rw [if_neg c1, decide_eq_false c1]
    by_cases c2 : x % 9223372036854775808 = 9218868437227405312
    · rw [if_pos c2, c2]; rfl
    · rw [if_neg c2, beq_eq_false_iff_ne.2 c2]
      by_cases c3 : x % 9223372036854775808 ≥ 4503599627370496
      · rw [if_pos c3, decide_eq_true c3]; rfl
      · rw [if_neg c3, decide_eq_false c3]
        by_cases c4 : x % 9223372036854775808 > 0
        · rw [if_pos c4, decide_eq_true c4]; rfl
        · rw [if_neg c4, decide_eq_false c4]; rfl
theorem class_ex : Ok G 143 classT := Ok.mono class_ok (fun us K hk => by
  unfold classT at hk
  split at hk
  · obtain ⟨hu, hk⟩ := hk
    show K _
    exact fin hk (congrArg (fun z : Int => SV.u (.c (I64 z))) (classV_cls hu).symm)
  · exact hk.elim)
theorem fd52 (a : Int) : a.fdiv (2 ^ min (Int.toNat 52) IntKind.u64.bits) = a / 4503599627370496 := fdl a 52
theorem fd63 (a : Int) : a.fdiv (2 ^ min (Int.toNat 63) IntKind.u64.bits) = a / 9223372036854775808 := fdl a 63
theorem fd3 (a : Int) : a.fdiv (2 ^ min (Int.toNat 3) IntKind.u64.bits) = a / 8 := fdl a 3
theorem mu3 : (2 : Int) ^ min (Int.toNat 3) IntKind.u64.bits = 8 := rfl
theorem mu52 : (2 : Int) ^ min (Int.toNat 52) IntKind.u64.bits = 4503599627370496 := rfl
theorem mu1 : (2 : Int) ^ min (Int.toNat 1) IntKind.u64.bits = 2 := rfl
theorem mu63 : (2 : Int) ^ min (Int.toNat 63) IntKind.u64.bits = 9223372036854775808 := rfl
theorem eq2 {a a' b b' : Int} (h1 : a = a') (h2 : b = b') : SV.u (.a [I64 a, U64 b]) = SV.u (.a [I64 a', U64 b']) := by subst h1 h2; rfl
theorem fdn (a c : Int) : a.fdiv (2 ^ min (Int.toNat c) IntKind.u64.bits) = Sx.Pf.shr IntKind.u64 a c := fdl a _
def partedT : List U → Out SV
  | [.c (.v (.int .u64 x))] => optG (fadd_parted.f x) (0, 0) fun p => agg [I64 p.1, U64 p.2]
  | _ => .fail
theorem parted_ex : Ok G 173 partedT := by
  refine okP noneS Tryz.func173 rfl (by decide) fun K us hk => ?_
  unfold partedT at hk
  split at hk
  · rename_i x
    refine ⟨by show 1 ≤ _; decide, ?_⟩
    obtain ⟨v, hr, hk⟩ := optG_wp hk
    unfold fadd_parted.f at hr
    simp only [bits_an, bits_and, bits_or, rw64] at hr
    conv => whnf
    refine ⟨by decide, ?_⟩
    conv => whnf
    refine Ask.i (fun c1 => ?_) (fun c1 => ?_)
    · have c1 := of_decide_eq_true c1
      rw [fd52] at c1
      rw [if_pos (show w64 (anU x 9223372036854775808 / 4503599627370496) > 0 from c1)] at hr
      cases hr
      conv => whnf
      refine ⟨by decide, ?_⟩
      conv => whnf
      refine fin hk (eq2 ?_ ?_)
      · first | rfl | (simp only [fd52]; rfl)
      · first | rfl | (simp only [mu3]; rfl)
    · have c1 := of_decide_eq_false c1
      rw [fd52] at c1
      rw [if_neg (show ¬ w64 (anU x 9223372036854775808 / 4503599627370496) > 0 from c1)] at hr
      cases hr
      conv => whnf
      refine ⟨by decide, ?_⟩
      conv => whnf
      refine fin hk (eq2 ?_ ?_)
      · first | rfl | (simp only [fd52]; rfl)
      · first | rfl | (simp only [mu3]; rfl)
  · exact hk.elim
def lowerT : List U → Out SV
  | [.a [.v (.int .i64 e), .v (.int .u64 b)], .c (.v (.int .i64 n))] => optG (fadd_part_lower.f e b n) (0, 0) fun p => agg [I64 p.1, U64 p.2]
  | _ => .fail
theorem lower_ex : Ok G 174 lowerT := by
  refine okP noneS Tryz.func174 rfl (by decide) fun K us hk => ?_
  unfold lowerT at hk
  split at hk
  · rename_i e b n
    refine ⟨by show 2 ≤ _; decide, ?_⟩
    obtain ⟨v, hr, hk⟩ := optG_wp hk
    unfold fadd_part_lower.f at hr
    simp only [bits_an, bits_and, bits_or, rw64] at hr
    conv => whnf
    refine Ask.i (fun c1 => ?_) (fun c1 => ?_)
    · have c1 : n > 63 := of_decide_eq_true c1
      rw [if_pos c1] at hr
      conv => whnf
      refine ⟨mixed, [], [], [], by kernel_rfl, ?_⟩
      conv => whnf
      refine ⟨by decide, ?_⟩
      conv => whnf
      refine ⟨by decide, ?_⟩
      conv => whnf
      refine Ask.i (fun c2 => ?_) (fun c2 => ?_)
      · have c2 : andU b ((1 * 9223372036854775808) - 1) > 0 := of_decide_eq_true c2
        rw [if_pos c2] at hr
        cases hr
        conv => whnf
        refine fin hk (eq2 ?_ ?_)
        · rfl
        · first | rfl | (simp only [fd63]; rfl)
      · have c2 : ¬ andU b ((1 * 9223372036854775808) - 1) > 0 := of_decide_eq_false c2
        rw [if_neg c2] at hr
        cases hr
        conv => whnf
        refine fin hk (eq2 ?_ ?_)
        · rfl
        · simp only [fd63]
    · have c1 : ¬ n > 63 := of_decide_eq_false c1
      rw [if_neg c1] at hr
      by_cases hn : 0 ≤ n
      · rw [if_pos hn] at hr
        conv => whnf
        refine ⟨mixed, [], [], [], by kernel_rfl, ?_⟩
        conv => whnf
        refine ⟨hn, ?_⟩
        conv => whnf
        refine ⟨hn, ?_⟩
        conv => whnf
        refine Ask.i (fun c2 => ?_) (fun c2 => ?_)
        · have c2 : andU b (x64 (shl IntKind.u64 1 n - 1)) > 0 := of_decide_eq_true c2
          rw [if_pos c2] at hr
          cases hr
          conv => whnf
          refine fin hk (eq2 ?_ ?_)
          · rfl
          · simp only [fdn]; rfl
        · have c2 : ¬ andU b (x64 (shl IntKind.u64 1 n - 1)) > 0 := of_decide_eq_false c2
          rw [if_neg c2] at hr
          cases hr
          conv => whnf
          refine fin hk (eq2 ?_ ?_)
          · rfl
          · simp only [fdn]
      · rw [if_neg hn] at hr; cases hr
  · exact hk.elim
def raiseT : List U → Out SV
  | [.a [.v (.int .i64 e), .v (.int .u64 b)]] => optG (fadd_part_raise.f 2999 e b) (0, 0) fun p => agg [I64 p.1, U64 p.2]
  | _ => .fail
theorem raise_ex : Ok G 176 raiseT := by
  refine okP noneS Tryz.func176 rfl (by decide) fun K us hk => ?_
  unfold raiseT at hk
  split at hk
  · rename_i e b
    refine ⟨by show 1 ≤ _; decide, ?_⟩
    obtain ⟨v, hr, hk⟩ := optG_wp hk
    unfold fadd_part_raise.f at hr
    conv => whnf
    refine ⟨[], _, _, rfl, Nat × Int × Int, (fun y => ([(1, .u (.c (.p 1 0))), (2, .u (.c (.p 2 0)))], [(1, .cells 254 [I64 y.2.1, U64 y.2.2]), (2, .cells 254 [I64 0, U64 0])])),
      (fun y => fadd_part_raise.l0 y.1 y.2.1 y.2.2 = some v), (fun y => y.1), fun x _ => rfl, ⟨(2999, e, b), hr, ⟨rfl, rfl, trivial⟩, ⟨rfl, rfl, trivial⟩⟩, ?_⟩
    rintro ⟨k, e, b⟩ hr
    replace hr : fadd_part_raise.l0 k e b = some v := hr
    cases k with
    | zero => cases hr
    | succ k =>
      rw [fadd_part_raise.l0] at hr
      simp only [rw64] at hr
      conv => whnf
      refine Ask.i (fun c1 => ?_) (fun c1 => ?_)
      · have c1 : b < 36028797018963968 := of_decide_eq_true c1
        rw [if_pos c1] at hr
        conv => whnf
        refine Ask.i (fun c2 => ?_) (fun c2 => ?_)
        · have c2 : e > 1 := of_decide_eq_true c2
          rw [if_pos c2] at hr
          conv => whnf
          refine ⟨by decide, ?_⟩
          conv => whnf
          refine ⟨(k, w64 (e - 1), x64 (b * 2)), hr, Nat.lt_succ_self k, ⟨rfl, rfl, trivial⟩, ⟨rfl, rfl, trivial⟩⟩
        · have c2 : ¬ e > 1 := of_decide_eq_false c2
          rw [if_neg c2] at hr
          cases hr
          conv => whnf
          exact hk
      · have c1 : ¬ b < 36028797018963968 := of_decide_eq_false c1
        rw [if_neg c1] at hr
        cases hr
        conv => whnf
        exact hk
  · exact hk.elim
def roundT : List U → Out SV
  | [.a [.v (.int .i64 e), .v (.int .u64 b)]] => optG (fadd_part_round.f e b) 0 fun p => one (U64 p)
  | _ => .fail
theorem round_ex : Ok G 175 roundT := by
  refine okP noneS Tryz.func175 rfl (by decide) fun K us hk => ?_
  unfold roundT at hk
  split at hk
  · rename_i e b
    refine ⟨by show 1 ≤ _; decide, ?_⟩
    obtain ⟨v, hr, hk⟩ := optG_wp hk
    unfold fadd_part_round.f at hr
    simp only [bits_an, bits_and, bits_or, rw64] at hr
    conv => whnf
    refine ⟨by decide, ?_⟩
    conv => whnf
    refine ⟨by decide, ?_⟩
    conv => whnf
    refine Ask.i (fun c1 => ?_) (fun c1 => ?_)
    · have c1 : andU b 7 > 4 := of_decide_eq_true c1
      rw [if_pos c1] at hr
      cases hr
      conv => whnf
      refine fin hk (congrArg (fun z : Int => SV.u (.c (U64 z))) ?_)
      simp only [fd3, mu52]; rfl
    · have c1 : ¬ andU b 7 > 4 := of_decide_eq_false c1
      rw [if_neg c1] at hr
      conv => whnf
      refine Ask.i (fun c2 => ?_) (fun c2 => ?_)
      · have c2 : andU b 7 = 4 := eq_of_beq c2
        rw [if_pos c2] at hr
        conv => whnf
        refine Ask.i (fun c3 => ?_) (fun c3 => ?_)
        · have c3 := eq_of_beq c3
          simp only [fd3, mu52] at c3
          rw [if_pos (show andU _ 1 = 1 from c3)] at hr
          cases hr
          conv => whnf
          refine fin hk (congrArg (fun z : Int => SV.u (.c (U64 z))) ?_)
          simp only [fd3, mu52]; rfl
        · have c3 := ne_of_beq_false c3
          simp only [fd3, mu52] at c3
          rw [if_neg (show ¬ andU _ 1 = 1 from c3)] at hr
          cases hr
          conv => whnf
          refine fin hk (congrArg (fun z : Int => SV.u (.c (U64 z))) ?_)
          simp only [fd3, mu52]; rfl
      · have c2 : ¬ andU b 7 = 4 := ne_of_beq_false c2
        rw [if_neg c2] at hr
        cases hr
        conv => whnf
        refine fin hk (congrArg (fun z : Int => SV.u (.c (U64 z))) ?_)
        simp only [fd3, mu52]; rfl
  · exact hk.elim
end Sx
/-! Contracts: doubles added, exactly: the sum of any two. -/
namespace Sx
open Go Go.Proofs
open Sx.Pf (fadd_parted.f fadd_part_lower.f fadd_part_round.f fadd_part_raise.f fadd_part_raise.l0 fadd_finite.f fadd_finite.j0 fadd_Add.f fadd_Add.j0 fadd_Add.j1 fadd_Sub.f)
open Go.Proofs.SxPu (cls qt sz sg addV subV ng finV)
set_option linter.unusedVariables false
set_option linter.unusedSimpArgs false
set_option maxRecDepth 30000
variable {G : Glob}
def FinD (x : Int) : Prop := sz x < 9218868437227405312
def finiteT : List U → Out SV
  | [.c (.v (.int .u64 a)), .c (.v (.int .u64 b))] => .need (UU a ∧ UU b ∧ FinD a ∧ FinD b) (one (U64 (finV a b)))
  | _ => .fail
theorem finite_ex : Ok G 145 finiteT := by
  have hS : AllSound (B [(173, .pure (normG (B []) [31] partedT)), (174, .pure (normG (B []) [254, 3] lowerT)), (175, .pure (normG (B []) [254] roundT)), (176, .pure (normG (B []) [254] raiseT))]) G := .cons _ parted_ex (.cons _ lower_ex (.cons _ round_ex (.cons _ raise_ex noneS)))
  refine okP hS Tryz.func145 rfl (by decide) fun K us hk => ?_
  unfold finiteT at hk
  split at hk
  · rename_i a b
    refine ⟨by show 2 ≤ _; decide, ?_⟩
    obtain ⟨⟨ua, ub, fa, fb⟩, hk⟩ := hk
    have hr := Go.Proofs.SxPu.finite_f (k := 2999 + 1) ua ub (by decide) fa fb
    generalize finV a b = R at hk hr
    unfold fadd_finite.f at hr
    simp only [bits_an] at hr
    conv => whnf
    refine Ask.i (fun c1 => ?_) (fun c1 => ?_)
    · rw [if_pos (show anU a 9223372036854775808 < anU b 9223372036854775808 from of_decide_eq_true c1), fadd_finite.j0] at hr
      simp only [bits_and, bits_or, rw64] at hr
      obtain ⟨v1, h1, hr⟩ := Option.bind_eq_some_iff.1 hr
      obtain ⟨v2, h2, hr⟩ := Option.bind_eq_some_iff.1 hr
      obtain ⟨v3, h3, hr⟩ := Option.bind_eq_some_iff.1 hr
      conv => whnf
      refine ⟨by rw [h1]; rfl, ?_⟩
      conv => whnf
      intro p1 e1
      obtain rfl := optG_eq h1 e1
      conv => whnf
      refine ⟨by rw [h2]; rfl, ?_⟩
      conv => whnf
      intro p2 e2
      obtain rfl := optG_eq h2 e2
      conv => whnf
      refine ⟨by rw [show fadd_part_lower.f _ _ _ = _ from h3]; rfl, ?_⟩
      conv => whnf
      intro p3 e3
      obtain rfl := optG_eq h3 e3
      conv => whnf
      refine Ask.i (fun c2 => ?_) (fun c2 => ?_)
      · rw [if_pos (show andU b 9223372036854775808 = andU a 9223372036854775808 from eq_of_beq c2)] at hr
        conv => whnf
        refine Ask.i (fun c3 => ?_) (fun c3 => ?_)
        · rw [if_pos (show x64 (p1.2 + p3.2) ≥ 72057594037927936 from of_decide_eq_true c3)] at hr
          obtain ⟨v4, h4, hr⟩ := Option.bind_eq_some_iff.1 hr
          obtain ⟨v5, h5, hr⟩ := Option.bind_eq_some_iff.1 hr
          conv => whnf
          refine ⟨by rw [show fadd_part_lower.f _ _ _ = _ from h4]; rfl, ?_⟩
          conv => whnf
          intro p4 e4
          obtain rfl := optG_eq h4 e4
          conv => whnf
          refine ⟨by rw [h5]; rfl, ?_⟩
          conv => whnf
          intro p5 e5
          obtain rfl := optG_eq h5 e5
          conv => whnf
          exact fin hk (congrArg (fun z : Int => SV.u (.c (U64 z))) (Option.some.inj hr).symm)
        · rw [if_neg (show ¬ x64 (p1.2 + p3.2) ≥ 72057594037927936 from of_decide_eq_false c3)] at hr
          obtain ⟨v5, h5, hr⟩ := Option.bind_eq_some_iff.1 hr
          conv => whnf
          refine ⟨by rw [show fadd_part_round.f _ _ = _ from h5]; rfl, ?_⟩
          conv => whnf
          intro p5 e5
          obtain rfl := optG_eq h5 e5
          conv => whnf
          exact fin hk (congrArg (fun z : Int => SV.u (.c (U64 z))) (Option.some.inj hr).symm)
      · rw [if_neg (show ¬ andU b 9223372036854775808 = andU a 9223372036854775808 from ne_of_beq_false c2)] at hr
        conv => whnf
        refine Ask.i (fun c3 => ?_) (fun c3 => ?_)
        · rw [if_pos (show x64 (p1.2 - p3.2) = 0 from eq_of_beq c3)] at hr
          conv => whnf
          exact fin hk (congrArg (fun z : Int => SV.u (.c (U64 z))) (Option.some.inj hr).symm)
        · rw [if_neg (show ¬ x64 (p1.2 - p3.2) = 0 from ne_of_beq_false c3)] at hr
          obtain ⟨v4, h4, hr⟩ := Option.bind_eq_some_iff.1 hr
          obtain ⟨v5, h5, hr⟩ := Option.bind_eq_some_iff.1 hr
          conv => whnf
          refine ⟨by rw [show fadd_part_raise.f _ _ _ = _ from h4]; rfl, ?_⟩
          conv => whnf
          intro p4 e4
          obtain rfl := optG_eq h4 e4
          conv => whnf
          refine ⟨by rw [h5]; rfl, ?_⟩
          conv => whnf
          intro p5 e5
          obtain rfl := optG_eq h5 e5
          conv => whnf
          exact fin hk (congrArg (fun z : Int => SV.u (.c (U64 z))) (Option.some.inj hr).symm)
    · rw [if_neg (show ¬ anU a 9223372036854775808 < anU b 9223372036854775808 from of_decide_eq_false c1), fadd_finite.j0] at hr
      simp only [bits_and, bits_or, rw64] at hr
      obtain ⟨v1, h1, hr⟩ := Option.bind_eq_some_iff.1 hr
      obtain ⟨v2, h2, hr⟩ := Option.bind_eq_some_iff.1 hr
      obtain ⟨v3, h3, hr⟩ := Option.bind_eq_some_iff.1 hr
      conv => whnf
      refine ⟨by rw [h1]; rfl, ?_⟩
      conv => whnf
      intro p1 e1
      obtain rfl := optG_eq h1 e1
      conv => whnf
      refine ⟨by rw [h2]; rfl, ?_⟩
      conv => whnf
      intro p2 e2
      obtain rfl := optG_eq h2 e2
      conv => whnf
      refine ⟨by rw [show fadd_part_lower.f _ _ _ = _ from h3]; rfl, ?_⟩
      conv => whnf
      intro p3 e3
      obtain rfl := optG_eq h3 e3
      conv => whnf
      refine Ask.i (fun c2 => ?_) (fun c2 => ?_)
      · rw [if_pos (show andU a 9223372036854775808 = andU b 9223372036854775808 from eq_of_beq c2)] at hr
        conv => whnf
        refine Ask.i (fun c3 => ?_) (fun c3 => ?_)
        · rw [if_pos (show x64 (p1.2 + p3.2) ≥ 72057594037927936 from of_decide_eq_true c3)] at hr
          obtain ⟨v4, h4, hr⟩ := Option.bind_eq_some_iff.1 hr
          obtain ⟨v5, h5, hr⟩ := Option.bind_eq_some_iff.1 hr
          conv => whnf
          refine ⟨by rw [show fadd_part_lower.f _ _ _ = _ from h4]; rfl, ?_⟩
          conv => whnf
          intro p4 e4
          obtain rfl := optG_eq h4 e4
          conv => whnf
          refine ⟨by rw [h5]; rfl, ?_⟩
          conv => whnf
          intro p5 e5
          obtain rfl := optG_eq h5 e5
          conv => whnf
          exact fin hk (congrArg (fun z : Int => SV.u (.c (U64 z))) (Option.some.inj hr).symm)
        · rw [if_neg (show ¬ x64 (p1.2 + p3.2) ≥ 72057594037927936 from of_decide_eq_false c3)] at hr
          obtain ⟨v5, h5, hr⟩ := Option.bind_eq_some_iff.1 hr
          conv => whnf
          refine ⟨by rw [show fadd_part_round.f _ _ = _ from h5]; rfl, ?_⟩
          conv => whnf
          intro p5 e5
          obtain rfl := optG_eq h5 e5
          conv => whnf
          exact fin hk (congrArg (fun z : Int => SV.u (.c (U64 z))) (Option.some.inj hr).symm)
      · rw [if_neg (show ¬ andU a 9223372036854775808 = andU b 9223372036854775808 from ne_of_beq_false c2)] at hr
        conv => whnf
        refine Ask.i (fun c3 => ?_) (fun c3 => ?_)
        · rw [if_pos (show x64 (p1.2 - p3.2) = 0 from eq_of_beq c3)] at hr
          conv => whnf
          exact fin hk (congrArg (fun z : Int => SV.u (.c (U64 z))) (Option.some.inj hr).symm)
        · rw [if_neg (show ¬ x64 (p1.2 - p3.2) = 0 from ne_of_beq_false c3)] at hr
          obtain ⟨v4, h4, hr⟩ := Option.bind_eq_some_iff.1 hr
          obtain ⟨v5, h5, hr⟩ := Option.bind_eq_some_iff.1 hr
          conv => whnf
          refine ⟨by rw [show fadd_part_raise.f _ _ _ = _ from h4]; rfl, ?_⟩
          conv => whnf
          intro p4 e4
          obtain rfl := optG_eq h4 e4
          conv => whnf
          refine ⟨by rw [h5]; rfl, ?_⟩
          conv => whnf
          intro p5 e5
          obtain rfl := optG_eq h5 e5
          conv => whnf
          exact fin hk (congrArg (fun z : Int => SV.u (.c (U64 z))) (Option.some.inj hr).symm)
  · exact hk.elim
def addT : List U → Out SV
  | [.c (.v (.int .u64 a)), .c (.v (.int .u64 b))] => .need (UU a ∧ UU b) (one (U64 (addV a b)))
  | _ => .fail
theorem of_bne_false {a b : Int} (h : (a != b) = false) : a = b := by simpa [bne] using h
theorem add_ex : Ok G 106 addT := by
  have hS : AllSound (B [(143, .pure (normG (B []) [31] classT)), (144, .pure (normG (B []) [31] quietT)), (145, .pure (normG (B []) [31, 31] finiteT))]) G := .cons _ class_ex (.cons _ quiet_ex (.cons _ finite_ex noneS))
  refine okP hS Tryz.func106 rfl (by decide) fun K us hk => ?_
  unfold addT at hk
  split at hk
  · rename_i a b
    refine ⟨by show 2 ≤ _; decide, ?_⟩
    obtain ⟨⟨ua, ub⟩, hk⟩ := hk
    have key : ∀ z, addV a b = z → K (.u (.c (U64 z))) := fun z h => fin hk (congrArg (fun z : Int => SV.u (.c (U64 z))) h)
    have ra := Go.Proofs.SxPu.cls_range a
    have rb := Go.Proofs.SxPu.cls_range b
    have fa : cls a < 3 → FinD a := Go.Proofs.SxPu.cls_fin ua
    have fb : cls b < 3 → FinD b := Go.Proofs.SxPu.cls_fin ub
    have av : addV a b = if cls a = 4 then qt a else if cls b = 4 then qt b else if cls a = 3 then (if cls b = 3 then (if a = b then a else 9221120237041090560) else a) else if cls b = 3 then b else finV a b := rfl
    conv => whnf
    refine ⟨ua, ?_⟩
    conv => whnf
    refine ⟨ub, ?_⟩
    conv => whnf
    refine Ask.i (fun c1 => ?_) (fun c1 => ?_)
    · have c1 : cls b = 4 := eq_of_beq c1
      conv => whnf
      refine Ask.i (fun c2 => ?_) (fun c2 => ?_)
      · have c2 : cls a < 4 := of_decide_eq_true c2
        conv => whnf
        exact key _ (by rw [av]; (repeat' split) <;> first | rfl | (exfalso; omega))
      · have c2 : ¬ cls a < 4 := of_decide_eq_false c2
        conv => whnf
        refine Ask.i (fun c3 => ?_) (fun c3 => ?_)
        · have c3 : cls a < 3 := of_decide_eq_true c3
          conv => whnf
          exact key _ (by rw [av]; (repeat' split) <;> first | rfl | (exfalso; omega))
        · have c3 : ¬ cls a < 3 := of_decide_eq_false c3
          conv => whnf
          refine Ask.i (fun c4 => ?_) (fun c4 => ?_)
          · have c4 : cls a = 3 := eq_of_beq c4
            conv => whnf
            refine Ask.i (fun c7 => ?_) (fun c7 => ?_)
            · have c7 : a ≠ b := bne_iff_ne.1 c7
              conv => whnf
              exact key _ (by rw [av]; (repeat' split) <;> first | rfl | (exfalso; omega))
            · have c7 : a = b := of_bne_false c7
              conv => whnf
              refine Ask.i (fun c5 => ?_) (fun c5 => ?_)
              · have c5 : cls a = 4 := eq_of_beq c5
                conv => whnf
                exact key _ (by rw [av]; (repeat' split) <;> first | rfl | (exfalso; omega))
              · have c5 : ¬ cls a = 4 := ne_of_beq_false c5
                conv => whnf
                refine Ask.i (fun c6 => ?_) (fun c6 => ?_)
                · have c6 : cls a = 3 := eq_of_beq c6
                  conv => whnf
                  exact key _ (by rw [av]; (repeat' split) <;> first | rfl | (exfalso; omega))
                · have c6 : ¬ cls a = 3 := ne_of_beq_false c6
                  conv => whnf
                  refine ⟨⟨ua, ub, fa (by omega), fb (by omega)⟩, ?_⟩
                  conv => whnf
                  exact key _ (by rw [av]; (repeat' split) <;> first | rfl | (exfalso; omega))
          · have c4 : ¬ cls a = 3 := ne_of_beq_false c4
            conv => whnf
            refine Ask.i (fun c5 => ?_) (fun c5 => ?_)
            · have c5 : cls a = 4 := eq_of_beq c5
              conv => whnf
              exact key _ (by rw [av]; (repeat' split) <;> first | rfl | (exfalso; omega))
            · have c5 : ¬ cls a = 4 := ne_of_beq_false c5
              conv => whnf
              refine Ask.i (fun c6 => ?_) (fun c6 => ?_)
              · have c6 : cls a = 3 := eq_of_beq c6
                conv => whnf
                exact key _ (by rw [av]; (repeat' split) <;> first | rfl | (exfalso; omega))
              · have c6 : ¬ cls a = 3 := ne_of_beq_false c6
                conv => whnf
                refine ⟨⟨ua, ub, fa (by omega), fb (by omega)⟩, ?_⟩
                conv => whnf
                exact key _ (by rw [av]; (repeat' split) <;> first | rfl | (exfalso; omega))
    · have c1 : ¬ cls b = 4 := ne_of_beq_false c1
      conv => whnf
      refine Ask.i (fun c8 => ?_) (fun c8 => ?_)
      · have c8 : cls b = 3 := eq_of_beq c8
        conv => whnf
        refine Ask.i (fun c3 => ?_) (fun c3 => ?_)
        · have c3 : cls a < 3 := of_decide_eq_true c3
          conv => whnf
          exact key _ (by rw [av]; (repeat' split) <;> first | rfl | (exfalso; omega))
        · have c3 : ¬ cls a < 3 := of_decide_eq_false c3
          conv => whnf
          refine Ask.i (fun c4 => ?_) (fun c4 => ?_)
          · have c4 : cls a = 3 := eq_of_beq c4
            conv => whnf
            refine Ask.i (fun c7 => ?_) (fun c7 => ?_)
            · have c7 : a ≠ b := bne_iff_ne.1 c7
              conv => whnf
              exact key _ (by rw [av]; (repeat' split) <;> first | rfl | (exfalso; omega))
            · have c7 : a = b := of_bne_false c7
              conv => whnf
              refine Ask.i (fun c5 => ?_) (fun c5 => ?_)
              · have c5 : cls a = 4 := eq_of_beq c5
                conv => whnf
                exact key _ (by rw [av]; (repeat' split) <;> first | rfl | (exfalso; omega))
              · have c5 : ¬ cls a = 4 := ne_of_beq_false c5
                conv => whnf
                refine Ask.i (fun c6 => ?_) (fun c6 => ?_)
                · have c6 : cls a = 3 := eq_of_beq c6
                  conv => whnf
                  exact key _ (by rw [av]; (repeat' split) <;> first | rfl | (exfalso; omega))
                · have c6 : ¬ cls a = 3 := ne_of_beq_false c6
                  conv => whnf
                  refine ⟨⟨ua, ub, fa (by omega), fb (by omega)⟩, ?_⟩
                  conv => whnf
                  exact key _ (by rw [av]; (repeat' split) <;> first | rfl | (exfalso; omega))
          · have c4 : ¬ cls a = 3 := ne_of_beq_false c4
            conv => whnf
            refine Ask.i (fun c5 => ?_) (fun c5 => ?_)
            · have c5 : cls a = 4 := eq_of_beq c5
              conv => whnf
              exact key _ (by rw [av]; (repeat' split) <;> first | rfl | (exfalso; omega))
            · have c5 : ¬ cls a = 4 := ne_of_beq_false c5
              conv => whnf
              refine Ask.i (fun c6 => ?_) (fun c6 => ?_)
              · have c6 : cls a = 3 := eq_of_beq c6
                conv => whnf
                exact key _ (by rw [av]; (repeat' split) <;> first | rfl | (exfalso; omega))
              · have c6 : ¬ cls a = 3 := ne_of_beq_false c6
                conv => whnf
                refine ⟨⟨ua, ub, fa (by omega), fb (by omega)⟩, ?_⟩
                conv => whnf
                exact key _ (by rw [av]; (repeat' split) <;> first | rfl | (exfalso; omega))
      · have c8 : ¬ cls b = 3 := ne_of_beq_false c8
        conv => whnf
        refine Ask.i (fun c5 => ?_) (fun c5 => ?_)
        · have c5 : cls a = 4 := eq_of_beq c5
          conv => whnf
          exact key _ (by rw [av]; (repeat' split) <;> first | rfl | (exfalso; omega))
        · have c5 : ¬ cls a = 4 := ne_of_beq_false c5
          conv => whnf
          refine Ask.i (fun c6 => ?_) (fun c6 => ?_)
          · have c6 : cls a = 3 := eq_of_beq c6
            conv => whnf
            exact key _ (by rw [av]; (repeat' split) <;> first | rfl | (exfalso; omega))
          · have c6 : ¬ cls a = 3 := ne_of_beq_false c6
            conv => whnf
            refine ⟨⟨ua, ub, fa (by omega), fb (by omega)⟩, ?_⟩
            conv => whnf
            exact key _ (by rw [av]; (repeat' split) <;> first | rfl | (exfalso; omega))
  · exact hk.elim
end Sx
/-! Contracts: the reference's doubles: classes, parts, signs. -/
namespace Sx
open Go Go.Proofs
open Sx.Pf (hygref6_Class.f hygref6_Class.j0 hygref6_parts.f hygref6_neg.f)
open Go.Proofs.SxPu (cls qt sz sg addV subV ng finV)
set_option linter.unusedVariables false
set_option linter.unusedSimpArgs false
set_option maxRecDepth 30000
variable {G : Glob}
theorem itp {ρ : Type} {c : Prop} [Decidable c] {a b : Option ρ} {v : ρ} (h : (if c then a else b) = some v) (hc : c) : a = some v := by rwa [if_pos hc] at h
theorem itn {ρ : Type} {c : Prop} [Decidable c] {a b : Option ρ} {v : ρ} (h : (if c then a else b) = some v) (hc : ¬ c) : b = some v := by rwa [if_neg hc] at h
theorem rclass_ex : Ok G 91 classT := by
  refine okP noneS Tryz.func91 rfl (by decide) fun K us hk => ?_
  unfold classT at hk
  split at hk
  · rename_i x
    obtain ⟨u, hk⟩ := hk
    have hr := Go.Proofs.SxPu.rclass_f (k := 0 + 1) u (by decide)
    generalize cls x = R at hk hr
    have key : ∀ {z}, some z = some R → K (.u (.c (I64 z))) := fun {z} h => fin hk (congrArg (fun z : Int => SV.u (.c (I64 z))) (Option.some.inj h).symm)
    refine ⟨by show 1 ≤ _; decide, ?_⟩
    unfold hygref6_Class.f at hr
    simp only [hygref6_Class.j0, bits_and] at hr
    conv => whnf
    refine ⟨by decide, ?_⟩
    conv => whnf
    refine Ask.i (fun c1 => ?_) (fun c1 => ?_)
    · simp only [fdn] at c1
      replace hr := itp hr (eq_of_beq c1)
      conv => whnf
      refine Ask.i (fun c2 => ?_) (fun c2 => ?_)
      · replace hr := itp hr ( c2)
        conv => whnf
        exact key hr
      · replace hr := itn hr (ne_true_of_eq_false c2)
        conv => whnf
        refine Ask.i (fun c3 => ?_) (fun c3 => ?_)
        · simp only [fdn] at c3
          replace hr := itp hr (eq_of_beq c3)
          conv => whnf
          exact key hr
        · simp only [fdn] at c3
          replace hr := itn hr (ne_of_beq_false c3)
          conv => whnf
          refine Ask.i (fun d2 => ?_) (fun d2 => ?_)
          · simp only [fdn] at d2
            replace hr := itp hr (of_decide_eq_true d2)
            conv => whnf
            exact key hr
          · simp only [fdn] at d2
            replace hr := itn hr (of_decide_eq_false d2)
            conv => whnf
            refine Ask.i (fun d3 => ?_) (fun d3 => ?_)
            · replace hr := itp hr (of_decide_eq_true d3)
              conv => whnf
              exact key hr
            · replace hr := itn hr (of_decide_eq_false d3)
              conv => whnf
              exact key hr
    · simp only [fdn] at c1
      replace hr := itn hr (ne_of_beq_false c1)
      conv => whnf
      replace hr := itn hr (by decide)
      refine Ask.i (fun c3 => ?_) (fun c3 => ?_)
      · simp only [fdn] at c3
        replace hr := itp hr (eq_of_beq c3)
        conv => whnf
        exact key hr
      · simp only [fdn] at c3
        replace hr := itn hr (ne_of_beq_false c3)
        conv => whnf
        refine Ask.i (fun d2 => ?_) (fun d2 => ?_)
        · simp only [fdn] at d2
          replace hr := itp hr (of_decide_eq_true d2)
          conv => whnf
          exact key hr
        · simp only [fdn] at d2
          replace hr := itn hr (of_decide_eq_false d2)
          conv => whnf
          refine Ask.i (fun d3 => ?_) (fun d3 => ?_)
          · replace hr := itp hr (of_decide_eq_true d3)
            conv => whnf
            exact key hr
          · replace hr := itn hr (of_decide_eq_false d3)
            conv => whnf
            exact key hr
  · exact hk.elim
theorem rquiet_ex : Ok G 92 quietT := by
  refine okP noneS Tryz.func92 rfl (by decide) fun K us hk => ?_
  unfold quietT at hk
  split at hk
  · refine ⟨by show 1 ≤ _; decide, ?_⟩
    conv => whnf
    exact hk
  · exact hk.elim
def rsizeT : List U → Out SV
  | [.c (.v (.int .u64 x))] => .need (UU x) (one (U64 (sz x : Nat)))
  | _ => .fail
theorem rsize_ex : Ok G 93 rsizeT := by
  refine okP noneS Tryz.func93 rfl (by decide) fun K us hk => ?_
  unfold rsizeT at hk
  split at hk
  · rename_i x
    obtain ⟨u, hk⟩ := hk
    refine ⟨by show 1 ≤ _; decide, ?_⟩
    have e := (Option.some.inj (Go.Proofs.SxPu.rsize_f u)).symm
    rw [← Go.Proofs.SxPu.sz_cast u] at e
    conv => whnf
    exact fin hk (congrArg (fun z : Int => SV.u (.c (U64 z))) e)
  · exact hk.elim
def rnegT : List U → Out SV
  | [.c (.v (.int .u64 x))] => .need (UU x) (one (Bo (decide (9223372036854775808 ≤ x))))
  | _ => .fail
theorem rneg_ex : Ok G 95 rnegT := by
  refine okP noneS Tryz.func95 rfl (by decide) fun K us hk => ?_
  unfold rnegT at hk
  split at hk
  · rename_i x
    obtain ⟨u, hk⟩ := hk
    refine ⟨by show 1 ≤ _; decide, ?_⟩
    have e := (Option.some.inj (Go.Proofs.SxPu.rneg_f u)).symm
    conv => whnf
    refine ⟨by decide, ?_⟩
    conv => whnf
    exact fin hk (congrArg (fun z : Bool => SV.u (.c (Bo z))) (by rw [e]; simp only [fdn]; rfl))
  · exact hk.elim
theorem rNeg_ex : Ok G 170 negT := by
  refine okP noneS Tryz.func170 rfl (by decide) fun K us hk => ?_
  unfold negT at hk
  split at hk
  · refine ⟨by show 1 ≤ _; decide, ?_⟩
    obtain ⟨hu, hk⟩ := hk
    conv => whnf
    refine fin hk (congrArg (fun z : Int => SV.u (.c (U64 z))) ?_)
    exact (Option.some.inj (Go.Proofs.SxPu.neg_f hu)).symm
  · exact hk.elim
def partsT : List U → Out SV
  | [.c (.v (.int .u64 x))] => optG (hygref6_parts.f x) (0, 0) fun p => .ret (.t [.c (U64 p.1), .c (I64 p.2)])
  | _ => .fail
theorem eq2t {a a' b b' : Int} (h1 : a = a') (h2 : b = b') : SV.t [.c (U64 a), .c (I64 b)] = SV.t [.c (U64 a'), .c (I64 b')] := by subst h1 h2; rfl
theorem parts_ex : Ok G 94 partsT := by
  refine okP noneS Tryz.func94 rfl (by decide) fun K us hk => ?_
  unfold partsT at hk
  split at hk
  · rename_i x
    obtain ⟨v, hr, hk⟩ := optG_wp hk
    refine ⟨by show 1 ≤ _; decide, ?_⟩
    unfold hygref6_parts.f at hr
    simp only [bits_and, bits_or, rw64] at hr
    conv => whnf
    refine ⟨by decide, ?_⟩
    conv => whnf
    refine Ask.i (fun c1 => ?_) (fun c1 => ?_)
    · simp only [fdn] at c1
      replace hr := itp hr (eq_of_beq c1)
      cases hr
      conv => whnf
      exact hk
    · simp only [fdn] at c1
      replace hr := itn hr (ne_of_beq_false c1)
      cases hr
      conv => whnf
      exact fin hk (eq2t rfl (by simp only [fdn]; rfl))
  · exact hk.elim
end Sx
/-! Contracts: the reference's rounding. -/
namespace Sx
open Go Go.Proofs
open Sx.Pf (hygref6_round.f hygref6_round.j0 hygref6_round.l0 hygref6_round.j2 hygref6_round.j3)
set_option linter.unusedVariables false
set_option linter.unusedSimpArgs false
set_option maxRecDepth 30000
variable {G : Glob}
theorem j2_pos {k : Nat} {a b c v : Int} (h : hygref6_round.j2 k a b c = some v) : ∃ n, k = n + 1 := by
  cases k with
  | zero => rw [hygref6_round.j2] at h; cases h
  | succ k => exact ⟨k, rfl⟩
theorem j3_pos {k : Nat} {a b c v : Int} (h : hygref6_round.j3 k a b c = some v) : ∃ n, k = n + 1 := by
  cases k with
  | zero => rw [hygref6_round.j3] at h; cases h
  | succ k => exact ⟨k, rfl⟩
theorem neg0 (n : Int) : w64 (-n) = w64 (0 - n) := by rw [Int.zero_sub]
set_option maxHeartbeats 1000000
def rroundT : List U → Out SV
  | [.c (.v (.bool b)), .c (.v (.int .u64 m)), .c (.v (.int .i64 e))] => optG (hygref6_round.f 196 b m e) 0 fun p => one (U64 p)
  | _ => .fail
theorem rround_ex : Ok G 96 rroundT := by
  refine okP noneS Tryz.func96 rfl (by decide) fun K us hk => ?_
  unfold rroundT at hk
  split at hk
  · rename_i b m e
    obtain ⟨v, hr, hk⟩ := optG_wp hk
    refine ⟨by show 3 ≤ _; decide, ?_⟩
    unfold hygref6_round.f at hr
    conv => whnf
    refine Ask.i (fun b0 => ?_) (fun b0 => ?_)
    · try simp only [fdn] at b0
      replace hr := itp hr ( b0)
      conv => whnf
      rw [hygref6_round.j0] at hr
      refine Ask.i (fun m0 => ?_) (fun m0 => ?_)
      · try simp only [fdn] at m0
        replace hr := itp hr (eq_of_beq m0)
        conv => whnf
        exact fin hk (congrArg (fun z : Int => SV.u (.c (U64 z))) ((Option.some.inj hr).symm.trans (by first | rfl | (simp only [fdn]; rfl))))
      · try simp only [fdn] at m0
        replace hr := itn hr (ne_of_beq_false m0)
        conv => whnf
        refine ⟨[], _, _, rfl, Nat × Int, (fun y => ([(1, .u (.c (U64 m))), (2, .u (.c (I64 e))), (7, .u (.c (U64 9223372036854775808))), (8, .u (.c (I64 y.2)))], [])),
          (fun y => hygref6_round.l0 y.1 m e 9223372036854775808 y.2 = some v), (fun y => y.1), fun x _ => rfl, ⟨(195, 0), hr, ⟨rfl, rfl, rfl, rfl, trivial⟩, trivial⟩, ?_⟩
        rintro ⟨k, i⟩ hr
        replace hr : hygref6_round.l0 k m e 9223372036854775808 i = some v := hr
        cases k with
        | zero => cases hr
        | succ k =>
          rw [hygref6_round.l0] at hr
          simp only [rw64, bits_and, bits_or] at hr
          replace hr := itp hr (x64_r _).1
          conv => whnf
          refine ⟨(x64_r _).1, ?_⟩
          conv => whnf
          refine Ask.i (fun b1 => ?_) (fun b1 => ?_)
          · try simp only [fdn] at b1
            replace hr := itp hr (of_decide_eq_true b1)
            conv => whnf
            exact ⟨(k, w64 (i + 1)), hr, Nat.lt_succ_self k, ⟨rfl, rfl, rfl, rfl, trivial⟩, trivial⟩
          · try simp only [fdn] at b1
            replace hr := itn hr (of_decide_eq_false b1)
            conv => whnf
            refine Ask.i (fun c1 => ?_) (fun c1 => ?_)
            · try simp only [fdn] at c1
              replace hr := itp hr (of_decide_eq_true c1)
              conv => whnf
              refine Ask.i (fun c2 => ?_) (fun c2 => ?_)
              · try simp only [fdn] at c2
                replace hr := itp hr (of_decide_eq_true c2)
                conv => whnf
                exact fin hk (congrArg (fun z : Int => SV.u (.c (U64 z))) ((Option.some.inj hr).symm.trans (by first | rfl | (simp only [fdn]; rfl))))
              · try simp only [fdn] at c2
                replace hr := itn hr (of_decide_eq_false c2)
                conv => whnf
                refine Ask.i (fun c3 => ?_) (fun c3 => ?_)
                · try simp only [fdn] at c3
                  replace hr := itp hr (of_decide_eq_true c3)
                  conv => whnf
                  refine ⟨(x64_r _).1, ?_⟩
                  conv => whnf
                  refine ⟨(x64_r _).1, ?_⟩
                  conv => whnf
                  replace hr := itp (itp hr (x64_r _).1) (x64_r _).1
                  refine ⟨(x64_r _).1, ?_⟩
                  conv => whnf
                  refine Ask.i (fun g1 => ?_) (fun g1 => ?_)
                  · try simp only [fdn] at g1
                    replace hr := itp hr (of_decide_eq_true g1)
                    conv => whnf
                    obtain ⟨k, rfl⟩ := j2_pos hr
                    rw [hygref6_round.j2] at hr
                    simp only [rw64, bits_and, bits_or] at hr
                    refine ⟨by decide, ?_⟩
                    conv => whnf
                    refine Ask.i (fun t1 => ?_) (fun t1 => ?_)
                    · try simp only [fdn] at t1
                      replace hr := itp hr (eq_of_beq t1)
                      conv => whnf
                      refine ⟨by decide, ?_⟩
                      conv => whnf
                      obtain ⟨k, rfl⟩ := j3_pos hr
                      rw [hygref6_round.j3] at hr
                      simp only [rw64, bits_and, bits_or] at hr
                      refine ⟨by decide, ?_⟩
                      conv => whnf
                      refine Ask.i (fun t2 => ?_) (fun t2 => ?_)
                      · try simp only [fdn] at t2
                        replace hr := itp hr (eq_of_beq t2)
                        conv => whnf
                        exact fin hk (congrArg (fun z : Int => SV.u (.c (U64 z))) ((Option.some.inj hr).symm.trans (by first | rfl | (simp only [fdn]; rfl))))
                      · try simp only [fdn] at t2
                        replace hr := itn hr (ne_of_beq_false t2)
                        conv => whnf
                        refine Ask.i (fun t3 => ?_) (fun t3 => ?_)
                        · try simp only [fdn] at t3
                          replace hr := itp hr (of_decide_eq_true t3)
                          conv => whnf
                          exact fin hk (congrArg (fun z : Int => SV.u (.c (U64 z))) ((Option.some.inj hr).symm.trans (by first | rfl | (simp only [fdn]; rfl))))
                        · try simp only [fdn] at t3
                          replace hr := itn hr (of_decide_eq_false t3)
                          conv => whnf
                          refine ⟨by decide, ?_⟩
                          conv => whnf
                          exact fin hk (congrArg (fun z : Int => SV.u (.c (U64 z))) ((Option.some.inj hr).symm.trans (by first | rfl | (simp only [fdn]; rfl))))
                    · try simp only [fdn] at t1
                      replace hr := itn hr (ne_of_beq_false t1)
                      conv => whnf
                      obtain ⟨k, rfl⟩ := j3_pos hr
                      rw [hygref6_round.j3] at hr
                      simp only [rw64, bits_and, bits_or] at hr
                      refine ⟨by decide, ?_⟩
                      conv => whnf
                      refine Ask.i (fun t2 => ?_) (fun t2 => ?_)
                      · try simp only [fdn] at t2
                        replace hr := itp hr (eq_of_beq t2)
                        conv => whnf
                        exact fin hk (congrArg (fun z : Int => SV.u (.c (U64 z))) ((Option.some.inj hr).symm.trans (by first | rfl | (simp only [fdn]; rfl))))
                      · try simp only [fdn] at t2
                        replace hr := itn hr (ne_of_beq_false t2)
                        conv => whnf
                        refine Ask.i (fun t3 => ?_) (fun t3 => ?_)
                        · try simp only [fdn] at t3
                          replace hr := itp hr (of_decide_eq_true t3)
                          conv => whnf
                          exact fin hk (congrArg (fun z : Int => SV.u (.c (U64 z))) ((Option.some.inj hr).symm.trans (by first | rfl | (simp only [fdn]; rfl))))
                        · try simp only [fdn] at t3
                          replace hr := itn hr (of_decide_eq_false t3)
                          conv => whnf
                          refine ⟨by decide, ?_⟩
                          conv => whnf
                          exact fin hk (congrArg (fun z : Int => SV.u (.c (U64 z))) ((Option.some.inj hr).symm.trans (by first | rfl | (simp only [fdn]; rfl))))
                  · try simp only [fdn] at g1
                    replace hr := itn hr (of_decide_eq_false g1)
                    conv => whnf
                    refine Ask.i (fun g2 => ?_) (fun g2 => ?_)
                    · try simp only [fdn] at g2
                      replace hr := itp hr (eq_of_beq g2)
                      conv => whnf
                      refine Ask.i (fun g3 => ?_) (fun g3 => ?_)
                      · try simp only [fdn] at g3
                        replace hr := itp hr (eq_of_beq g3)
                        conv => whnf
                        obtain ⟨k, rfl⟩ := j2_pos hr
                        rw [hygref6_round.j2] at hr
                        simp only [rw64, bits_and, bits_or] at hr
                        refine ⟨by decide, ?_⟩
                        conv => whnf
                        refine Ask.i (fun t1 => ?_) (fun t1 => ?_)
                        · try simp only [fdn] at t1
                          replace hr := itp hr (eq_of_beq t1)
                          conv => whnf
                          refine ⟨by decide, ?_⟩
                          conv => whnf
                          obtain ⟨k, rfl⟩ := j3_pos hr
                          rw [hygref6_round.j3] at hr
                          simp only [rw64, bits_and, bits_or] at hr
                          refine ⟨by decide, ?_⟩
                          conv => whnf
                          refine Ask.i (fun t2 => ?_) (fun t2 => ?_)
                          · try simp only [fdn] at t2
                            replace hr := itp hr (eq_of_beq t2)
                            conv => whnf
                            exact fin hk (congrArg (fun z : Int => SV.u (.c (U64 z))) ((Option.some.inj hr).symm.trans (by first | rfl | (simp only [fdn]; rfl))))
                          · try simp only [fdn] at t2
                            replace hr := itn hr (ne_of_beq_false t2)
                            conv => whnf
                            refine Ask.i (fun t3 => ?_) (fun t3 => ?_)
                            · try simp only [fdn] at t3
                              replace hr := itp hr (of_decide_eq_true t3)
                              conv => whnf
                              exact fin hk (congrArg (fun z : Int => SV.u (.c (U64 z))) ((Option.some.inj hr).symm.trans (by first | rfl | (simp only [fdn]; rfl))))
                            · try simp only [fdn] at t3
                              replace hr := itn hr (of_decide_eq_false t3)
                              conv => whnf
                              refine ⟨by decide, ?_⟩
                              conv => whnf
                              exact fin hk (congrArg (fun z : Int => SV.u (.c (U64 z))) ((Option.some.inj hr).symm.trans (by first | rfl | (simp only [fdn]; rfl))))
                        · try simp only [fdn] at t1
                          replace hr := itn hr (ne_of_beq_false t1)
                          conv => whnf
                          obtain ⟨k, rfl⟩ := j3_pos hr
                          rw [hygref6_round.j3] at hr
                          simp only [rw64, bits_and, bits_or] at hr
                          refine ⟨by decide, ?_⟩
                          conv => whnf
                          refine Ask.i (fun t2 => ?_) (fun t2 => ?_)
                          · try simp only [fdn] at t2
                            replace hr := itp hr (eq_of_beq t2)
                            conv => whnf
                            exact fin hk (congrArg (fun z : Int => SV.u (.c (U64 z))) ((Option.some.inj hr).symm.trans (by first | rfl | (simp only [fdn]; rfl))))
                          · try simp only [fdn] at t2
                            replace hr := itn hr (ne_of_beq_false t2)
                            conv => whnf
                            refine Ask.i (fun t3 => ?_) (fun t3 => ?_)
                            · try simp only [fdn] at t3
                              replace hr := itp hr (of_decide_eq_true t3)
                              conv => whnf
                              exact fin hk (congrArg (fun z : Int => SV.u (.c (U64 z))) ((Option.some.inj hr).symm.trans (by first | rfl | (simp only [fdn]; rfl))))
                            · try simp only [fdn] at t3
                              replace hr := itn hr (of_decide_eq_false t3)
                              conv => whnf
                              refine ⟨by decide, ?_⟩
                              conv => whnf
                              exact fin hk (congrArg (fun z : Int => SV.u (.c (U64 z))) ((Option.some.inj hr).symm.trans (by first | rfl | (simp only [fdn]; rfl))))
                      · try simp only [fdn] at g3
                        replace hr := itn hr (ne_of_beq_false g3)
                        conv => whnf
                        obtain ⟨k, rfl⟩ := j2_pos hr
                        rw [hygref6_round.j2] at hr
                        simp only [rw64, bits_and, bits_or] at hr
                        refine ⟨by decide, ?_⟩
                        conv => whnf
                        refine Ask.i (fun t1 => ?_) (fun t1 => ?_)
                        · try simp only [fdn] at t1
                          replace hr := itp hr (eq_of_beq t1)
                          conv => whnf
                          refine ⟨by decide, ?_⟩
                          conv => whnf
                          obtain ⟨k, rfl⟩ := j3_pos hr
                          rw [hygref6_round.j3] at hr
                          simp only [rw64, bits_and, bits_or] at hr
                          refine ⟨by decide, ?_⟩
                          conv => whnf
                          refine Ask.i (fun t2 => ?_) (fun t2 => ?_)
                          · try simp only [fdn] at t2
                            replace hr := itp hr (eq_of_beq t2)
                            conv => whnf
                            exact fin hk (congrArg (fun z : Int => SV.u (.c (U64 z))) ((Option.some.inj hr).symm.trans (by first | rfl | (simp only [fdn]; rfl))))
                          · try simp only [fdn] at t2
                            replace hr := itn hr (ne_of_beq_false t2)
                            conv => whnf
                            refine Ask.i (fun t3 => ?_) (fun t3 => ?_)
                            · try simp only [fdn] at t3
                              replace hr := itp hr (of_decide_eq_true t3)
                              conv => whnf
                              exact fin hk (congrArg (fun z : Int => SV.u (.c (U64 z))) ((Option.some.inj hr).symm.trans (by first | rfl | (simp only [fdn]; rfl))))
                            · try simp only [fdn] at t3
                              replace hr := itn hr (of_decide_eq_false t3)
                              conv => whnf
                              refine ⟨by decide, ?_⟩
                              conv => whnf
                              exact fin hk (congrArg (fun z : Int => SV.u (.c (U64 z))) ((Option.some.inj hr).symm.trans (by first | rfl | (simp only [fdn]; rfl))))
                        · try simp only [fdn] at t1
                          replace hr := itn hr (ne_of_beq_false t1)
                          conv => whnf
                          obtain ⟨k, rfl⟩ := j3_pos hr
                          rw [hygref6_round.j3] at hr
                          simp only [rw64, bits_and, bits_or] at hr
                          refine ⟨by decide, ?_⟩
                          conv => whnf
                          refine Ask.i (fun t2 => ?_) (fun t2 => ?_)
                          · try simp only [fdn] at t2
                            replace hr := itp hr (eq_of_beq t2)
                            conv => whnf
                            exact fin hk (congrArg (fun z : Int => SV.u (.c (U64 z))) ((Option.some.inj hr).symm.trans (by first | rfl | (simp only [fdn]; rfl))))
                          · try simp only [fdn] at t2
                            replace hr := itn hr (ne_of_beq_false t2)
                            conv => whnf
                            refine Ask.i (fun t3 => ?_) (fun t3 => ?_)
                            · try simp only [fdn] at t3
                              replace hr := itp hr (of_decide_eq_true t3)
                              conv => whnf
                              exact fin hk (congrArg (fun z : Int => SV.u (.c (U64 z))) ((Option.some.inj hr).symm.trans (by first | rfl | (simp only [fdn]; rfl))))
                            · try simp only [fdn] at t3
                              replace hr := itn hr (of_decide_eq_false t3)
                              conv => whnf
                              refine ⟨by decide, ?_⟩
                              conv => whnf
                              exact fin hk (congrArg (fun z : Int => SV.u (.c (U64 z))) ((Option.some.inj hr).symm.trans (by first | rfl | (simp only [fdn]; rfl))))
                    · try simp only [fdn] at g2
                      replace hr := itn hr (ne_of_beq_false g2)
                      conv => whnf
                      obtain ⟨k, rfl⟩ := j2_pos hr
                      rw [hygref6_round.j2] at hr
                      simp only [rw64, bits_and, bits_or] at hr
                      refine ⟨by decide, ?_⟩
                      conv => whnf
                      refine Ask.i (fun t1 => ?_) (fun t1 => ?_)
                      · try simp only [fdn] at t1
                        replace hr := itp hr (eq_of_beq t1)
                        conv => whnf
                        refine ⟨by decide, ?_⟩
                        conv => whnf
                        obtain ⟨k, rfl⟩ := j3_pos hr
                        rw [hygref6_round.j3] at hr
                        simp only [rw64, bits_and, bits_or] at hr
                        refine ⟨by decide, ?_⟩
                        conv => whnf
                        refine Ask.i (fun t2 => ?_) (fun t2 => ?_)
                        · try simp only [fdn] at t2
                          replace hr := itp hr (eq_of_beq t2)
                          conv => whnf
                          exact fin hk (congrArg (fun z : Int => SV.u (.c (U64 z))) ((Option.some.inj hr).symm.trans (by first | rfl | (simp only [fdn]; rfl))))
                        · try simp only [fdn] at t2
                          replace hr := itn hr (ne_of_beq_false t2)
                          conv => whnf
                          refine Ask.i (fun t3 => ?_) (fun t3 => ?_)
                          · try simp only [fdn] at t3
                            replace hr := itp hr (of_decide_eq_true t3)
                            conv => whnf
                            exact fin hk (congrArg (fun z : Int => SV.u (.c (U64 z))) ((Option.some.inj hr).symm.trans (by first | rfl | (simp only [fdn]; rfl))))
                          · try simp only [fdn] at t3
                            replace hr := itn hr (of_decide_eq_false t3)
                            conv => whnf
                            refine ⟨by decide, ?_⟩
                            conv => whnf
                            exact fin hk (congrArg (fun z : Int => SV.u (.c (U64 z))) ((Option.some.inj hr).symm.trans (by first | rfl | (simp only [fdn]; rfl))))
                      · try simp only [fdn] at t1
                        replace hr := itn hr (ne_of_beq_false t1)
                        conv => whnf
                        obtain ⟨k, rfl⟩ := j3_pos hr
                        rw [hygref6_round.j3] at hr
                        simp only [rw64, bits_and, bits_or] at hr
                        refine ⟨by decide, ?_⟩
                        conv => whnf
                        refine Ask.i (fun t2 => ?_) (fun t2 => ?_)
                        · try simp only [fdn] at t2
                          replace hr := itp hr (eq_of_beq t2)
                          conv => whnf
                          exact fin hk (congrArg (fun z : Int => SV.u (.c (U64 z))) ((Option.some.inj hr).symm.trans (by first | rfl | (simp only [fdn]; rfl))))
                        · try simp only [fdn] at t2
                          replace hr := itn hr (ne_of_beq_false t2)
                          conv => whnf
                          refine Ask.i (fun t3 => ?_) (fun t3 => ?_)
                          · try simp only [fdn] at t3
                            replace hr := itp hr (of_decide_eq_true t3)
                            conv => whnf
                            exact fin hk (congrArg (fun z : Int => SV.u (.c (U64 z))) ((Option.some.inj hr).symm.trans (by first | rfl | (simp only [fdn]; rfl))))
                          · try simp only [fdn] at t3
                            replace hr := itn hr (of_decide_eq_false t3)
                            conv => whnf
                            refine ⟨by decide, ?_⟩
                            conv => whnf
                            exact fin hk (congrArg (fun z : Int => SV.u (.c (U64 z))) ((Option.some.inj hr).symm.trans (by first | rfl | (simp only [fdn]; rfl))))
                · try simp only [fdn] at c3
                  replace hr := itn hr (of_decide_eq_false c3)
                  conv => whnf
                  replace hr := itp hr (x64_r _).1
                  refine ⟨(x64_r _).1, ?_⟩
                  conv => whnf
                  refine Ask.i (fun g1 => ?_) (fun g1 => ?_)
                  · try simp only [fdn] at g1
                    replace hr := itp hr (of_decide_eq_true g1)
                    conv => whnf
                    obtain ⟨k, rfl⟩ := j2_pos hr
                    rw [hygref6_round.j2] at hr
                    replace hr := itn hr (by decide)
                    refine ⟨by decide, ?_⟩
                    conv => whnf
                    obtain ⟨k, rfl⟩ := j3_pos hr
                    rw [hygref6_round.j3] at hr
                    replace hr := itp hr (by decide)
                    refine ⟨by decide, ?_⟩
                    conv => whnf
                    exact fin hk (congrArg (fun z : Int => SV.u (.c (U64 z))) ((Option.some.inj hr).symm.trans (by first | rfl | (simp only [fdn]; rfl))))
                  · try simp only [fdn] at g1
                    replace hr := itn hr (of_decide_eq_false g1)
                    conv => whnf
                    refine Ask.i (fun g2 => ?_) (fun g2 => ?_)
                    · try simp only [fdn] at g2
                      replace hr := itp hr (eq_of_beq g2)
                      conv => whnf
                      replace hr := itn hr (by decide)
                      obtain ⟨k, rfl⟩ := j2_pos hr
                      rw [hygref6_round.j2] at hr
                      replace hr := itn hr (by decide)
                      refine ⟨by decide, ?_⟩
                      conv => whnf
                      obtain ⟨k, rfl⟩ := j3_pos hr
                      rw [hygref6_round.j3] at hr
                      replace hr := itp hr (by decide)
                      refine ⟨by decide, ?_⟩
                      conv => whnf
                      exact fin hk (congrArg (fun z : Int => SV.u (.c (U64 z))) ((Option.some.inj hr).symm.trans (by first | rfl | (simp only [fdn]; rfl))))
                    · try simp only [fdn] at g2
                      replace hr := itn hr (ne_of_beq_false g2)
                      conv => whnf
                      obtain ⟨k, rfl⟩ := j2_pos hr
                      rw [hygref6_round.j2] at hr
                      replace hr := itn hr (by decide)
                      refine ⟨by decide, ?_⟩
                      conv => whnf
                      obtain ⟨k, rfl⟩ := j3_pos hr
                      rw [hygref6_round.j3] at hr
                      replace hr := itp hr (by decide)
                      refine ⟨by decide, ?_⟩
                      conv => whnf
                      exact fin hk (congrArg (fun z : Int => SV.u (.c (U64 z))) ((Option.some.inj hr).symm.trans (by first | rfl | (simp only [fdn]; rfl))))
            · try simp only [fdn] at c1
              replace hr := itn hr (of_decide_eq_false c1)
              conv => whnf
              replace hr := itp hr (x64_r _).1
              simp only [neg0] at hr
              refine ⟨(x64_r _).1, ?_⟩
              conv => whnf
              obtain ⟨k, rfl⟩ := j2_pos hr
              rw [hygref6_round.j2] at hr
              simp only [rw64, bits_and, bits_or] at hr
              refine ⟨by decide, ?_⟩
              conv => whnf
              refine Ask.i (fun t1 => ?_) (fun t1 => ?_)
              · try simp only [fdn] at t1
                replace hr := itp hr (eq_of_beq t1)
                conv => whnf
                refine ⟨by decide, ?_⟩
                conv => whnf
                obtain ⟨k, rfl⟩ := j3_pos hr
                rw [hygref6_round.j3] at hr
                simp only [rw64, bits_and, bits_or] at hr
                refine ⟨by decide, ?_⟩
                conv => whnf
                refine Ask.i (fun t2 => ?_) (fun t2 => ?_)
                · try simp only [fdn] at t2
                  replace hr := itp hr (eq_of_beq t2)
                  conv => whnf
                  exact fin hk (congrArg (fun z : Int => SV.u (.c (U64 z))) ((Option.some.inj hr).symm.trans (by first | rfl | (simp only [fdn]; rfl))))
                · try simp only [fdn] at t2
                  replace hr := itn hr (ne_of_beq_false t2)
                  conv => whnf
                  refine Ask.i (fun t3 => ?_) (fun t3 => ?_)
                  · try simp only [fdn] at t3
                    replace hr := itp hr (of_decide_eq_true t3)
                    conv => whnf
                    exact fin hk (congrArg (fun z : Int => SV.u (.c (U64 z))) ((Option.some.inj hr).symm.trans (by first | rfl | (simp only [fdn]; rfl))))
                  · try simp only [fdn] at t3
                    replace hr := itn hr (of_decide_eq_false t3)
                    conv => whnf
                    refine ⟨by decide, ?_⟩
                    conv => whnf
                    exact fin hk (congrArg (fun z : Int => SV.u (.c (U64 z))) ((Option.some.inj hr).symm.trans (by first | rfl | (simp only [fdn]; rfl))))
              · try simp only [fdn] at t1
                replace hr := itn hr (ne_of_beq_false t1)
                conv => whnf
                obtain ⟨k, rfl⟩ := j3_pos hr
                rw [hygref6_round.j3] at hr
                simp only [rw64, bits_and, bits_or] at hr
                refine ⟨by decide, ?_⟩
                conv => whnf
                refine Ask.i (fun t2 => ?_) (fun t2 => ?_)
                · try simp only [fdn] at t2
                  replace hr := itp hr (eq_of_beq t2)
                  conv => whnf
                  exact fin hk (congrArg (fun z : Int => SV.u (.c (U64 z))) ((Option.some.inj hr).symm.trans (by first | rfl | (simp only [fdn]; rfl))))
                · try simp only [fdn] at t2
                  replace hr := itn hr (ne_of_beq_false t2)
                  conv => whnf
                  refine Ask.i (fun t3 => ?_) (fun t3 => ?_)
                  · try simp only [fdn] at t3
                    replace hr := itp hr (of_decide_eq_true t3)
                    conv => whnf
                    exact fin hk (congrArg (fun z : Int => SV.u (.c (U64 z))) ((Option.some.inj hr).symm.trans (by first | rfl | (simp only [fdn]; rfl))))
                  · try simp only [fdn] at t3
                    replace hr := itn hr (of_decide_eq_false t3)
                    conv => whnf
                    refine ⟨by decide, ?_⟩
                    conv => whnf
                    exact fin hk (congrArg (fun z : Int => SV.u (.c (U64 z))) ((Option.some.inj hr).symm.trans (by first | rfl | (simp only [fdn]; rfl))))
    · try simp only [fdn] at b0
      replace hr := itn hr (ne_true_of_eq_false b0)
      conv => whnf
      rw [hygref6_round.j0] at hr
      refine Ask.i (fun m0 => ?_) (fun m0 => ?_)
      · try simp only [fdn] at m0
        replace hr := itp hr (eq_of_beq m0)
        conv => whnf
        exact fin hk (congrArg (fun z : Int => SV.u (.c (U64 z))) ((Option.some.inj hr).symm.trans (by first | rfl | (simp only [fdn]; rfl))))
      · try simp only [fdn] at m0
        replace hr := itn hr (ne_of_beq_false m0)
        conv => whnf
        refine ⟨[], _, _, rfl, Nat × Int, (fun y => ([(1, .u (.c (U64 m))), (2, .u (.c (I64 e))), (7, .u (.c (U64 0))), (8, .u (.c (I64 y.2)))], [])),
          (fun y => hygref6_round.l0 y.1 m e 0 y.2 = some v), (fun y => y.1), fun x _ => rfl, ⟨(195, 0), hr, ⟨rfl, rfl, rfl, rfl, trivial⟩, trivial⟩, ?_⟩
        rintro ⟨k, i⟩ hr
        replace hr : hygref6_round.l0 k m e 0 i = some v := hr
        cases k with
        | zero => cases hr
        | succ k =>
          rw [hygref6_round.l0] at hr
          simp only [rw64, bits_and, bits_or] at hr
          replace hr := itp hr (x64_r _).1
          conv => whnf
          refine ⟨(x64_r _).1, ?_⟩
          conv => whnf
          refine Ask.i (fun b1 => ?_) (fun b1 => ?_)
          · try simp only [fdn] at b1
            replace hr := itp hr (of_decide_eq_true b1)
            conv => whnf
            exact ⟨(k, w64 (i + 1)), hr, Nat.lt_succ_self k, ⟨rfl, rfl, rfl, rfl, trivial⟩, trivial⟩
          · try simp only [fdn] at b1
            replace hr := itn hr (of_decide_eq_false b1)
            conv => whnf
            refine Ask.i (fun c1 => ?_) (fun c1 => ?_)
            · try simp only [fdn] at c1
              replace hr := itp hr (of_decide_eq_true c1)
              conv => whnf
              refine Ask.i (fun c2 => ?_) (fun c2 => ?_)
              · try simp only [fdn] at c2
                replace hr := itp hr (of_decide_eq_true c2)
                conv => whnf
                exact fin hk (congrArg (fun z : Int => SV.u (.c (U64 z))) ((Option.some.inj hr).symm.trans (by first | rfl | (simp only [fdn]; rfl))))
              · try simp only [fdn] at c2
                replace hr := itn hr (of_decide_eq_false c2)
                conv => whnf
                refine Ask.i (fun c3 => ?_) (fun c3 => ?_)
                · try simp only [fdn] at c3
                  replace hr := itp hr (of_decide_eq_true c3)
                  conv => whnf
                  refine ⟨(x64_r _).1, ?_⟩
                  conv => whnf
                  refine ⟨(x64_r _).1, ?_⟩
                  conv => whnf
                  replace hr := itp (itp hr (x64_r _).1) (x64_r _).1
                  refine ⟨(x64_r _).1, ?_⟩
                  conv => whnf
                  refine Ask.i (fun g1 => ?_) (fun g1 => ?_)
                  · try simp only [fdn] at g1
                    replace hr := itp hr (of_decide_eq_true g1)
                    conv => whnf
                    obtain ⟨k, rfl⟩ := j2_pos hr
                    rw [hygref6_round.j2] at hr
                    simp only [rw64, bits_and, bits_or] at hr
                    refine ⟨by decide, ?_⟩
                    conv => whnf
                    refine Ask.i (fun t1 => ?_) (fun t1 => ?_)
                    · try simp only [fdn] at t1
                      replace hr := itp hr (eq_of_beq t1)
                      conv => whnf
                      refine ⟨by decide, ?_⟩
                      conv => whnf
                      obtain ⟨k, rfl⟩ := j3_pos hr
                      rw [hygref6_round.j3] at hr
                      simp only [rw64, bits_and, bits_or] at hr
                      refine ⟨by decide, ?_⟩
                      conv => whnf
                      refine Ask.i (fun t2 => ?_) (fun t2 => ?_)
                      · try simp only [fdn] at t2
                        replace hr := itp hr (eq_of_beq t2)
                        conv => whnf
                        exact fin hk (congrArg (fun z : Int => SV.u (.c (U64 z))) ((Option.some.inj hr).symm.trans (by first | rfl | (simp only [fdn]; rfl))))
                      · try simp only [fdn] at t2
                        replace hr := itn hr (ne_of_beq_false t2)
                        conv => whnf
                        refine Ask.i (fun t3 => ?_) (fun t3 => ?_)
                        · try simp only [fdn] at t3
                          replace hr := itp hr (of_decide_eq_true t3)
                          conv => whnf
                          exact fin hk (congrArg (fun z : Int => SV.u (.c (U64 z))) ((Option.some.inj hr).symm.trans (by first | rfl | (simp only [fdn]; rfl))))
                        · try simp only [fdn] at t3
                          replace hr := itn hr (of_decide_eq_false t3)
                          conv => whnf
                          refine ⟨by decide, ?_⟩
                          conv => whnf
                          exact fin hk (congrArg (fun z : Int => SV.u (.c (U64 z))) ((Option.some.inj hr).symm.trans (by first | rfl | (simp only [fdn]; rfl))))
                    · try simp only [fdn] at t1
                      replace hr := itn hr (ne_of_beq_false t1)
                      conv => whnf
                      obtain ⟨k, rfl⟩ := j3_pos hr
                      rw [hygref6_round.j3] at hr
                      simp only [rw64, bits_and, bits_or] at hr
                      refine ⟨by decide, ?_⟩
                      conv => whnf
                      refine Ask.i (fun t2 => ?_) (fun t2 => ?_)
                      · try simp only [fdn] at t2
                        replace hr := itp hr (eq_of_beq t2)
                        conv => whnf
                        exact fin hk (congrArg (fun z : Int => SV.u (.c (U64 z))) ((Option.some.inj hr).symm.trans (by first | rfl | (simp only [fdn]; rfl))))
                      · try simp only [fdn] at t2
                        replace hr := itn hr (ne_of_beq_false t2)
                        conv => whnf
                        refine Ask.i (fun t3 => ?_) (fun t3 => ?_)
                        · try simp only [fdn] at t3
                          replace hr := itp hr (of_decide_eq_true t3)
                          conv => whnf
                          exact fin hk (congrArg (fun z : Int => SV.u (.c (U64 z))) ((Option.some.inj hr).symm.trans (by first | rfl | (simp only [fdn]; rfl))))
                        · try simp only [fdn] at t3
                          replace hr := itn hr (of_decide_eq_false t3)
                          conv => whnf
                          refine ⟨by decide, ?_⟩
                          conv => whnf
                          exact fin hk (congrArg (fun z : Int => SV.u (.c (U64 z))) ((Option.some.inj hr).symm.trans (by first | rfl | (simp only [fdn]; rfl))))
                  · try simp only [fdn] at g1
                    replace hr := itn hr (of_decide_eq_false g1)
                    conv => whnf
                    refine Ask.i (fun g2 => ?_) (fun g2 => ?_)
                    · try simp only [fdn] at g2
                      replace hr := itp hr (eq_of_beq g2)
                      conv => whnf
                      refine Ask.i (fun g3 => ?_) (fun g3 => ?_)
                      · try simp only [fdn] at g3
                        replace hr := itp hr (eq_of_beq g3)
                        conv => whnf
                        obtain ⟨k, rfl⟩ := j2_pos hr
                        rw [hygref6_round.j2] at hr
                        simp only [rw64, bits_and, bits_or] at hr
                        refine ⟨by decide, ?_⟩
                        conv => whnf
                        refine Ask.i (fun t1 => ?_) (fun t1 => ?_)
                        · try simp only [fdn] at t1
                          replace hr := itp hr (eq_of_beq t1)
                          conv => whnf
                          refine ⟨by decide, ?_⟩
                          conv => whnf
                          obtain ⟨k, rfl⟩ := j3_pos hr
                          rw [hygref6_round.j3] at hr
                          simp only [rw64, bits_and, bits_or] at hr
                          refine ⟨by decide, ?_⟩
                          conv => whnf
                          refine Ask.i (fun t2 => ?_) (fun t2 => ?_)
                          · try simp only [fdn] at t2
                            replace hr := itp hr (eq_of_beq t2)
                            conv => whnf
                            exact fin hk (congrArg (fun z : Int => SV.u (.c (U64 z))) ((Option.some.inj hr).symm.trans (by first | rfl | (simp only [fdn]; rfl))))
                          · try simp only [fdn] at t2
                            replace hr := itn hr (ne_of_beq_false t2)
                            conv => whnf
                            refine Ask.i (fun t3 => ?_) (fun t3 => ?_)
                            · try simp only [fdn] at t3
                              replace hr := itp hr (of_decide_eq_true t3)
                              conv => whnf
                              exact fin hk (congrArg (fun z : Int => SV.u (.c (U64 z))) ((Option.some.inj hr).symm.trans (by first | rfl | (simp only [fdn]; rfl))))
                            · try simp only [fdn] at t3
                              replace hr := itn hr (of_decide_eq_false t3)
                              conv => whnf
                              refine ⟨by decide, ?_⟩
                              conv => whnf
                              exact fin hk (congrArg (fun z : Int => SV.u (.c (U64 z))) ((Option.some.inj hr).symm.trans (by first | rfl | (simp only [fdn]; rfl))))
                        · try simp only [fdn] at t1
                          replace hr := itn hr (ne_of_beq_false t1)
                          conv => whnf
                          obtain ⟨k, rfl⟩ := j3_pos hr
                          rw [hygref6_round.j3] at hr
                          simp only [rw64, bits_and, bits_or] at hr
                          refine ⟨by decide, ?_⟩
                          conv => whnf
                          refine Ask.i (fun t2 => ?_) (fun t2 => ?_)
                          · try simp only [fdn] at t2
                            replace hr := itp hr (eq_of_beq t2)
                            conv => whnf
                            exact fin hk (congrArg (fun z : Int => SV.u (.c (U64 z))) ((Option.some.inj hr).symm.trans (by first | rfl | (simp only [fdn]; rfl))))
                          · try simp only [fdn] at t2
                            replace hr := itn hr (ne_of_beq_false t2)
                            conv => whnf
                            refine Ask.i (fun t3 => ?_) (fun t3 => ?_)
                            · try simp only [fdn] at t3
                              replace hr := itp hr (of_decide_eq_true t3)
                              conv => whnf
                              exact fin hk (congrArg (fun z : Int => SV.u (.c (U64 z))) ((Option.some.inj hr).symm.trans (by first | rfl | (simp only [fdn]; rfl))))
                            · try simp only [fdn] at t3
                              replace hr := itn hr (of_decide_eq_false t3)
                              conv => whnf
                              refine ⟨by decide, ?_⟩
                              conv => whnf
                              exact fin hk (congrArg (fun z : Int => SV.u (.c (U64 z))) ((Option.some.inj hr).symm.trans (by first | rfl | (simp only [fdn]; rfl))))
                      · try simp only [fdn] at g3
                        replace hr := itn hr (ne_of_beq_false g3)
                        conv => whnf
                        obtain ⟨k, rfl⟩ := j2_pos hr
                        rw [hygref6_round.j2] at hr
                        simp only [rw64, bits_and, bits_or] at hr
                        refine ⟨by decide, ?_⟩
                        conv => whnf
                        refine Ask.i (fun t1 => ?_) (fun t1 => ?_)
                        · try simp only [fdn] at t1
                          replace hr := itp hr (eq_of_beq t1)
                          conv => whnf
                          refine ⟨by decide, ?_⟩
                          conv => whnf
                          obtain ⟨k, rfl⟩ := j3_pos hr
                          rw [hygref6_round.j3] at hr
                          simp only [rw64, bits_and, bits_or] at hr
                          refine ⟨by decide, ?_⟩
                          conv => whnf
                          refine Ask.i (fun t2 => ?_) (fun t2 => ?_)
                          · try simp only [fdn] at t2
                            replace hr := itp hr (eq_of_beq t2)
                            conv => whnf
                            exact fin hk (congrArg (fun z : Int => SV.u (.c (U64 z))) ((Option.some.inj hr).symm.trans (by first | rfl | (simp only [fdn]; rfl))))
                          · try simp only [fdn] at t2
                            replace hr := itn hr (ne_of_beq_false t2)
                            conv => whnf
                            refine Ask.i (fun t3 => ?_) (fun t3 => ?_)
                            · try simp only [fdn] at t3
                              replace hr := itp hr (of_decide_eq_true t3)
                              conv => whnf
                              exact fin hk (congrArg (fun z : Int => SV.u (.c (U64 z))) ((Option.some.inj hr).symm.trans (by first | rfl | (simp only [fdn]; rfl))))
                            · try simp only [fdn] at t3
                              replace hr := itn hr (of_decide_eq_false t3)
                              conv => whnf
                              refine ⟨by decide, ?_⟩
                              conv => whnf
                              exact fin hk (congrArg (fun z : Int => SV.u (.c (U64 z))) ((Option.some.inj hr).symm.trans (by first | rfl | (simp only [fdn]; rfl))))
                        · try simp only [fdn] at t1
                          replace hr := itn hr (ne_of_beq_false t1)
                          conv => whnf
                          obtain ⟨k, rfl⟩ := j3_pos hr
                          rw [hygref6_round.j3] at hr
                          simp only [rw64, bits_and, bits_or] at hr
                          refine ⟨by decide, ?_⟩
                          conv => whnf
                          refine Ask.i (fun t2 => ?_) (fun t2 => ?_)
                          · try simp only [fdn] at t2
                            replace hr := itp hr (eq_of_beq t2)
                            conv => whnf
                            exact fin hk (congrArg (fun z : Int => SV.u (.c (U64 z))) ((Option.some.inj hr).symm.trans (by first | rfl | (simp only [fdn]; rfl))))
                          · try simp only [fdn] at t2
                            replace hr := itn hr (ne_of_beq_false t2)
                            conv => whnf
                            refine Ask.i (fun t3 => ?_) (fun t3 => ?_)
                            · try simp only [fdn] at t3
                              replace hr := itp hr (of_decide_eq_true t3)
                              conv => whnf
                              exact fin hk (congrArg (fun z : Int => SV.u (.c (U64 z))) ((Option.some.inj hr).symm.trans (by first | rfl | (simp only [fdn]; rfl))))
                            · try simp only [fdn] at t3
                              replace hr := itn hr (of_decide_eq_false t3)
                              conv => whnf
                              refine ⟨by decide, ?_⟩
                              conv => whnf
                              exact fin hk (congrArg (fun z : Int => SV.u (.c (U64 z))) ((Option.some.inj hr).symm.trans (by first | rfl | (simp only [fdn]; rfl))))
                    · try simp only [fdn] at g2
                      replace hr := itn hr (ne_of_beq_false g2)
                      conv => whnf
                      obtain ⟨k, rfl⟩ := j2_pos hr
                      rw [hygref6_round.j2] at hr
                      simp only [rw64, bits_and, bits_or] at hr
                      refine ⟨by decide, ?_⟩
                      conv => whnf
                      refine Ask.i (fun t1 => ?_) (fun t1 => ?_)
                      · try simp only [fdn] at t1
                        replace hr := itp hr (eq_of_beq t1)
                        conv => whnf
                        refine ⟨by decide, ?_⟩
                        conv => whnf
                        obtain ⟨k, rfl⟩ := j3_pos hr
                        rw [hygref6_round.j3] at hr
                        simp only [rw64, bits_and, bits_or] at hr
                        refine ⟨by decide, ?_⟩
                        conv => whnf
                        refine Ask.i (fun t2 => ?_) (fun t2 => ?_)
                        · try simp only [fdn] at t2
                          replace hr := itp hr (eq_of_beq t2)
                          conv => whnf
                          exact fin hk (congrArg (fun z : Int => SV.u (.c (U64 z))) ((Option.some.inj hr).symm.trans (by first | rfl | (simp only [fdn]; rfl))))
                        · try simp only [fdn] at t2
                          replace hr := itn hr (ne_of_beq_false t2)
                          conv => whnf
                          refine Ask.i (fun t3 => ?_) (fun t3 => ?_)
                          · try simp only [fdn] at t3
                            replace hr := itp hr (of_decide_eq_true t3)
                            conv => whnf
                            exact fin hk (congrArg (fun z : Int => SV.u (.c (U64 z))) ((Option.some.inj hr).symm.trans (by first | rfl | (simp only [fdn]; rfl))))
                          · try simp only [fdn] at t3
                            replace hr := itn hr (of_decide_eq_false t3)
                            conv => whnf
                            refine ⟨by decide, ?_⟩
                            conv => whnf
                            exact fin hk (congrArg (fun z : Int => SV.u (.c (U64 z))) ((Option.some.inj hr).symm.trans (by first | rfl | (simp only [fdn]; rfl))))
                      · try simp only [fdn] at t1
                        replace hr := itn hr (ne_of_beq_false t1)
                        conv => whnf
                        obtain ⟨k, rfl⟩ := j3_pos hr
                        rw [hygref6_round.j3] at hr
                        simp only [rw64, bits_and, bits_or] at hr
                        refine ⟨by decide, ?_⟩
                        conv => whnf
                        refine Ask.i (fun t2 => ?_) (fun t2 => ?_)
                        · try simp only [fdn] at t2
                          replace hr := itp hr (eq_of_beq t2)
                          conv => whnf
                          exact fin hk (congrArg (fun z : Int => SV.u (.c (U64 z))) ((Option.some.inj hr).symm.trans (by first | rfl | (simp only [fdn]; rfl))))
                        · try simp only [fdn] at t2
                          replace hr := itn hr (ne_of_beq_false t2)
                          conv => whnf
                          refine Ask.i (fun t3 => ?_) (fun t3 => ?_)
                          · try simp only [fdn] at t3
                            replace hr := itp hr (of_decide_eq_true t3)
                            conv => whnf
                            exact fin hk (congrArg (fun z : Int => SV.u (.c (U64 z))) ((Option.some.inj hr).symm.trans (by first | rfl | (simp only [fdn]; rfl))))
                          · try simp only [fdn] at t3
                            replace hr := itn hr (of_decide_eq_false t3)
                            conv => whnf
                            refine ⟨by decide, ?_⟩
                            conv => whnf
                            exact fin hk (congrArg (fun z : Int => SV.u (.c (U64 z))) ((Option.some.inj hr).symm.trans (by first | rfl | (simp only [fdn]; rfl))))
                · try simp only [fdn] at c3
                  replace hr := itn hr (of_decide_eq_false c3)
                  conv => whnf
                  replace hr := itp hr (x64_r _).1
                  refine ⟨(x64_r _).1, ?_⟩
                  conv => whnf
                  refine Ask.i (fun g1 => ?_) (fun g1 => ?_)
                  · try simp only [fdn] at g1
                    replace hr := itp hr (of_decide_eq_true g1)
                    conv => whnf
                    obtain ⟨k, rfl⟩ := j2_pos hr
                    rw [hygref6_round.j2] at hr
                    replace hr := itn hr (by decide)
                    refine ⟨by decide, ?_⟩
                    conv => whnf
                    obtain ⟨k, rfl⟩ := j3_pos hr
                    rw [hygref6_round.j3] at hr
                    replace hr := itp hr (by decide)
                    refine ⟨by decide, ?_⟩
                    conv => whnf
                    exact fin hk (congrArg (fun z : Int => SV.u (.c (U64 z))) ((Option.some.inj hr).symm.trans (by first | rfl | (simp only [fdn]; rfl))))
                  · try simp only [fdn] at g1
                    replace hr := itn hr (of_decide_eq_false g1)
                    conv => whnf
                    refine Ask.i (fun g2 => ?_) (fun g2 => ?_)
                    · try simp only [fdn] at g2
                      replace hr := itp hr (eq_of_beq g2)
                      conv => whnf
                      replace hr := itn hr (by decide)
                      obtain ⟨k, rfl⟩ := j2_pos hr
                      rw [hygref6_round.j2] at hr
                      replace hr := itn hr (by decide)
                      refine ⟨by decide, ?_⟩
                      conv => whnf
                      obtain ⟨k, rfl⟩ := j3_pos hr
                      rw [hygref6_round.j3] at hr
                      replace hr := itp hr (by decide)
                      refine ⟨by decide, ?_⟩
                      conv => whnf
                      exact fin hk (congrArg (fun z : Int => SV.u (.c (U64 z))) ((Option.some.inj hr).symm.trans (by first | rfl | (simp only [fdn]; rfl))))
                    · try simp only [fdn] at g2
                      replace hr := itn hr (ne_of_beq_false g2)
                      conv => whnf
                      obtain ⟨k, rfl⟩ := j2_pos hr
                      rw [hygref6_round.j2] at hr
                      replace hr := itn hr (by decide)
                      refine ⟨by decide, ?_⟩
                      conv => whnf
                      obtain ⟨k, rfl⟩ := j3_pos hr
                      rw [hygref6_round.j3] at hr
                      replace hr := itp hr (by decide)
                      refine ⟨by decide, ?_⟩
                      conv => whnf
                      exact fin hk (congrArg (fun z : Int => SV.u (.c (U64 z))) ((Option.some.inj hr).symm.trans (by first | rfl | (simp only [fdn]; rfl))))
            · try simp only [fdn] at c1
              replace hr := itn hr (of_decide_eq_false c1)
              conv => whnf
              replace hr := itp hr (x64_r _).1
              simp only [neg0] at hr
              refine ⟨(x64_r _).1, ?_⟩
              conv => whnf
              obtain ⟨k, rfl⟩ := j2_pos hr
              rw [hygref6_round.j2] at hr
              simp only [rw64, bits_and, bits_or] at hr
              refine ⟨by decide, ?_⟩
              conv => whnf
              refine Ask.i (fun t1 => ?_) (fun t1 => ?_)
              · try simp only [fdn] at t1
                replace hr := itp hr (eq_of_beq t1)
                conv => whnf
                refine ⟨by decide, ?_⟩
                conv => whnf
                obtain ⟨k, rfl⟩ := j3_pos hr
                rw [hygref6_round.j3] at hr
                simp only [rw64, bits_and, bits_or] at hr
                refine ⟨by decide, ?_⟩
                conv => whnf
                refine Ask.i (fun t2 => ?_) (fun t2 => ?_)
                · try simp only [fdn] at t2
                  replace hr := itp hr (eq_of_beq t2)
                  conv => whnf
                  exact fin hk (congrArg (fun z : Int => SV.u (.c (U64 z))) ((Option.some.inj hr).symm.trans (by first | rfl | (simp only [fdn]; rfl))))
                · try simp only [fdn] at t2
                  replace hr := itn hr (ne_of_beq_false t2)
                  conv => whnf
                  refine Ask.i (fun t3 => ?_) (fun t3 => ?_)
                  · try simp only [fdn] at t3
                    replace hr := itp hr (of_decide_eq_true t3)
                    conv => whnf
                    exact fin hk (congrArg (fun z : Int => SV.u (.c (U64 z))) ((Option.some.inj hr).symm.trans (by first | rfl | (simp only [fdn]; rfl))))
                  · try simp only [fdn] at t3
                    replace hr := itn hr (of_decide_eq_false t3)
                    conv => whnf
                    refine ⟨by decide, ?_⟩
                    conv => whnf
                    exact fin hk (congrArg (fun z : Int => SV.u (.c (U64 z))) ((Option.some.inj hr).symm.trans (by first | rfl | (simp only [fdn]; rfl))))
              · try simp only [fdn] at t1
                replace hr := itn hr (ne_of_beq_false t1)
                conv => whnf
                obtain ⟨k, rfl⟩ := j3_pos hr
                rw [hygref6_round.j3] at hr
                simp only [rw64, bits_and, bits_or] at hr
                refine ⟨by decide, ?_⟩
                conv => whnf
                refine Ask.i (fun t2 => ?_) (fun t2 => ?_)
                · try simp only [fdn] at t2
                  replace hr := itp hr (eq_of_beq t2)
                  conv => whnf
                  exact fin hk (congrArg (fun z : Int => SV.u (.c (U64 z))) ((Option.some.inj hr).symm.trans (by first | rfl | (simp only [fdn]; rfl))))
                · try simp only [fdn] at t2
                  replace hr := itn hr (ne_of_beq_false t2)
                  conv => whnf
                  refine Ask.i (fun t3 => ?_) (fun t3 => ?_)
                  · try simp only [fdn] at t3
                    replace hr := itp hr (of_decide_eq_true t3)
                    conv => whnf
                    exact fin hk (congrArg (fun z : Int => SV.u (.c (U64 z))) ((Option.some.inj hr).symm.trans (by first | rfl | (simp only [fdn]; rfl))))
                  · try simp only [fdn] at t3
                    replace hr := itn hr (of_decide_eq_false t3)
                    conv => whnf
                    refine ⟨by decide, ?_⟩
                    conv => whnf
                    exact fin hk (congrArg (fun z : Int => SV.u (.c (U64 z))) ((Option.some.inj hr).symm.trans (by first | rfl | (simp only [fdn]; rfl))))
  · exact hk.elim
end Sx
