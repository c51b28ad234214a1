-- Made by a program of this session, after the guide's print, out of the translation. Lean checks it.
import Derived.Test.YtmljncgglpckcaaPFaddSumsx0
namespace Go.Proofs.Ytmljncgglpckcaa.PFaddSums
open Go.RowKit Go.Proofs.YtmljncgglpckcaaW.PrintWords Go.Proofs.YtmljncgglpckcaaW.PrintLast Go.Proofs.YtmljncgglpckcaaW.PrintMore
attribute [local go_sem] max2_int min2_int max_two min_two max_three min_three max_four min_four   -- for this text's walks alone
set_option linter.unusedVariables false
set_option linter.unusedSimpArgs false

/-! ### hygref6_round: function 46 -/
mutual
def hygref6_round.j0 : Nat → Int → Int → Int → Option (Int)
  | 0, _, _, _ => none
  | k + 1, x1, x2, x7 => if x1 = 0 then (some x7) else (hygref6_round.l0 k x1 x2 x7 0)
def hygref6_round.l0 : Nat → Int → Int → Int → Int → Option (Int)
  | 0, _, _, _, _ => none
  | k + 1, x1, x2, x7, x8 => if 0 ≤ (IntKind.u64.wrap (x8)) then (if (shr .u64 x1 (IntKind.u64.wrap (x8))) > 1 then (hygref6_round.l0 k x1 x2 x7 (wrap64 (x8 + 1))) else (if (wrap64 ((mx (wrap64 ((wrap64 (x2 + x8)) - 52)) (-1074)) - x2)) > 0 then (if (wrap64 ((mx (wrap64 ((wrap64 (x2 + x8)) - 52)) (-1074)) - x2)) > 64 then (some x7) else (if (wrap64 ((mx (wrap64 ((wrap64 (x2 + x8)) - 52)) (-1074)) - x2)) < 64 then (if 0 ≤ (IntKind.u64.wrap (wrap64 ((mx (wrap64 ((wrap64 (x2 + x8)) - 52)) (-1074)) - x2))) then (if 0 ≤ (IntKind.u64.wrap (wrap64 ((wrap64 ((mx (wrap64 ((wrap64 (x2 + x8)) - 52)) (-1074)) - x2)) - 1))) then (if (Go.bits .and .u64 x1 (IntKind.u64.wrap ((shl .u64 1 (IntKind.u64.wrap (wrap64 ((mx (wrap64 ((wrap64 (x2 + x8)) - 52)) (-1074)) - x2)))) - 1))) > (shl .u64 1 (IntKind.u64.wrap (wrap64 ((wrap64 ((mx (wrap64 ((wrap64 (x2 + x8)) - 52)) (-1074)) - x2)) - 1)))) then (hygref6_round.j2 k x7 (mx (wrap64 ((wrap64 (x2 + x8)) - 52)) (-1074)) (IntKind.u64.wrap ((shr .u64 x1 (IntKind.u64.wrap (wrap64 ((mx (wrap64 ((wrap64 (x2 + x8)) - 52)) (-1074)) - x2)))) + 1))) else (if (Go.bits .and .u64 x1 (IntKind.u64.wrap ((shl .u64 1 (IntKind.u64.wrap (wrap64 ((mx (wrap64 ((wrap64 (x2 + x8)) - 52)) (-1074)) - x2)))) - 1))) = (shl .u64 1 (IntKind.u64.wrap (wrap64 ((wrap64 ((mx (wrap64 ((wrap64 (x2 + x8)) - 52)) (-1074)) - x2)) - 1)))) then (if (Go.bits .and .u64 (shr .u64 x1 (IntKind.u64.wrap (wrap64 ((mx (wrap64 ((wrap64 (x2 + x8)) - 52)) (-1074)) - x2)))) 1) = 1 then (hygref6_round.j2 k x7 (mx (wrap64 ((wrap64 (x2 + x8)) - 52)) (-1074)) (IntKind.u64.wrap ((shr .u64 x1 (IntKind.u64.wrap (wrap64 ((mx (wrap64 ((wrap64 (x2 + x8)) - 52)) (-1074)) - x2)))) + 1))) else (hygref6_round.j2 k x7 (mx (wrap64 ((wrap64 (x2 + x8)) - 52)) (-1074)) (shr .u64 x1 (IntKind.u64.wrap (wrap64 ((mx (wrap64 ((wrap64 (x2 + x8)) - 52)) (-1074)) - x2)))))) else (hygref6_round.j2 k x7 (mx (wrap64 ((wrap64 (x2 + x8)) - 52)) (-1074)) (shr .u64 x1 (IntKind.u64.wrap (wrap64 ((mx (wrap64 ((wrap64 (x2 + x8)) - 52)) (-1074)) - x2))))))) else (none)) else (none)) else (if 0 ≤ (IntKind.u64.wrap (wrap64 ((wrap64 ((mx (wrap64 ((wrap64 (x2 + x8)) - 52)) (-1074)) - x2)) - 1))) then (if x1 > (shl .u64 1 (IntKind.u64.wrap (wrap64 ((wrap64 ((mx (wrap64 ((wrap64 (x2 + x8)) - 52)) (-1074)) - x2)) - 1)))) then (hygref6_round.j2 k x7 (mx (wrap64 ((wrap64 (x2 + x8)) - 52)) (-1074)) (0 + 1)) else (if x1 = (shl .u64 1 (IntKind.u64.wrap (wrap64 ((wrap64 ((mx (wrap64 ((wrap64 (x2 + x8)) - 52)) (-1074)) - x2)) - 1)))) then (if (Go.bits .and .u64 0 1) = 1 then (hygref6_round.j2 k x7 (mx (wrap64 ((wrap64 (x2 + x8)) - 52)) (-1074)) (0 + 1)) else (hygref6_round.j2 k x7 (mx (wrap64 ((wrap64 (x2 + x8)) - 52)) (-1074)) 0)) else (hygref6_round.j2 k x7 (mx (wrap64 ((wrap64 (x2 + x8)) - 52)) (-1074)) 0))) else (none)))) else (if 0 ≤ (IntKind.u64.wrap (wrap64 (-(wrap64 ((mx (wrap64 ((wrap64 (x2 + x8)) - 52)) (-1074)) - x2))))) then (hygref6_round.j2 k x7 (mx (wrap64 ((wrap64 (x2 + x8)) - 52)) (-1074)) (shl .u64 x1 (IntKind.u64.wrap (wrap64 (-(wrap64 ((mx (wrap64 ((wrap64 (x2 + x8)) - 52)) (-1074)) - x2))))))) else (none)))) else (none)
def hygref6_round.j2 : Nat → Int → Int → Int → Option (Int)
  | 0, _, _, _ => none
  | k + 1, x7, x9, x11 => if (x11 / 9007199254740992) = 1 then (hygref6_round.j3 k x7 (wrap64 (x9 + 1)) (x11 / 2)) else (hygref6_round.j3 k x7 x9 x11)
def hygref6_round.j3 : Nat → Int → Int → Int → Option (Int)
  | 0, _, _, _ => none
  | k + 1, x7, x9, x11 => if (x11 / 4503599627370496) = 0 then (some (Go.bits .or .u64 x7 x11)) else (if (wrap64 (x9 + 1075)) ≥ 2047 then (some (Go.bits .or .u64 x7 9218868437227405312)) else (some (Go.bits .or .u64 (Go.bits .or .u64 x7 (IntKind.u64.wrap ((IntKind.u64.wrap (wrap64 (x9 + 1075))) * 4503599627370496))) (Go.bits .and .u64 x11 4503599627370495))))
end
def hygref6_round.f (k : Nat) (a0 : Bool) (a1 : Int) (a2 : Int) : Option (Int) := if a0 = true then (hygref6_round.j0 k a1 a2 9223372036854775808) else (hygref6_round.j0 k a1 a2 0)
theorem hygref6_round.mono_l : ∀ k, (∀ y0 y1 y2, LeO (hygref6_round.j0 k y0 y1 y2) (hygref6_round.j0 (k + 1) y0 y1 y2)) ∧ (∀ y0 y1 y2 y3, LeO (hygref6_round.l0 k y0 y1 y2 y3) (hygref6_round.l0 (k + 1) y0 y1 y2 y3)) ∧ (∀ y0 y1 y2, LeO (hygref6_round.j2 k y0 y1 y2) (hygref6_round.j2 (k + 1) y0 y1 y2)) ∧ (∀ y0 y1 y2, LeO (hygref6_round.j3 k y0 y1 y2) (hygref6_round.j3 (k + 1) y0 y1 y2))
  | 0 => ⟨fun _ _ _ r h => by simp [hygref6_round.j0] at h, fun _ _ _ _ r h => by simp [hygref6_round.l0] at h, fun _ _ _ r h => by simp [hygref6_round.j2] at h, fun _ _ _ r h => by simp [hygref6_round.j3] at h⟩
  | k + 1 => by
    obtain ⟨ih0, ih1, ih2, ih3⟩ := hygref6_round.mono_l k
    refine ⟨?_, ?_, ?_, ?_⟩
    · intro y0 y1 y2
      unfold hygref6_round.j0
      repeat' first
      | (with_reducible exact ih0 _ _ _)
      | (with_reducible exact ih1 _ _ _ _)
      | (with_reducible exact ih2 _ _ _)
      | (with_reducible exact ih3 _ _ _)
      | (with_reducible exact LeO.refl _)
      | (with_reducible exact LeO.none _)
      | (with_reducible refine LeO.ite ?_ ?_)
      | (with_reducible refine LeO.bind ?_ (fun _ => ?_))
      | exact ih0 _ _ _
      | exact ih1 _ _ _ _
      | exact ih2 _ _ _
      | exact ih3 _ _ _
      | exact LeO.none _
      | refine LeO.ite ?_ ?_
      | refine LeO.bind ?_ (fun _ => ?_)
    · intro y0 y1 y2 y3
      unfold hygref6_round.l0
      repeat' first
      | (with_reducible exact ih0 _ _ _)
      | (with_reducible exact ih1 _ _ _ _)
      | (with_reducible exact ih2 _ _ _)
      | (with_reducible exact ih3 _ _ _)
      | (with_reducible exact LeO.refl _)
      | (with_reducible exact LeO.none _)
      | (with_reducible refine LeO.ite ?_ ?_)
      | (with_reducible refine LeO.bind ?_ (fun _ => ?_))
      | exact ih0 _ _ _
      | exact ih1 _ _ _ _
      | exact ih2 _ _ _
      | exact ih3 _ _ _
      | exact LeO.none _
      | refine LeO.ite ?_ ?_
      | refine LeO.bind ?_ (fun _ => ?_)
    · intro y0 y1 y2
      unfold hygref6_round.j2
      repeat' first
      | (with_reducible exact ih0 _ _ _)
      | (with_reducible exact ih1 _ _ _ _)
      | (with_reducible exact ih2 _ _ _)
      | (with_reducible exact ih3 _ _ _)
      | (with_reducible exact LeO.refl _)
      | (with_reducible exact LeO.none _)
      | (with_reducible refine LeO.ite ?_ ?_)
      | (with_reducible refine LeO.bind ?_ (fun _ => ?_))
      | exact ih0 _ _ _
      | exact ih1 _ _ _ _
      | exact ih2 _ _ _
      | exact ih3 _ _ _
      | exact LeO.none _
      | refine LeO.ite ?_ ?_
      | refine LeO.bind ?_ (fun _ => ?_)
    · intro y0 y1 y2
      unfold hygref6_round.j3
      repeat' first
      | (with_reducible exact ih0 _ _ _)
      | (with_reducible exact ih1 _ _ _ _)
      | (with_reducible exact ih2 _ _ _)
      | (with_reducible exact ih3 _ _ _)
      | (with_reducible exact LeO.refl _)
      | (with_reducible exact LeO.none _)
      | (with_reducible refine LeO.ite ?_ ?_)
      | (with_reducible refine LeO.bind ?_ (fun _ => ?_))
      | exact ih0 _ _ _
      | exact ih1 _ _ _ _
      | exact ih2 _ _ _
      | exact ih3 _ _ _
      | exact LeO.none _
      | refine LeO.ite ?_ ?_
      | refine LeO.bind ?_ (fun _ => ?_)
theorem hygref6_round.mono : ∀ a0 a1 a2 k, LeO (hygref6_round.f k a0 a1 a2) (hygref6_round.f (k + 1) a0 a1 a2) := by
  intro a0 a1 a2 k
  obtain ⟨ih0, ih1, ih2, ih3⟩ := hygref6_round.mono_l k
  unfold hygref6_round.f
  repeat' first
      | (with_reducible exact ih0 _ _ _)
      | (with_reducible exact ih1 _ _ _ _)
      | (with_reducible exact ih2 _ _ _)
      | (with_reducible exact ih3 _ _ _)
      | (with_reducible exact LeO.refl _)
      | (with_reducible exact LeO.none _)
      | (with_reducible refine LeO.ite ?_ ?_)
      | (with_reducible refine LeO.bind ?_ (fun _ => ?_))
      | exact ih0 _ _ _
      | exact ih1 _ _ _ _
      | exact ih2 _ _ _
      | exact ih3 _ _ _
      | exact LeO.none _
      | refine LeO.ite ?_ ?_
      | refine LeO.bind ?_ (fun _ => ?_)
set_option maxHeartbeats 8000000 in
set_option maxRecDepth 100000 in
theorem hygref6_round.calls (k : Nat) (a0 : Bool) (a1 : Int) (a2 : Int) (r : Int) (w : World) (h : hygref6_round.f k a0 a1 a2 = some r) :
    Calls Try.prog 46 #[.bool a0, .int .u64 a1, .int .i64 a2] w fun e w' => e = .returned (.int .u64 r) ∧ Below w.heap.size w w' := by
  have HB := Aside0.mk (Below.refl w.heap.size w)
  have H : (if a0 = true then (hygref6_round.j0 k a1 a2 9223372036854775808) else (hygref6_round.j0 k a1 a2 0)) = some r := h
  clear h
  have HC4 := Aside0.mk H
  clear H
  go_enter Try.func46, Try.ntmps46
  go_upto_if 15 with (fail)
  go_cut [7] (fun v7 wc => ∃ (kq : Nat) (x7_3 : Int), v7 = .int .u64 x7_3 ∧ Aside0 (hygref6_round.j0 kq a1 a2 x7_3 = some r) ∧ Aside0 (kq ≤ k) ∧ Aside0 (Below w.heap.size w wc))
  case first =>
    have H := HC4.out
    clear HC4
    by_cases c5 : a0 = true
    · subst c5
      have H1 : (hygref6_round.j0 k a1 a2 9223372036854775808) = some r := by rw [if_pos rfl] at H; exact H
      clear H
      have H := H1
      clear H1
      have H' := Aside0.mk H
      clear H
      go_wp2
      go_meet
      case rel => exact ⟨_, (9223372036854775808), (by first | rfl | (simp; done) | (simp [*]; done)), H', ⟨by first | omega | exact Nat.le_refl _⟩, ⟨by repeat (first | (with_reducible first | exact HB.out | apply below_alloc | apply pw_below_drewN | apply below_drew1) | exact HB.out)⟩⟩
    · replace c5 := Bool.eq_false_iff.mpr c5
      subst c5
      have H1 : (hygref6_round.j0 k a1 a2 0) = some r := by rw [if_neg (show ¬ (false = true) by decide)] at H; exact H
      clear H
      have H := H1
      clear H1
      have H' := Aside0.mk H
      clear H
      go_wp2
      go_meet
      case rel => exact ⟨_, (0), (by first | rfl | (simp; done) | (simp [*]; done)), H', ⟨by first | omega | exact Nat.le_refl _⟩, ⟨by repeat (first | (with_reducible first | exact HB.out | apply below_alloc | apply pw_below_drewN | apply below_drew1) | exact HB.out)⟩⟩
  case rest =>
    clear HC4
    try clear p2
    try clear c4
    try clear c5
    obtain ⟨kq, x7_3, rfl, HA, HJ3, HB⟩ := hcut
    cases kq with
    | zero => exact absurd HA.out (by simp [hygref6_round.j0])
    | succ kj3 =>
      have H := HA.out
      clear HA
      simp only [hygref6_round.j0] at H
      by_cases c6 : a1 = 0
      · rw [if_pos c6] at H
        have c6b0 : (a1 == 0) = true := beq_iff_eq.mpr c6
        have c6b1 : (a1 != 0) = false := bne_eq_false_iff_eq.mpr c6
        clear c6
        obtain rfl := Option.some.inj H
        go_wp2
        go_ret
        exact ⟨by first | rfl | (simp [errW_none, errW_some] <;> rfl) | (simp [*, errW_none, errW_some] <;> rfl), by repeat (first | (with_reducible first | exact HB.out | apply below_alloc | apply pw_below_drewN | apply below_drew1) | exact HB.out)⟩
      · rw [if_neg c6] at H
        have c6b0 : (a1 == 0) = false := beq_eq_false_iff_ne.mpr c6
        have c6b1 : (a1 != 0) = true := bne_iff_ne.mpr c6
        have H' := Aside0.mk H
        clear H
        go_wp2
        go_loopg [8] kj3 (fun kq v8 w' => ∃ (x8_2 : Int), v8 = .int .i64 x8_2 ∧ Aside0 (hygref6_round.l0 kq a1 a2 x7_3 x8_2 = some r) ∧ Aside0 (kq ≤ kj3) ∧ Aside0 (Below w.heap.size w w'))
        case atStart => exact ⟨(0), (by first | rfl | (simp; done) | (simp [*]; done)), H', ⟨Nat.le_refl _⟩, ⟨by repeat (first | (with_reducible first | exact HB.out | apply below_alloc | apply pw_below_drewN | apply below_drew1) | exact HB.out)⟩⟩
        case round =>
          clear H'
          try clear p2
          try clear c4
          try clear c5
          try clear c6
          try clear c6b0
          try clear c6b1
          try clear p2
          obtain ⟨x8_2, rfl, HA, HK2, HB⟩ := hrel
          cases gk with
          | zero => exact absurd HA.out (by simp [hygref6_round.l0])
          | succ k2 =>
            have H := HA.out
            clear HA
            simp only [hygref6_round.l0] at H
            obtain ⟨ji7, hji7⟩ : ∃ j_ : Int, (IntKind.u64.wrap (x8_2)) = j_ := ⟨_, rfl⟩
            replace H : (if 0 ≤ (ji7) then (if (shr .u64 a1 (ji7)) > 1 then (hygref6_round.l0 k2 a1 a2 x7_3 (wrap64 (x8_2 + 1))) else (if (wrap64 ((mx (wrap64 ((wrap64 (a2 + x8_2)) - 52)) (-1074)) - a2)) > 0 then (if (wrap64 ((mx (wrap64 ((wrap64 (a2 + x8_2)) - 52)) (-1074)) - a2)) > 64 then (some x7_3) else (if (wrap64 ((mx (wrap64 ((wrap64 (a2 + x8_2)) - 52)) (-1074)) - a2)) < 64 then (if 0 ≤ (IntKind.u64.wrap (wrap64 ((mx (wrap64 ((wrap64 (a2 + x8_2)) - 52)) (-1074)) - a2))) then (if 0 ≤ (IntKind.u64.wrap (wrap64 ((wrap64 ((mx (wrap64 ((wrap64 (a2 + x8_2)) - 52)) (-1074)) - a2)) - 1))) then (if (Go.bits .and .u64 a1 (IntKind.u64.wrap ((shl .u64 1 (IntKind.u64.wrap (wrap64 ((mx (wrap64 ((wrap64 (a2 + x8_2)) - 52)) (-1074)) - a2)))) - 1))) > (shl .u64 1 (IntKind.u64.wrap (wrap64 ((wrap64 ((mx (wrap64 ((wrap64 (a2 + x8_2)) - 52)) (-1074)) - a2)) - 1)))) then (hygref6_round.j2 k2 x7_3 (mx (wrap64 ((wrap64 (a2 + x8_2)) - 52)) (-1074)) (IntKind.u64.wrap ((shr .u64 a1 (IntKind.u64.wrap (wrap64 ((mx (wrap64 ((wrap64 (a2 + x8_2)) - 52)) (-1074)) - a2)))) + 1))) else (if (Go.bits .and .u64 a1 (IntKind.u64.wrap ((shl .u64 1 (IntKind.u64.wrap (wrap64 ((mx (wrap64 ((wrap64 (a2 + x8_2)) - 52)) (-1074)) - a2)))) - 1))) = (shl .u64 1 (IntKind.u64.wrap (wrap64 ((wrap64 ((mx (wrap64 ((wrap64 (a2 + x8_2)) - 52)) (-1074)) - a2)) - 1)))) then (if (Go.bits .and .u64 (shr .u64 a1 (IntKind.u64.wrap (wrap64 ((mx (wrap64 ((wrap64 (a2 + x8_2)) - 52)) (-1074)) - a2)))) 1) = 1 then (hygref6_round.j2 k2 x7_3 (mx (wrap64 ((wrap64 (a2 + x8_2)) - 52)) (-1074)) (IntKind.u64.wrap ((shr .u64 a1 (IntKind.u64.wrap (wrap64 ((mx (wrap64 ((wrap64 (a2 + x8_2)) - 52)) (-1074)) - a2)))) + 1))) else (hygref6_round.j2 k2 x7_3 (mx (wrap64 ((wrap64 (a2 + x8_2)) - 52)) (-1074)) (shr .u64 a1 (IntKind.u64.wrap (wrap64 ((mx (wrap64 ((wrap64 (a2 + x8_2)) - 52)) (-1074)) - a2)))))) else (hygref6_round.j2 k2 x7_3 (mx (wrap64 ((wrap64 (a2 + x8_2)) - 52)) (-1074)) (shr .u64 a1 (IntKind.u64.wrap (wrap64 ((mx (wrap64 ((wrap64 (a2 + x8_2)) - 52)) (-1074)) - a2))))))) else (none)) else (none)) else (if 0 ≤ (IntKind.u64.wrap (wrap64 ((wrap64 ((mx (wrap64 ((wrap64 (a2 + x8_2)) - 52)) (-1074)) - a2)) - 1))) then (if a1 > (shl .u64 1 (IntKind.u64.wrap (wrap64 ((wrap64 ((mx (wrap64 ((wrap64 (a2 + x8_2)) - 52)) (-1074)) - a2)) - 1)))) then (hygref6_round.j2 k2 x7_3 (mx (wrap64 ((wrap64 (a2 + x8_2)) - 52)) (-1074)) (0 + 1)) else (if a1 = (shl .u64 1 (IntKind.u64.wrap (wrap64 ((wrap64 ((mx (wrap64 ((wrap64 (a2 + x8_2)) - 52)) (-1074)) - a2)) - 1)))) then (if (Go.bits .and .u64 0 1) = 1 then (hygref6_round.j2 k2 x7_3 (mx (wrap64 ((wrap64 (a2 + x8_2)) - 52)) (-1074)) (0 + 1)) else (hygref6_round.j2 k2 x7_3 (mx (wrap64 ((wrap64 (a2 + x8_2)) - 52)) (-1074)) 0)) else (hygref6_round.j2 k2 x7_3 (mx (wrap64 ((wrap64 (a2 + x8_2)) - 52)) (-1074)) 0))) else (none)))) else (if 0 ≤ (IntKind.u64.wrap (wrap64 (-(wrap64 ((mx (wrap64 ((wrap64 (a2 + x8_2)) - 52)) (-1074)) - a2))))) then (hygref6_round.j2 k2 x7_3 (mx (wrap64 ((wrap64 (a2 + x8_2)) - 52)) (-1074)) (shl .u64 a1 (IntKind.u64.wrap (wrap64 (-(wrap64 ((mx (wrap64 ((wrap64 (a2 + x8_2)) - 52)) (-1074)) - a2))))))) else (none)))) else (none)) = some r := by first | (rw [hji7] at H; exact H) | (simp only [hji7] at H ⊢; exact H)
            by_cases c8 : 0 ≤ (ji7)
            · rw [if_pos c8] at H
              have c8b0 := eq_true c8
              have c8b1 : decide (0 ≤ (ji7)) = true := decide_eq_true c8
              clear c8
              obtain ⟨ji9, hji9⟩ : ∃ j_ : Int, (shr .u64 a1 (ji7)) = j_ := ⟨_, rfl⟩
              replace H : (if (ji9) > 1 then (hygref6_round.l0 k2 a1 a2 x7_3 (wrap64 (x8_2 + 1))) else (if (wrap64 ((mx (wrap64 ((wrap64 (a2 + x8_2)) - 52)) (-1074)) - a2)) > 0 then (if (wrap64 ((mx (wrap64 ((wrap64 (a2 + x8_2)) - 52)) (-1074)) - a2)) > 64 then (some x7_3) else (if (wrap64 ((mx (wrap64 ((wrap64 (a2 + x8_2)) - 52)) (-1074)) - a2)) < 64 then (if 0 ≤ (IntKind.u64.wrap (wrap64 ((mx (wrap64 ((wrap64 (a2 + x8_2)) - 52)) (-1074)) - a2))) then (if 0 ≤ (IntKind.u64.wrap (wrap64 ((wrap64 ((mx (wrap64 ((wrap64 (a2 + x8_2)) - 52)) (-1074)) - a2)) - 1))) then (if (Go.bits .and .u64 a1 (IntKind.u64.wrap ((shl .u64 1 (IntKind.u64.wrap (wrap64 ((mx (wrap64 ((wrap64 (a2 + x8_2)) - 52)) (-1074)) - a2)))) - 1))) > (shl .u64 1 (IntKind.u64.wrap (wrap64 ((wrap64 ((mx (wrap64 ((wrap64 (a2 + x8_2)) - 52)) (-1074)) - a2)) - 1)))) then (hygref6_round.j2 k2 x7_3 (mx (wrap64 ((wrap64 (a2 + x8_2)) - 52)) (-1074)) (IntKind.u64.wrap ((shr .u64 a1 (IntKind.u64.wrap (wrap64 ((mx (wrap64 ((wrap64 (a2 + x8_2)) - 52)) (-1074)) - a2)))) + 1))) else (if (Go.bits .and .u64 a1 (IntKind.u64.wrap ((shl .u64 1 (IntKind.u64.wrap (wrap64 ((mx (wrap64 ((wrap64 (a2 + x8_2)) - 52)) (-1074)) - a2)))) - 1))) = (shl .u64 1 (IntKind.u64.wrap (wrap64 ((wrap64 ((mx (wrap64 ((wrap64 (a2 + x8_2)) - 52)) (-1074)) - a2)) - 1)))) then (if (Go.bits .and .u64 (shr .u64 a1 (IntKind.u64.wrap (wrap64 ((mx (wrap64 ((wrap64 (a2 + x8_2)) - 52)) (-1074)) - a2)))) 1) = 1 then (hygref6_round.j2 k2 x7_3 (mx (wrap64 ((wrap64 (a2 + x8_2)) - 52)) (-1074)) (IntKind.u64.wrap ((shr .u64 a1 (IntKind.u64.wrap (wrap64 ((mx (wrap64 ((wrap64 (a2 + x8_2)) - 52)) (-1074)) - a2)))) + 1))) else (hygref6_round.j2 k2 x7_3 (mx (wrap64 ((wrap64 (a2 + x8_2)) - 52)) (-1074)) (shr .u64 a1 (IntKind.u64.wrap (wrap64 ((mx (wrap64 ((wrap64 (a2 + x8_2)) - 52)) (-1074)) - a2)))))) else (hygref6_round.j2 k2 x7_3 (mx (wrap64 ((wrap64 (a2 + x8_2)) - 52)) (-1074)) (shr .u64 a1 (IntKind.u64.wrap (wrap64 ((mx (wrap64 ((wrap64 (a2 + x8_2)) - 52)) (-1074)) - a2))))))) else (none)) else (none)) else (if 0 ≤ (IntKind.u64.wrap (wrap64 ((wrap64 ((mx (wrap64 ((wrap64 (a2 + x8_2)) - 52)) (-1074)) - a2)) - 1))) then (if a1 > (shl .u64 1 (IntKind.u64.wrap (wrap64 ((wrap64 ((mx (wrap64 ((wrap64 (a2 + x8_2)) - 52)) (-1074)) - a2)) - 1)))) then (hygref6_round.j2 k2 x7_3 (mx (wrap64 ((wrap64 (a2 + x8_2)) - 52)) (-1074)) (0 + 1)) else (if a1 = (shl .u64 1 (IntKind.u64.wrap (wrap64 ((wrap64 ((mx (wrap64 ((wrap64 (a2 + x8_2)) - 52)) (-1074)) - a2)) - 1)))) then (if (Go.bits .and .u64 0 1) = 1 then (hygref6_round.j2 k2 x7_3 (mx (wrap64 ((wrap64 (a2 + x8_2)) - 52)) (-1074)) (0 + 1)) else (hygref6_round.j2 k2 x7_3 (mx (wrap64 ((wrap64 (a2 + x8_2)) - 52)) (-1074)) 0)) else (hygref6_round.j2 k2 x7_3 (mx (wrap64 ((wrap64 (a2 + x8_2)) - 52)) (-1074)) 0))) else (none)))) else (if 0 ≤ (IntKind.u64.wrap (wrap64 (-(wrap64 ((mx (wrap64 ((wrap64 (a2 + x8_2)) - 52)) (-1074)) - a2))))) then (hygref6_round.j2 k2 x7_3 (mx (wrap64 ((wrap64 (a2 + x8_2)) - 52)) (-1074)) (shl .u64 a1 (IntKind.u64.wrap (wrap64 (-(wrap64 ((mx (wrap64 ((wrap64 (a2 + x8_2)) - 52)) (-1074)) - a2))))))) else (none)))) = some r := by first | (rw [hji9] at H; exact H) | (simp only [hji9] at H ⊢; exact H)
              have hji9_ : (a1 / 2 ^ min (ji7).toNat 64) = ji9 := hji9
              have hji9z : (ji7) ≤ 64 → (a1 / 2 ^ (ji7).toNat) = ji9 := shr_small hji9
              by_cases c10 : (ji9) > 1
              · rw [if_pos c10] at H
                have c10b0 : decide (1 < (ji9)) = true := decide_eq_true c10
                clear c10
                have H' := Aside0.mk H
                clear H
                go_wp2
                go_roundg k2
                case measure => have := HJ3.out; have := HK2.out; omega
                case rel => exact ⟨(wrap64 (x8_2 + 1)), (by first | rfl | (simp; done) | (simp [*]; done)), H', ⟨by have := HJ3.out; have := HK2.out; omega⟩, ⟨by repeat (first | (with_reducible first | exact HB.out | apply below_alloc | apply pw_below_drewN | apply below_drew1) | exact HB.out)⟩⟩
              · rw [if_neg c10] at H
                have c10b0 : decide (1 < (ji9)) = false := decide_eq_false c10
                clear c10
                obtain ⟨ji11, hji11⟩ : ∃ j_ : Int, (mx (wrap64 ((wrap64 (a2 + x8_2)) - 52)) (-1074)) = j_ := ⟨_, rfl⟩
                replace H : (if (wrap64 ((ji11) - a2)) > 0 then (if (wrap64 ((ji11) - a2)) > 64 then (some x7_3) else (if (wrap64 ((ji11) - a2)) < 64 then (if 0 ≤ (IntKind.u64.wrap (wrap64 ((ji11) - a2))) then (if 0 ≤ (IntKind.u64.wrap (wrap64 ((wrap64 ((ji11) - a2)) - 1))) then (if (Go.bits .and .u64 a1 (IntKind.u64.wrap ((shl .u64 1 (IntKind.u64.wrap (wrap64 ((ji11) - a2)))) - 1))) > (shl .u64 1 (IntKind.u64.wrap (wrap64 ((wrap64 ((ji11) - a2)) - 1)))) then (hygref6_round.j2 k2 x7_3 ji11 (IntKind.u64.wrap ((shr .u64 a1 (IntKind.u64.wrap (wrap64 ((ji11) - a2)))) + 1))) else (if (Go.bits .and .u64 a1 (IntKind.u64.wrap ((shl .u64 1 (IntKind.u64.wrap (wrap64 ((ji11) - a2)))) - 1))) = (shl .u64 1 (IntKind.u64.wrap (wrap64 ((wrap64 ((ji11) - a2)) - 1)))) then (if (Go.bits .and .u64 (shr .u64 a1 (IntKind.u64.wrap (wrap64 ((ji11) - a2)))) 1) = 1 then (hygref6_round.j2 k2 x7_3 ji11 (IntKind.u64.wrap ((shr .u64 a1 (IntKind.u64.wrap (wrap64 ((ji11) - a2)))) + 1))) else (hygref6_round.j2 k2 x7_3 ji11 (shr .u64 a1 (IntKind.u64.wrap (wrap64 ((ji11) - a2)))))) else (hygref6_round.j2 k2 x7_3 ji11 (shr .u64 a1 (IntKind.u64.wrap (wrap64 ((ji11) - a2))))))) else (none)) else (none)) else (if 0 ≤ (IntKind.u64.wrap (wrap64 ((wrap64 ((ji11) - a2)) - 1))) then (if a1 > (shl .u64 1 (IntKind.u64.wrap (wrap64 ((wrap64 ((ji11) - a2)) - 1)))) then (hygref6_round.j2 k2 x7_3 ji11 (0 + 1)) else (if a1 = (shl .u64 1 (IntKind.u64.wrap (wrap64 ((wrap64 ((ji11) - a2)) - 1)))) then (if (Go.bits .and .u64 0 1) = 1 then (hygref6_round.j2 k2 x7_3 ji11 (0 + 1)) else (hygref6_round.j2 k2 x7_3 ji11 0)) else (hygref6_round.j2 k2 x7_3 ji11 0))) else (none)))) else (if 0 ≤ (IntKind.u64.wrap (wrap64 (-(wrap64 ((ji11) - a2))))) then (hygref6_round.j2 k2 x7_3 ji11 (shl .u64 a1 (IntKind.u64.wrap (wrap64 (-(wrap64 ((ji11) - a2))))))) else (none))) = some r := by first | (rw [hji11] at H; exact H) | (simp only [hji11] at H ⊢; exact H)
                have hji11_ : (if (wrap64 ((wrap64 (a2 + x8_2)) - 52)) < (-1074) then (-1074) else (wrap64 ((wrap64 (a2 + x8_2)) - 52))) = ji11 := hji11
                have HC12 := Aside0.mk H
                clear H
                go_upto_if 36 with (fail)
                go_cut [11] (fun v11 wc => ∃ (kq : Nat) (x11_11 : Int), v11 = .int .u64 x11_11 ∧ Aside0 (hygref6_round.j2 kq x7_3 ji11 x11_11 = some r) ∧ Aside0 (kq ≤ k2) ∧ Aside0 (Below w.heap.size w wc))
                case first =>
                  have H := HC12.out
                  clear HC12
                  by_cases c13 : (wrap64 ((ji11) - a2)) > 0
                  · rw [if_pos c13] at H
                    have c13b0 : decide (0 < (wrap64 ((ji11) - a2))) = true := decide_eq_true c13
                    clear c13
                    (first | rw [c13b0] | (simp only [i64_w, i32_w]; rw [c13b0]) | skip)
                    by_cases c14 : (wrap64 ((ji11) - a2)) > 64
                    · rw [if_pos c14] at H
                      have c14b0 : decide (64 < (wrap64 ((ji11) - a2))) = true := decide_eq_true c14
                      clear c14
                      obtain rfl := Option.some.inj H
                      go_wp2
                      go_ret
                      exact ⟨by first | rfl | (simp [errW_none, errW_some] <;> rfl) | (simp only [← hji7, ← hji9, ← hji11]; first | rfl | (simp [errW_none, errW_some] <;> rfl)) | (simp [*, errW_none, errW_some] <;> rfl), by repeat (first | (with_reducible first | exact HB.out | apply below_alloc | apply pw_below_drewN | apply below_drew1) | exact HB.out)⟩
                    · rw [if_neg c14] at H
                      have c14b0 : decide (64 < (wrap64 ((ji11) - a2))) = false := decide_eq_false c14
                      clear c14
                      by_cases c15 : (wrap64 ((ji11) - a2)) < 64
                      · rw [if_pos c15] at H
                        have c15b0 : decide ((wrap64 ((ji11) - a2)) < 64) = true := decide_eq_true c15
                        clear c15
                        obtain ⟨ji16, hji16⟩ : ∃ j_ : Int, (IntKind.u64.wrap (wrap64 ((ji11) - a2))) = j_ := ⟨_, rfl⟩
                        replace H : (if 0 ≤ (ji16) then (if 0 ≤ (IntKind.u64.wrap (wrap64 ((wrap64 ((ji11) - a2)) - 1))) then (if (Go.bits .and .u64 a1 (IntKind.u64.wrap ((shl .u64 1 (ji16)) - 1))) > (shl .u64 1 (IntKind.u64.wrap (wrap64 ((wrap64 ((ji11) - a2)) - 1)))) then (hygref6_round.j2 k2 x7_3 ji11 (IntKind.u64.wrap ((shr .u64 a1 (ji16)) + 1))) else (if (Go.bits .and .u64 a1 (IntKind.u64.wrap ((shl .u64 1 (ji16)) - 1))) = (shl .u64 1 (IntKind.u64.wrap (wrap64 ((wrap64 ((ji11) - a2)) - 1)))) then (if (Go.bits .and .u64 (shr .u64 a1 (ji16)) 1) = 1 then (hygref6_round.j2 k2 x7_3 ji11 (IntKind.u64.wrap ((shr .u64 a1 (ji16)) + 1))) else (hygref6_round.j2 k2 x7_3 ji11 (shr .u64 a1 (ji16)))) else (hygref6_round.j2 k2 x7_3 ji11 (shr .u64 a1 (ji16))))) else (none)) else (none)) = some r := by first | (rw [hji16] at H; exact H) | (simp only [hji16] at H ⊢; exact H)
                        by_cases c17 : 0 ≤ (ji16)
                        · rw [if_pos c17] at H
                          have c17b0 := eq_true c17
                          have c17b1 : decide (0 ≤ (ji16)) = true := decide_eq_true c17
                          clear c17
                          obtain ⟨ji18, hji18⟩ : ∃ j_ : Int, (shr .u64 a1 (ji16)) = j_ := ⟨_, rfl⟩
                          replace H : (if 0 ≤ (IntKind.u64.wrap (wrap64 ((wrap64 ((ji11) - a2)) - 1))) then (if (Go.bits .and .u64 a1 (IntKind.u64.wrap ((shl .u64 1 (ji16)) - 1))) > (shl .u64 1 (IntKind.u64.wrap (wrap64 ((wrap64 ((ji11) - a2)) - 1)))) then (hygref6_round.j2 k2 x7_3 ji11 (IntKind.u64.wrap ((ji18) + 1))) else (if (Go.bits .and .u64 a1 (IntKind.u64.wrap ((shl .u64 1 (ji16)) - 1))) = (shl .u64 1 (IntKind.u64.wrap (wrap64 ((wrap64 ((ji11) - a2)) - 1)))) then (if (Go.bits .and .u64 (ji18) 1) = 1 then (hygref6_round.j2 k2 x7_3 ji11 (IntKind.u64.wrap ((ji18) + 1))) else (hygref6_round.j2 k2 x7_3 ji11 ji18)) else (hygref6_round.j2 k2 x7_3 ji11 ji18))) else (none)) = some r := by first | (rw [hji18] at H; exact H) | (simp only [hji18] at H ⊢; exact H)
                          have hji18_ : (a1 / 2 ^ min (ji16).toNat 64) = ji18 := hji18
                          have hji18z : (ji16) ≤ 64 → (a1 / 2 ^ (ji16).toNat) = ji18 := shr_small hji18
                          have c19b0 := eq_true (of_decide_eq_true (by first | (with_reducible assumption) | assumption) : 0 ≤ (ji16))
                          obtain ⟨ji20, hji20⟩ : ∃ j_ : Int, (shl .u64 1 (ji16)) = j_ := ⟨_, rfl⟩
                          replace H : (if 0 ≤ (IntKind.u64.wrap (wrap64 ((wrap64 ((ji11) - a2)) - 1))) then (if (Go.bits .and .u64 a1 (IntKind.u64.wrap ((ji20) - 1))) > (shl .u64 1 (IntKind.u64.wrap (wrap64 ((wrap64 ((ji11) - a2)) - 1)))) then (hygref6_round.j2 k2 x7_3 ji11 (IntKind.u64.wrap ((ji18) + 1))) else (if (Go.bits .and .u64 a1 (IntKind.u64.wrap ((ji20) - 1))) = (shl .u64 1 (IntKind.u64.wrap (wrap64 ((wrap64 ((ji11) - a2)) - 1)))) then (if (Go.bits .and .u64 (ji18) 1) = 1 then (hygref6_round.j2 k2 x7_3 ji11 (IntKind.u64.wrap ((ji18) + 1))) else (hygref6_round.j2 k2 x7_3 ji11 ji18)) else (hygref6_round.j2 k2 x7_3 ji11 ji18))) else (none)) = some r := by first | (rw [hji20] at H; exact H) | (simp only [hji20] at H ⊢; exact H)
                          have hji20_ : (IntKind.u64.wrap (1 * 2 ^ min (ji16).toNat 64)) = ji20 := hji20
                          have hji20z : (ji16) ≤ 64 → (IntKind.u64.wrap (1 * 2 ^ (ji16).toNat)) = ji20 := shl_small hji20
                          have hji20u : (IntKind.u64.wrap (2 ^ min (ji16).toNat 64)) = ji20 := by have h_ := hji20_; rw [Int.one_mul] at h_; exact h_
                          have hji20v : (ji16) ≤ 64 → (IntKind.u64.wrap (2 ^ (ji16).toNat)) = ji20 := fun hle_ => by have h_ := hji20z hle_; rw [Int.one_mul] at h_; exact h_
                          obtain ⟨ji21, hji21⟩ : ∃ j_ : Int, (IntKind.u64.wrap (wrap64 ((wrap64 ((ji11) - a2)) - 1))) = j_ := ⟨_, rfl⟩
                          replace H : (if 0 ≤ (ji21) then (if (Go.bits .and .u64 a1 (IntKind.u64.wrap ((ji20) - 1))) > (shl .u64 1 (ji21)) then (hygref6_round.j2 k2 x7_3 ji11 (IntKind.u64.wrap ((ji18) + 1))) else (if (Go.bits .and .u64 a1 (IntKind.u64.wrap ((ji20) - 1))) = (shl .u64 1 (ji21)) then (if (Go.bits .and .u64 (ji18) 1) = 1 then (hygref6_round.j2 k2 x7_3 ji11 (IntKind.u64.wrap ((ji18) + 1))) else (hygref6_round.j2 k2 x7_3 ji11 ji18)) else (hygref6_round.j2 k2 x7_3 ji11 ji18))) else (none)) = some r := by first | (rw [hji21] at H; exact H) | (simp only [hji21] at H ⊢; exact H)
                          by_cases c22 : 0 ≤ (ji21)
                          · rw [if_pos c22] at H
                            have c22b0 := eq_true c22
                            have c22b1 : decide (0 ≤ (ji21)) = true := decide_eq_true c22
                            clear c22
                            obtain ⟨ji23, hji23⟩ : ∃ j_ : Int, (shl .u64 1 (ji21)) = j_ := ⟨_, rfl⟩
                            replace H : (if (Go.bits .and .u64 a1 (IntKind.u64.wrap ((ji20) - 1))) > (ji23) then (hygref6_round.j2 k2 x7_3 ji11 (IntKind.u64.wrap ((ji18) + 1))) else (if (Go.bits .and .u64 a1 (IntKind.u64.wrap ((ji20) - 1))) = (ji23) then (if (Go.bits .and .u64 (ji18) 1) = 1 then (hygref6_round.j2 k2 x7_3 ji11 (IntKind.u64.wrap ((ji18) + 1))) else (hygref6_round.j2 k2 x7_3 ji11 ji18)) else (hygref6_round.j2 k2 x7_3 ji11 ji18))) = some r := by first | (rw [hji23] at H; exact H) | (simp only [hji23] at H ⊢; exact H)
                            have hji23_ : (IntKind.u64.wrap (1 * 2 ^ min (ji21).toNat 64)) = ji23 := hji23
                            have hji23z : (ji21) ≤ 64 → (IntKind.u64.wrap (1 * 2 ^ (ji21).toNat)) = ji23 := shl_small hji23
                            have hji23u : (IntKind.u64.wrap (2 ^ min (ji21).toNat 64)) = ji23 := by have h_ := hji23_; rw [Int.one_mul] at h_; exact h_
                            have hji23v : (ji21) ≤ 64 → (IntKind.u64.wrap (2 ^ (ji21).toNat)) = ji23 := fun hle_ => by have h_ := hji23z hle_; rw [Int.one_mul] at h_; exact h_
                            by_cases c24 : (Go.bits .and .u64 a1 (IntKind.u64.wrap ((ji20) - 1))) > (ji23)
                            · rw [if_pos c24] at H
                              have c24b0 : decide ((ji23) < (Go.bits .and .u64 a1 (IntKind.u64.wrap ((ji20) - 1)))) = true := decide_eq_true c24
                              clear c24
                              have H' := Aside0.mk H
                              clear H
                              go_wp2
                              go_meet
                              case rel => exact ⟨_, (IntKind.u64.wrap ((ji18) + 1)), (by first | rfl | (simp; done) | (simp only [← hji18] <;> (first | rfl | simp)) | (simp [*]; done)), H', ⟨by have := HJ3.out; have := HK2.out; first | omega | exact Nat.le_refl _⟩, ⟨by repeat (first | (with_reducible first | exact HB.out | apply below_alloc | apply pw_below_drewN | apply below_drew1) | exact HB.out)⟩⟩
                            · rw [if_neg c24] at H
                              have c24b0 : decide ((ji23) < (Go.bits .and .u64 a1 (IntKind.u64.wrap ((ji20) - 1)))) = false := decide_eq_false c24
                              clear c24
                              by_cases c25 : (Go.bits .and .u64 a1 (IntKind.u64.wrap ((ji20) - 1))) = (ji23)
                              · rw [if_pos c25] at H
                                have c25b0 : ((Go.bits .and .u64 a1 (IntKind.u64.wrap ((ji20) - 1))) == (ji23)) = true := beq_iff_eq.mpr c25
                                have c25b1 : ((Go.bits .and .u64 a1 (IntKind.u64.wrap ((ji20) - 1))) != (ji23)) = false := bne_eq_false_iff_eq.mpr c25
                                clear c25
                                by_cases c26 : (Go.bits .and .u64 (ji18) 1) = 1
                                · rw [if_pos c26] at H
                                  have c26b0 : ((Go.bits .and .u64 (ji18) 1) == 1) = true := beq_iff_eq.mpr c26
                                  have c26b1 : ((Go.bits .and .u64 (ji18) 1) != 1) = false := bne_eq_false_iff_eq.mpr c26
                                  clear c26
                                  have H' := Aside0.mk H
                                  clear H
                                  go_wp2
                                  go_meet
                                  case rel => exact ⟨_, (IntKind.u64.wrap ((ji18) + 1)), (by first | rfl | (simp; done) | (simp only [← hji18] <;> (first | rfl | simp)) | (simp [*]; done)), H', ⟨by have := HJ3.out; have := HK2.out; first | omega | exact Nat.le_refl _⟩, ⟨by repeat (first | (with_reducible first | exact HB.out | apply below_alloc | apply pw_below_drewN | apply below_drew1) | exact HB.out)⟩⟩
                                · rw [if_neg c26] at H
                                  have c26b0 : ((Go.bits .and .u64 (ji18) 1) == 1) = false := beq_eq_false_iff_ne.mpr c26
                                  have c26b1 : ((Go.bits .and .u64 (ji18) 1) != 1) = true := bne_iff_ne.mpr c26
                                  have H' := Aside0.mk H
                                  clear H
                                  go_wp2
                                  go_meet
                                  case rel => exact ⟨_, (ji18), (by first | rfl | (simp; done) | (simp only [← hji18] <;> (first | rfl | simp)) | (simp [*]; done)), H', ⟨by have := HJ3.out; have := HK2.out; first | omega | exact Nat.le_refl _⟩, ⟨by repeat (first | (with_reducible first | exact HB.out | apply below_alloc | apply pw_below_drewN | apply below_drew1) | exact HB.out)⟩⟩
                              · rw [if_neg c25] at H
                                have c25b0 : ((Go.bits .and .u64 a1 (IntKind.u64.wrap ((ji20) - 1))) == (ji23)) = false := beq_eq_false_iff_ne.mpr c25
                                have c25b1 : ((Go.bits .and .u64 a1 (IntKind.u64.wrap ((ji20) - 1))) != (ji23)) = true := bne_iff_ne.mpr c25
                                have H' := Aside0.mk H
                                clear H
                                go_wp2
                                go_meet
                                case rel => exact ⟨_, (ji18), (by first | rfl | (simp; done) | (simp only [← hji18] <;> (first | rfl | simp)) | (simp [*]; done)), H', ⟨by have := HJ3.out; have := HK2.out; first | omega | exact Nat.le_refl _⟩, ⟨by repeat (first | (with_reducible first | exact HB.out | apply below_alloc | apply pw_below_drewN | apply below_drew1) | exact HB.out)⟩⟩
                          · rw [if_neg c22] at H
                            exact absurd H (by simp)
                        · rw [if_neg c17] at H
                          exact absurd H (by simp)
                      · rw [if_neg c15] at H
                        have c15b0 : decide ((wrap64 ((ji11) - a2)) < 64) = false := decide_eq_false c15
                        clear c15
                        obtain ⟨ji27, hji27⟩ : ∃ j_ : Int, (IntKind.u64.wrap (wrap64 ((wrap64 ((ji11) - a2)) - 1))) = j_ := ⟨_, rfl⟩
                        replace H : (if 0 ≤ (ji27) then (if a1 > (shl .u64 1 (ji27)) then (hygref6_round.j2 k2 x7_3 ji11 (0 + 1)) else (if a1 = (shl .u64 1 (ji27)) then (if (Go.bits .and .u64 0 1) = 1 then (hygref6_round.j2 k2 x7_3 ji11 (0 + 1)) else (hygref6_round.j2 k2 x7_3 ji11 0)) else (hygref6_round.j2 k2 x7_3 ji11 0))) else (none)) = some r := by first | (rw [hji27] at H; exact H) | (simp only [hji27] at H ⊢; exact H)
                        by_cases c28 : 0 ≤ (ji27)
                        · rw [if_pos c28] at H
                          have c28b0 := eq_true c28
                          have c28b1 : decide (0 ≤ (ji27)) = true := decide_eq_true c28
                          clear c28
                          obtain ⟨ji29, hji29⟩ : ∃ j_ : Int, (shl .u64 1 (ji27)) = j_ := ⟨_, rfl⟩
                          replace H : (if a1 > (ji29) then (hygref6_round.j2 k2 x7_3 ji11 (0 + 1)) else (if a1 = (ji29) then (if (Go.bits .and .u64 0 1) = 1 then (hygref6_round.j2 k2 x7_3 ji11 (0 + 1)) else (hygref6_round.j2 k2 x7_3 ji11 0)) else (hygref6_round.j2 k2 x7_3 ji11 0))) = some r := by first | (rw [hji29] at H; exact H) | (simp only [hji29] at H ⊢; exact H)
                          have hji29_ : (IntKind.u64.wrap (1 * 2 ^ min (ji27).toNat 64)) = ji29 := hji29
                          have hji29z : (ji27) ≤ 64 → (IntKind.u64.wrap (1 * 2 ^ (ji27).toNat)) = ji29 := shl_small hji29
                          have hji29u : (IntKind.u64.wrap (2 ^ min (ji27).toNat 64)) = ji29 := by have h_ := hji29_; rw [Int.one_mul] at h_; exact h_
                          have hji29v : (ji27) ≤ 64 → (IntKind.u64.wrap (2 ^ (ji27).toNat)) = ji29 := fun hle_ => by have h_ := hji29z hle_; rw [Int.one_mul] at h_; exact h_
                          by_cases c30 : a1 > (ji29)
                          · rw [if_pos c30] at H
                            have c30b0 : decide ((ji29) < a1) = true := decide_eq_true c30
                            clear c30
                            have H' := Aside0.mk H
                            clear H
                            go_wp2
                            go_meet
                            case rel => exact ⟨_, (0 + 1), (by first | rfl | (simp; done) | (simp [*]; done)), H', ⟨by have := HJ3.out; have := HK2.out; first | omega | exact Nat.le_refl _⟩, ⟨by repeat (first | (with_reducible first | exact HB.out | apply below_alloc | apply pw_below_drewN | apply below_drew1) | exact HB.out)⟩⟩
                          · rw [if_neg c30] at H
                            have c30b0 : decide ((ji29) < a1) = false := decide_eq_false c30
                            clear c30
                            by_cases c31 : a1 = (ji29)
                            · rw [if_pos c31] at H
                              have c31b0 : (a1 == (ji29)) = true := beq_iff_eq.mpr c31
                              have c31b1 : (a1 != (ji29)) = false := bne_eq_false_iff_eq.mpr c31
                              clear c31
                              by_cases c32 : (Go.bits .and .u64 0 1) = 1
                              · rw [if_pos c32] at H
                                have c32b0 : ((Go.bits .and .u64 0 1) == 1) = true := beq_iff_eq.mpr c32
                                have c32b1 : ((Go.bits .and .u64 0 1) != 1) = false := bne_eq_false_iff_eq.mpr c32
                                clear c32
                                have H' := Aside0.mk H
                                clear H
                                go_wp2
                                go_meet
                                case rel => exact ⟨_, (0 + 1), (by first | rfl | (simp; done) | (simp [*]; done)), H', ⟨by have := HJ3.out; have := HK2.out; first | omega | exact Nat.le_refl _⟩, ⟨by repeat (first | (with_reducible first | exact HB.out | apply below_alloc | apply pw_below_drewN | apply below_drew1) | exact HB.out)⟩⟩
                              · rw [if_neg c32] at H
                                have c32b0 : ((Go.bits .and .u64 0 1) == 1) = false := beq_eq_false_iff_ne.mpr c32
                                have c32b1 : ((Go.bits .and .u64 0 1) != 1) = true := bne_iff_ne.mpr c32
                                have H' := Aside0.mk H
                                clear H
                                go_wp2
                                go_meet
                                case rel => exact ⟨_, (0), (by first | rfl | (simp; done) | (simp [*]; done)), H', ⟨by have := HJ3.out; have := HK2.out; first | omega | exact Nat.le_refl _⟩, ⟨by repeat (first | (with_reducible first | exact HB.out | apply below_alloc | apply pw_below_drewN | apply below_drew1) | exact HB.out)⟩⟩
                            · rw [if_neg c31] at H
                              have c31b0 : (a1 == (ji29)) = false := beq_eq_false_iff_ne.mpr c31
                              have c31b1 : (a1 != (ji29)) = true := bne_iff_ne.mpr c31
                              have H' := Aside0.mk H
                              clear H
                              go_wp2
                              go_meet
                              case rel => exact ⟨_, (0), (by first | rfl | (simp; done) | (simp [*]; done)), H', ⟨by have := HJ3.out; have := HK2.out; first | omega | exact Nat.le_refl _⟩, ⟨by repeat (first | (with_reducible first | exact HB.out | apply below_alloc | apply pw_below_drewN | apply below_drew1) | exact HB.out)⟩⟩
                        · rw [if_neg c28] at H
                          exact absurd H (by simp)
                  · rw [if_neg c13] at H
                    have c13b0 : decide (0 < (wrap64 ((ji11) - a2))) = false := decide_eq_false c13
                    clear c13
                    (first | rw [c13b0] | (simp only [i64_w, i32_w]; rw [c13b0]) | skip)
                    obtain ⟨ji33, hji33⟩ : ∃ j_ : Int, (IntKind.u64.wrap (wrap64 (-(wrap64 ((ji11) - a2))))) = j_ := ⟨_, rfl⟩
                    replace H : (if 0 ≤ (ji33) then (hygref6_round.j2 k2 x7_3 ji11 (shl .u64 a1 (ji33))) else (none)) = some r := by first | (rw [hji33] at H; exact H) | (simp only [hji33] at H ⊢; exact H)
                    by_cases c34 : 0 ≤ (ji33)
                    · rw [if_pos c34] at H
                      have c34b0 := eq_true c34
                      have c34b1 : decide (0 ≤ (ji33)) = true := decide_eq_true c34
                      clear c34
                      obtain ⟨ji35, hji35⟩ : ∃ j_ : Int, (shl .u64 a1 (ji33)) = j_ := ⟨_, rfl⟩
                      replace H : (hygref6_round.j2 k2 x7_3 ji11 ji35) = some r := by first | (rw [hji35] at H; exact H) | (simp only [hji35] at H ⊢; exact H)
                      have hji35_ : (IntKind.u64.wrap (a1 * 2 ^ min (ji33).toNat 64)) = ji35 := hji35
                      have hji35z : (ji33) ≤ 64 → (IntKind.u64.wrap (a1 * 2 ^ (ji33).toNat)) = ji35 := shl_small hji35
                      have H' := Aside0.mk H
                      clear H
                      go_wp2
                      go_meet
                      case rel => exact ⟨_, (ji35), (by first | rfl | (simp; done) | (simp only [← hji35] <;> (first | rfl | simp)) | (simp [*]; done)), H', ⟨by have := HJ3.out; have := HK2.out; first | omega | exact Nat.le_refl _⟩, ⟨by repeat (first | (with_reducible first | exact HB.out | apply below_alloc | apply pw_below_drewN | apply below_drew1) | exact HB.out)⟩⟩
                    · rw [if_neg c34] at H
                      exact absurd H (by simp)
                case rest =>
                  clear HC12
                  try clear c1
                  try clear c2
                  try clear p2
                  try clear c3
                  try clear c4
                  try clear c5
                  try clear c6
                  try clear c6b0
                  try clear c6b1
                  try clear p6
                  try clear c8
                  try clear c8b0
                  try clear c8b1
                  try clear c10
                  try clear c10b0
                  try clear c13
                  try clear c13b0
                  try clear c14
                  try clear c14b0
                  try clear c15
                  try clear c15b0
                  try clear c17
                  try clear c17b0
                  try clear c17b1
                  try clear c19
                  try clear c19b0
                  try clear c22
                  try clear c22b0
                  try clear c22b1
                  try clear c24
                  try clear c24b0
                  try clear c25
                  try clear c25b0
                  try clear c25b1
                  try clear c26
                  try clear c26b0
                  try clear c26b1
                  try clear c28
                  try clear c28b0
                  try clear c28b1
                  try clear c30
                  try clear c30b0
                  try clear c31
                  try clear c31b0
                  try clear c31b1
                  try clear c32
                  try clear c32b0
                  try clear c32b1
                  try clear c34
                  try clear c34b0
                  try clear c34b1
                  try clear p2
                  obtain ⟨kq, x11_11, rfl, HA, HJ11, HB⟩ := hcut
                  cases kq with
                  | zero => exact absurd HA.out (by simp [hygref6_round.j2])
                  | succ kj11 =>
                    have H := HA.out
                    clear HA
                    simp only [hygref6_round.j2] at H
                    have HC36 := Aside0.mk H
                    clear H
                    go_upto_if 79 with (fail)
                    go_cut [9, 11] (fun v9 v11 wc => ∃ (kq : Nat) (x9_35 : Int) (x11_35 : Int), v9 = .int .i64 x9_35 ∧ v11 = .int .u64 x11_35 ∧ Aside0 (hygref6_round.j3 kq x7_3 x9_35 x11_35 = some r) ∧ Aside0 (kq ≤ kj11) ∧ Aside0 (Below w.heap.size w wc))
                    case first =>
                      have H := HC36.out
                      clear HC36
                      by_cases c37 : (x11_11 / 9007199254740992) = 1
                      · rw [if_pos c37] at H
                        have c37b0 : ((x11_11 / 9007199254740992) == 1) = true := beq_iff_eq.mpr c37
                        have c37b1 : ((x11_11 / 9007199254740992) != 1) = false := bne_eq_false_iff_eq.mpr c37
                        clear c37
                        (first | rw [c37b0] | (simp only [i64_w, i32_w]; rw [c37b0]) | skip)
                        have H' := Aside0.mk H
                        clear H
                        go_wp2
                        go_meet
                        case rel => exact ⟨_, (wrap64 (ji11 + 1)), (x11_11 / 2), (by first | rfl | (simp; done) | (simp only [← hji11] <;> (first | rfl | simp)) | (simp [*]; done)), (by first | rfl | (simp; done) | (simp [*]; done)), H', ⟨by have := HJ3.out; have := HK2.out; have := HJ11.out; first | omega | exact Nat.le_refl _⟩, ⟨by repeat (first | (with_reducible first | exact HB.out | apply below_alloc | apply pw_below_drewN | apply below_drew1) | exact HB.out)⟩⟩
                      · rw [if_neg c37] at H
                        have c37b0 : ((x11_11 / 9007199254740992) == 1) = false := beq_eq_false_iff_ne.mpr c37
                        have c37b1 : ((x11_11 / 9007199254740992) != 1) = true := bne_iff_ne.mpr c37
                        (first | rw [c37b0] | (simp only [i64_w, i32_w]; rw [c37b0]) | skip)
                        have H' := Aside0.mk H
                        clear H
                        go_wp2
                        go_meet
                        case rel => exact ⟨_, (ji11), (x11_11), (by first | rfl | (simp; done) | (simp only [← hji11] <;> (first | rfl | simp)) | (simp [*]; done)), (by first | rfl | (simp; done) | (simp [*]; done)), H', ⟨by have := HJ3.out; have := HK2.out; have := HJ11.out; first | omega | exact Nat.le_refl _⟩, ⟨by repeat (first | (with_reducible first | exact HB.out | apply below_alloc | apply pw_below_drewN | apply below_drew1) | exact HB.out)⟩⟩
                    case rest =>
                      clear HC36
                      try clear c1
                      try clear c2
                      try clear p2
                      try clear c3
                      try clear c4
                      try clear c5
                      try clear c6
                      try clear c6b0
                      try clear c6b1
                      try clear p6
                      try clear c8
                      try clear c8b0
                      try clear c8b1
                      try clear c10
                      try clear c10b0
                      try clear c13
                      try clear c13b0
                      try clear c14
                      try clear c14b0
                      try clear c15
                      try clear c15b0
                      try clear c17
                      try clear c17b0
                      try clear c17b1
                      try clear c19
                      try clear c19b0
                      try clear c22
                      try clear c22b0
                      try clear c22b1
                      try clear c24
                      try clear c24b0
                      try clear c25
                      try clear c25b0
                      try clear c25b1
                      try clear c26
                      try clear c26b0
                      try clear c26b1
                      try clear c28
                      try clear c28b0
                      try clear c28b1
                      try clear c30
                      try clear c30b0
                      try clear c31
                      try clear c31b0
                      try clear c31b1
                      try clear c32
                      try clear c32b0
                      try clear c32b1
                      try clear c34
                      try clear c34b0
                      try clear c34b1
                      try clear c37
                      try clear c37b0
                      try clear c37b1
                      try clear p2
                      try clear p6
                      obtain ⟨kq, x9_35, x11_35, rfl, rfl, HA, HJ35, HB⟩ := hcut
                      cases kq with
                      | zero => exact absurd HA.out (by simp [hygref6_round.j3])
                      | succ kj35 =>
                        have H := HA.out
                        clear HA
                        simp only [hygref6_round.j3] at H
                        by_cases c38 : (x11_35 / 4503599627370496) = 0
                        · rw [if_pos c38] at H
                          have c38b0 : ((x11_35 / 4503599627370496) == 0) = true := beq_iff_eq.mpr c38
                          have c38b1 : ((x11_35 / 4503599627370496) != 0) = false := bne_eq_false_iff_eq.mpr c38
                          clear c38
                          obtain rfl := Option.some.inj H
                          go_wp2
                          go_ret
                          exact ⟨by first | rfl | (simp [errW_none, errW_some] <;> rfl) | (simp only [← hji7, ← hji9, ← hji11]; first | rfl | (simp [errW_none, errW_some] <;> rfl)) | (simp [*, errW_none, errW_some] <;> rfl), by repeat (first | (with_reducible first | exact HB.out | apply below_alloc | apply pw_below_drewN | apply below_drew1) | exact HB.out)⟩
                        · rw [if_neg c38] at H
                          have c38b0 : ((x11_35 / 4503599627370496) == 0) = false := beq_eq_false_iff_ne.mpr c38
                          have c38b1 : ((x11_35 / 4503599627370496) != 0) = true := bne_iff_ne.mpr c38
                          by_cases c39 : (wrap64 (x9_35 + 1075)) ≥ 2047
                          · rw [if_pos c39] at H
                            have c39b0 : decide (2047 ≤ (wrap64 (x9_35 + 1075))) = true := decide_eq_true c39
                            clear c39
                            obtain rfl := Option.some.inj H
                            go_wp2
                            go_ret
                            exact ⟨by first | rfl | (simp [errW_none, errW_some] <;> rfl) | (simp only [← hji7, ← hji9, ← hji11]; first | rfl | (simp [errW_none, errW_some] <;> rfl)) | (simp [*, errW_none, errW_some] <;> rfl), by repeat (first | (with_reducible first | exact HB.out | apply below_alloc | apply pw_below_drewN | apply below_drew1) | exact HB.out)⟩
                          · rw [if_neg c39] at H
                            have c39b0 : decide (2047 ≤ (wrap64 (x9_35 + 1075))) = false := decide_eq_false c39
                            clear c39
                            obtain rfl := Option.some.inj H
                            go_wp2
                            go_ret
                            exact ⟨by first | rfl | (simp [errW_none, errW_some] <;> rfl) | (simp only [← hji7, ← hji9, ← hji11]; first | rfl | (simp [errW_none, errW_some] <;> rfl)) | (simp [*, errW_none, errW_some] <;> rfl), by repeat (first | (with_reducible first | exact HB.out | apply below_alloc | apply pw_below_drewN | apply below_drew1) | exact HB.out)⟩
            · rw [if_neg c8] at H
              exact absurd H (by simp)

/-! ### hygref6_size: function 52 -/
def hygref6_size.f (a0 : Int) : Option (Int) := some (Go.bits .and .u64 a0 9223372036854775807)
set_option maxHeartbeats 8000000 in
set_option maxRecDepth 100000 in
theorem hygref6_size.calls (a0 : Int) (r : Int) (w : World) (h : hygref6_size.f a0 = some r) :
    Calls Try.prog 52 #[.int .u64 a0] w fun e w' => e = .returned (.int .u64 r) ∧ Drawn0 w w' := by
  have H : (some (Go.bits .and .u64 a0 9223372036854775807)) = some r := h
  clear h
  obtain rfl := Option.some.inj H
  go_enter Try.func52, Try.ntmps52
  go_wp2
  go_ret
  exact ⟨by first | rfl | (simp; done) | (simp [*]; done), by repeat (first | exact Drawn0.refl _ | apply Drawn0.step)⟩

end Go.Proofs.Ytmljncgglpckcaa.PFaddSums
