-- Made by a program of this session, after the guide's print, out of the translation. Lean checks it.
import Derived.Test.YtmljncgglpckcaaPFltLeastx0
import Derived.Test.YtmljncgglpckcaaPFltLeastx1
import Derived.Test.YtmljncgglpckcaaPFltLeastx2
namespace Go.Proofs.Ytmljncgglpckcaa.PFltLeast
open Go.RowKit Go.Proofs.YtmljncgglpckcaaW.PrintWords Go.Proofs.YtmljncgglpckcaaW.PrintLast Go.Proofs.YtmljncgglpckcaaW.PrintMore
attribute [local go_sem] max2_int min2_int max_two min_two max_three min_three max_four min_four   -- for this text's walks alone
set_option linter.unusedVariables false
set_option linter.unusedSimpArgs false

/-! ### hyglaw6_FltLeast: function 8 -/
mutual
def hyglaw6_FltLeast.j0 : Nat → Int → Int → Int → Int → Bool → Option (Bool)
  | 0, _, _, _, _, _ => none
  | k + 1, x0, x1, x5, x6, x39 => if x39 = true then (some false) else ((flt_Class.f x0).bind fun t139 => ((flt_Class.f x1).bind fun t140 => (if t139 = 4 then (hyglaw6_FltLeast.j1 k x0 x1 x5 x6 (t140 == 4) (!(t140 == 4))) else (hyglaw6_FltLeast.j1 k x0 x1 x5 x6 (t140 == 4) false))))
def hyglaw6_FltLeast.j1 : Nat → Int → Int → Int → Int → Bool → Bool → Option (Bool)
  | 0, _, _, _, _, _, _ => none
  | k + 1, x0, x1, x5, x6, x8, x46 => if x46 = true then ((hyglaw6_first.f k).bind fun t141 => (if t141 = true then (if x5 = x1 then (some (x6 == x1)) else (some false)) else (some false))) else (if x8 = true then ((hyglaw6_first.f k).bind fun t142 => (if t142 = true then (if x5 = x0 then (some (x6 == x0)) else (some false)) else (some false))) else ((flt_Equal.f x0 x1).bind fun t143 => (if t143 = true then ((hyglaw6_first.f k).bind fun t144 => (if t144 = true then (if x5 = x0 then (some (x6 == x0)) else (some false)) else (some false))) else ((hyglaw6_first.f k).bind fun t145 => (if t145 = true then (if x5 = x6 then (some false) else ((flt_Less.f x0 x5).bind fun t146 => (if t146 = true then (some false) else ((flt_Less.f x1 x5).bind fun t147 => (if t147 = true then (some false) else ((flt_Less.f x6 x0).bind fun t148 => (if t148 = true then (some false) else ((flt_Less.f x6 x1).bind fun t149 => (some (!t149)))))))))) else (some false))))))
end
def hyglaw6_FltLeast.f (k : Nat) (a0 : Int) (a1 : Int) : Option (Bool) := (hyglaw6_first.f k).bind fun t132 => (if t132 = true then ((flt_Min.f a0 a1).bind fun t133 => ((flt_Max.f a0 a1).bind fun t134 => (if t133 = a0 then (if t134 = a0 then ((flt_Less.f t134 t133).bind fun t135 => (hyglaw6_FltLeast.j0 k a0 a1 t133 t134 t135)) else (if t134 = a1 then ((flt_Less.f t134 t133).bind fun t136 => (hyglaw6_FltLeast.j0 k a0 a1 t133 t134 t136)) else (hyglaw6_FltLeast.j0 k a0 a1 t133 t134 true))) else (if t133 = a1 then (if t134 = a0 then ((flt_Less.f t134 t133).bind fun t137 => (hyglaw6_FltLeast.j0 k a0 a1 t133 t134 t137)) else (if t134 = a1 then ((flt_Less.f t134 t133).bind fun t138 => (hyglaw6_FltLeast.j0 k a0 a1 t133 t134 t138)) else (hyglaw6_FltLeast.j0 k a0 a1 t133 t134 true))) else (hyglaw6_FltLeast.j0 k a0 a1 t133 t134 true))))) else (some false))
theorem hyglaw6_FltLeast.mono_l : ∀ k, (∀ y0 y1 y2 y3 y4, LeO (hyglaw6_FltLeast.j0 k y0 y1 y2 y3 y4) (hyglaw6_FltLeast.j0 (k + 1) y0 y1 y2 y3 y4)) ∧ (∀ y0 y1 y2 y3 y4 y5, LeO (hyglaw6_FltLeast.j1 k y0 y1 y2 y3 y4 y5) (hyglaw6_FltLeast.j1 (k + 1) y0 y1 y2 y3 y4 y5))
  | 0 => ⟨fun _ _ _ _ _ r h => by simp [hyglaw6_FltLeast.j0] at h, fun _ _ _ _ _ _ r h => by simp [hyglaw6_FltLeast.j1] at h⟩
  | k + 1 => by
    obtain ⟨ih0, ih1⟩ := hyglaw6_FltLeast.mono_l k
    refine ⟨?_, ?_⟩
    · intro y0 y1 y2 y3 y4
      unfold hyglaw6_FltLeast.j0
      repeat' first
      | (with_reducible exact ih0 _ _ _ _ _)
      | (with_reducible exact ih1 _ _ _ _ _ _)
      | (with_reducible exact hyglaw6_first.mono _)
      | (with_reducible exact LeO.refl _)
      | (with_reducible exact LeO.none _)
      | (with_reducible refine LeO.ite ?_ ?_)
      | (with_reducible refine LeO.bind ?_ (fun _ => ?_))
      | exact ih0 _ _ _ _ _
      | exact ih1 _ _ _ _ _ _
      | exact hyglaw6_first.mono _
      | exact LeO.none _
      | refine LeO.ite ?_ ?_
      | refine LeO.bind ?_ (fun _ => ?_)
    · intro y0 y1 y2 y3 y4 y5
      unfold hyglaw6_FltLeast.j1
      repeat' first
      | (with_reducible exact ih0 _ _ _ _ _)
      | (with_reducible exact ih1 _ _ _ _ _ _)
      | (with_reducible exact hyglaw6_first.mono _)
      | (with_reducible exact LeO.refl _)
      | (with_reducible exact LeO.none _)
      | (with_reducible refine LeO.ite ?_ ?_)
      | (with_reducible refine LeO.bind ?_ (fun _ => ?_))
      | exact ih0 _ _ _ _ _
      | exact ih1 _ _ _ _ _ _
      | exact hyglaw6_first.mono _
      | exact LeO.none _
      | refine LeO.ite ?_ ?_
      | refine LeO.bind ?_ (fun _ => ?_)
theorem hyglaw6_FltLeast.mono : ∀ a0 a1 k, LeO (hyglaw6_FltLeast.f k a0 a1) (hyglaw6_FltLeast.f (k + 1) a0 a1) := by
  intro a0 a1 k
  obtain ⟨ih0, ih1⟩ := hyglaw6_FltLeast.mono_l k
  unfold hyglaw6_FltLeast.f
  repeat' first
      | (with_reducible exact ih0 _ _ _ _ _)
      | (with_reducible exact ih1 _ _ _ _ _ _)
      | (with_reducible exact hyglaw6_first.mono _)
      | (with_reducible exact LeO.refl _)
      | (with_reducible exact LeO.none _)
      | (with_reducible refine LeO.ite ?_ ?_)
      | (with_reducible refine LeO.bind ?_ (fun _ => ?_))
      | exact ih0 _ _ _ _ _
      | exact ih1 _ _ _ _ _ _
      | exact hyglaw6_first.mono _
      | exact LeO.none _
      | refine LeO.ite ?_ ?_
      | refine LeO.bind ?_ (fun _ => ?_)
set_option maxHeartbeats 8000000 in
set_option maxRecDepth 100000 in
theorem hyglaw6_FltLeast.calls (k : Nat) (a0 : Int) (a1 : Int) (r : Bool) (w : World) (h : hyglaw6_FltLeast.f k a0 a1 = some r) :
    Calls Try.prog 8 #[.int .u64 a0, .int .u64 a1] w fun e w' => e = .returned (.bool r) ∧ Drawn0 w w' := by
  have H : ((hyglaw6_first.f k).bind fun t132 => (if t132 = true then ((flt_Min.f a0 a1).bind fun t133 => ((flt_Max.f a0 a1).bind fun t134 => (if t133 = a0 then (if t134 = a0 then ((flt_Less.f t134 t133).bind fun t135 => (hyglaw6_FltLeast.j0 k a0 a1 t133 t134 t135)) else (if t134 = a1 then ((flt_Less.f t134 t133).bind fun t136 => (hyglaw6_FltLeast.j0 k a0 a1 t133 t134 t136)) else (hyglaw6_FltLeast.j0 k a0 a1 t133 t134 true))) else (if t133 = a1 then (if t134 = a0 then ((flt_Less.f t134 t133).bind fun t137 => (hyglaw6_FltLeast.j0 k a0 a1 t133 t134 t137)) else (if t134 = a1 then ((flt_Less.f t134 t133).bind fun t138 => (hyglaw6_FltLeast.j0 k a0 a1 t133 t134 t138)) else (hyglaw6_FltLeast.j0 k a0 a1 t133 t134 true))) else (hyglaw6_FltLeast.j0 k a0 a1 t133 t134 true))))) else (some false))) = some r := h
  clear h
  replace H := Option.bind_eq_some_iff.mp H
  obtain ⟨t132, A30, H⟩ := H
  replace H : (if t132 = true then ((flt_Min.f a0 a1).bind fun t133 => ((flt_Max.f a0 a1).bind fun t134 => (if t133 = a0 then (if t134 = a0 then ((flt_Less.f t134 t133).bind fun t135 => (hyglaw6_FltLeast.j0 k a0 a1 t133 t134 t135)) else (if t134 = a1 then ((flt_Less.f t134 t133).bind fun t136 => (hyglaw6_FltLeast.j0 k a0 a1 t133 t134 t136)) else (hyglaw6_FltLeast.j0 k a0 a1 t133 t134 true))) else (if t133 = a1 then (if t134 = a0 then ((flt_Less.f t134 t133).bind fun t137 => (hyglaw6_FltLeast.j0 k a0 a1 t133 t134 t137)) else (if t134 = a1 then ((flt_Less.f t134 t133).bind fun t138 => (hyglaw6_FltLeast.j0 k a0 a1 t133 t134 t138)) else (hyglaw6_FltLeast.j0 k a0 a1 t133 t134 true))) else (hyglaw6_FltLeast.j0 k a0 a1 t133 t134 true))))) else (some false)) = some r := H
  have A3 := Aside0.mk A30
  clear A30
  by_cases c4 : t132 = true
  · subst c4
    have H1 : ((flt_Min.f a0 a1).bind fun t133 => ((flt_Max.f a0 a1).bind fun t134 => (if t133 = a0 then (if t134 = a0 then ((flt_Less.f t134 t133).bind fun t135 => (hyglaw6_FltLeast.j0 k a0 a1 t133 t134 t135)) else (if t134 = a1 then ((flt_Less.f t134 t133).bind fun t136 => (hyglaw6_FltLeast.j0 k a0 a1 t133 t134 t136)) else (hyglaw6_FltLeast.j0 k a0 a1 t133 t134 true))) else (if t133 = a1 then (if t134 = a0 then ((flt_Less.f t134 t133).bind fun t137 => (hyglaw6_FltLeast.j0 k a0 a1 t133 t134 t137)) else (if t134 = a1 then ((flt_Less.f t134 t133).bind fun t138 => (hyglaw6_FltLeast.j0 k a0 a1 t133 t134 t138)) else (hyglaw6_FltLeast.j0 k a0 a1 t133 t134 true))) else (hyglaw6_FltLeast.j0 k a0 a1 t133 t134 true))))) = some r := by rw [if_pos rfl] at H; exact H
    clear H
    have H := H1
    clear H1
    replace H := Option.bind_eq_some_iff.mp H
    obtain ⟨t133, A50, H⟩ := H
    replace H : ((flt_Max.f a0 a1).bind fun t134 => (if t133 = a0 then (if t134 = a0 then ((flt_Less.f t134 t133).bind fun t135 => (hyglaw6_FltLeast.j0 k a0 a1 t133 t134 t135)) else (if t134 = a1 then ((flt_Less.f t134 t133).bind fun t136 => (hyglaw6_FltLeast.j0 k a0 a1 t133 t134 t136)) else (hyglaw6_FltLeast.j0 k a0 a1 t133 t134 true))) else (if t133 = a1 then (if t134 = a0 then ((flt_Less.f t134 t133).bind fun t137 => (hyglaw6_FltLeast.j0 k a0 a1 t133 t134 t137)) else (if t134 = a1 then ((flt_Less.f t134 t133).bind fun t138 => (hyglaw6_FltLeast.j0 k a0 a1 t133 t134 t138)) else (hyglaw6_FltLeast.j0 k a0 a1 t133 t134 true))) else (hyglaw6_FltLeast.j0 k a0 a1 t133 t134 true)))) = some r := H
    have A5 := Aside0.mk A50
    clear A50
    replace H := Option.bind_eq_some_iff.mp H
    obtain ⟨t134, A60, H⟩ := H
    replace H : (if t133 = a0 then (if t134 = a0 then ((flt_Less.f t134 t133).bind fun t135 => (hyglaw6_FltLeast.j0 k a0 a1 t133 t134 t135)) else (if t134 = a1 then ((flt_Less.f t134 t133).bind fun t136 => (hyglaw6_FltLeast.j0 k a0 a1 t133 t134 t136)) else (hyglaw6_FltLeast.j0 k a0 a1 t133 t134 true))) else (if t133 = a1 then (if t134 = a0 then ((flt_Less.f t134 t133).bind fun t137 => (hyglaw6_FltLeast.j0 k a0 a1 t133 t134 t137)) else (if t134 = a1 then ((flt_Less.f t134 t133).bind fun t138 => (hyglaw6_FltLeast.j0 k a0 a1 t133 t134 t138)) else (hyglaw6_FltLeast.j0 k a0 a1 t133 t134 true))) else (hyglaw6_FltLeast.j0 k a0 a1 t133 t134 true))) = some r := H
    have A6 := Aside0.mk A60
    clear A60
    have HC7 := Aside0.mk H
    clear H
    go_enter Try.func8, Try.ntmps8
    go_upto_region 4 with (first | ((with_reducible refine gate_callee (f := 14) rfl ?_); refine goesL_ (some 9) rfl rfl Try.func14 (by kernel_rfl) rfl #[] rfl (by (try simp only [List.map_toArray, List.map_cons, List.map_nil]); first | done | rfl | (simp only [List.length_drop, List.length_take]; rfl)) ?_; (with_reducible refine (hyglaw6_first.calls k  true _ A3.out).mono ?_); rintro e w' ⟨rfl, ⟨nd, rfl⟩⟩; refine ⟨_, rfl, ?_⟩) | ((with_reducible refine gate_callee (f := 28) rfl ?_); refine goesL_ (some 13) rfl rfl Try.func28 (by kernel_rfl) rfl #[.int .u64 a0, .int .u64 a1] rfl (by (try simp only [List.map_toArray, List.map_cons, List.map_nil]); first | done | rfl | (simp only [List.length_drop, List.length_take]; rfl)) ?_; (with_reducible refine (flt_Min.calls a0 a1 t133 _ A5.out).mono ?_); rintro e w' ⟨rfl, ⟨nd, rfl⟩⟩; refine ⟨_, rfl, ?_⟩) | ((with_reducible refine gate_callee (f := 29) rfl ?_); refine goesL_ (some 16) rfl rfl Try.func29 (by kernel_rfl) rfl #[.int .u64 a0, .int .u64 a1] rfl (by (try simp only [List.map_toArray, List.map_cons, List.map_nil]); first | done | rfl | (simp only [List.length_drop, List.length_take]; rfl)) ?_; (with_reducible refine (flt_Max.calls a0 a1 t134 _ A6.out).mono ?_); rintro e w' ⟨rfl, ⟨nd, rfl⟩⟩; refine ⟨_, rfl, ?_⟩))
    (try simp only [Act.put, List.setIfInBounds_toArray, List.set_cons_zero, List.set_cons_succ])
    go_cut [39] (fun v39 wc => ∃ (kq : Nat) (x39_6 : Bool), v39 = .bool x39_6 ∧ Aside0 (hyglaw6_FltLeast.j0 kq a0 a1 t133 t134 x39_6 = some r) ∧ Aside0 (kq ≤ k) ∧ Drawn0 w wc)
    case first =>
      have H := HC7.out
      clear HC7
      by_cases c8 : t133 = a0
      · rw [if_pos c8] at H
        have c8b0 : (t133 == a0) = true := beq_iff_eq.mpr c8
        have c8b1 : (t133 != a0) = false := bne_eq_false_iff_eq.mpr c8
        clear c8
        (first | rw [c8b0] | (simp only [i64_w, i32_w]; rw [c8b0]) | skip)
        by_cases c9 : t134 = a0
        · rw [if_pos c9] at H
          have c9b0 : (t134 == a0) = true := beq_iff_eq.mpr c9
          have c9b1 : (t134 != a0) = false := bne_eq_false_iff_eq.mpr c9
          clear c9
          replace H := Option.bind_eq_some_iff.mp H
          obtain ⟨t135, A100, H⟩ := H
          replace H : (hyglaw6_FltLeast.j0 k a0 a1 t133 t134 t135) = some r := H
          have A10 := Aside0.mk A100
          clear A100
          have H' := Aside0.mk H
          clear H
          go_wp2_with (first | (go_at_call 19; (with_reducible refine (flt_Less.calls t134 t133 t135 _ A10.out).mono ?_); rintro e w' ⟨rfl, ⟨nd, rfl⟩⟩))
          go_meet
          case rel => exact ⟨_, (t135), (by first | rfl | (simp; done) | (simp [*]; done)), H', ⟨by first | omega | exact Nat.le_refl _⟩, by repeat (first | exact Drawn0.refl _ | apply Drawn0.step)⟩
        · rw [if_neg c9] at H
          have c9b0 : (t134 == a0) = false := beq_eq_false_iff_ne.mpr c9
          have c9b1 : (t134 != a0) = true := bne_iff_ne.mpr c9
          by_cases c11 : t134 = a1
          · rw [if_pos c11] at H
            have c11b0 : (t134 == a1) = true := beq_iff_eq.mpr c11
            have c11b1 : (t134 != a1) = false := bne_eq_false_iff_eq.mpr c11
            clear c11
            replace H := Option.bind_eq_some_iff.mp H
            obtain ⟨t136, A120, H⟩ := H
            replace H : (hyglaw6_FltLeast.j0 k a0 a1 t133 t134 t136) = some r := H
            have A12 := Aside0.mk A120
            clear A120
            have H' := Aside0.mk H
            clear H
            go_wp2_with (first | (go_at_call 19; (with_reducible refine (flt_Less.calls t134 t133 t136 _ A12.out).mono ?_); rintro e w' ⟨rfl, ⟨nd, rfl⟩⟩))
            go_meet
            case rel => exact ⟨_, (t136), (by first | rfl | (simp; done) | (simp [*]; done)), H', ⟨by first | omega | exact Nat.le_refl _⟩, by repeat (first | exact Drawn0.refl _ | apply Drawn0.step)⟩
          · rw [if_neg c11] at H
            have c11b0 : (t134 == a1) = false := beq_eq_false_iff_ne.mpr c11
            have c11b1 : (t134 != a1) = true := bne_iff_ne.mpr c11
            have H' := Aside0.mk H
            clear H
            go_wp2
            go_meet
            case rel => exact ⟨_, (true), (by first | rfl | (simp; done) | (simp [*]; done)), H', ⟨by first | omega | exact Nat.le_refl _⟩, by repeat (first | exact Drawn0.refl _ | apply Drawn0.step)⟩
      · rw [if_neg c8] at H
        have c8b0 : (t133 == a0) = false := beq_eq_false_iff_ne.mpr c8
        have c8b1 : (t133 != a0) = true := bne_iff_ne.mpr c8
        (first | rw [c8b0] | (simp only [i64_w, i32_w]; rw [c8b0]) | skip)
        by_cases c13 : t133 = a1
        · rw [if_pos c13] at H
          have c13b0 : (t133 == a1) = true := beq_iff_eq.mpr c13
          have c13b1 : (t133 != a1) = false := bne_eq_false_iff_eq.mpr c13
          clear c13
          by_cases c14 : t134 = a0
          · rw [if_pos c14] at H
            have c14b0 : (t134 == a0) = true := beq_iff_eq.mpr c14
            have c14b1 : (t134 != a0) = false := bne_eq_false_iff_eq.mpr c14
            clear c14
            replace H := Option.bind_eq_some_iff.mp H
            obtain ⟨t137, A150, H⟩ := H
            replace H : (hyglaw6_FltLeast.j0 k a0 a1 t133 t134 t137) = some r := H
            have A15 := Aside0.mk A150
            clear A150
            have H' := Aside0.mk H
            clear H
            go_wp2_with (first | (go_at_call 19; (with_reducible refine (flt_Less.calls t134 t133 t137 _ A15.out).mono ?_); rintro e w' ⟨rfl, ⟨nd, rfl⟩⟩))
            go_meet
            case rel => exact ⟨_, (t137), (by first | rfl | (simp; done) | (simp [*]; done)), H', ⟨by first | omega | exact Nat.le_refl _⟩, by repeat (first | exact Drawn0.refl _ | apply Drawn0.step)⟩
          · rw [if_neg c14] at H
            have c14b0 : (t134 == a0) = false := beq_eq_false_iff_ne.mpr c14
            have c14b1 : (t134 != a0) = true := bne_iff_ne.mpr c14
            by_cases c16 : t134 = a1
            · rw [if_pos c16] at H
              have c16b0 : (t134 == a1) = true := beq_iff_eq.mpr c16
              have c16b1 : (t134 != a1) = false := bne_eq_false_iff_eq.mpr c16
              clear c16
              replace H := Option.bind_eq_some_iff.mp H
              obtain ⟨t138, A170, H⟩ := H
              replace H : (hyglaw6_FltLeast.j0 k a0 a1 t133 t134 t138) = some r := H
              have A17 := Aside0.mk A170
              clear A170
              have H' := Aside0.mk H
              clear H
              go_wp2_with (first | (go_at_call 19; (with_reducible refine (flt_Less.calls t134 t133 t138 _ A17.out).mono ?_); rintro e w' ⟨rfl, ⟨nd, rfl⟩⟩))
              go_meet
              case rel => exact ⟨_, (t138), (by first | rfl | (simp; done) | (simp [*]; done)), H', ⟨by first | omega | exact Nat.le_refl _⟩, by repeat (first | exact Drawn0.refl _ | apply Drawn0.step)⟩
            · rw [if_neg c16] at H
              have c16b0 : (t134 == a1) = false := beq_eq_false_iff_ne.mpr c16
              have c16b1 : (t134 != a1) = true := bne_iff_ne.mpr c16
              have H' := Aside0.mk H
              clear H
              go_wp2
              go_meet
              case rel => exact ⟨_, (true), (by first | rfl | (simp; done) | (simp [*]; done)), H', ⟨by first | omega | exact Nat.le_refl _⟩, by repeat (first | exact Drawn0.refl _ | apply Drawn0.step)⟩
        · rw [if_neg c13] at H
          have c13b0 : (t133 == a1) = false := beq_eq_false_iff_ne.mpr c13
          have c13b1 : (t133 != a1) = true := bne_iff_ne.mpr c13
          have H' := Aside0.mk H
          clear H
          go_wp2
          go_meet
          case rel => exact ⟨_, (true), (by first | rfl | (simp; done) | (simp [*]; done)), H', ⟨by first | omega | exact Nat.le_refl _⟩, by repeat (first | exact Drawn0.refl _ | apply Drawn0.step)⟩
    case rest =>
      clear HC7
      try clear c1
      try clear c2
      try clear p2
      try clear c4
      try clear c8
      try clear c8b0
      try clear c8b1
      try clear c9
      try clear c9b0
      try clear c9b1
      try clear c11
      try clear c11b0
      try clear c11b1
      try clear c13
      try clear c13b0
      try clear c13b1
      try clear c14
      try clear c14b0
      try clear c14b1
      try clear c16
      try clear c16b0
      try clear c16b1
      obtain ⟨kq, x39_6, rfl, HA, HJ6, ⟨mc6, rfl⟩⟩ := hcut
      cases kq with
      | zero => exact absurd HA.out (by simp [hyglaw6_FltLeast.j0])
      | succ kj6 =>
        have H := HA.out
        clear HA
        simp only [hyglaw6_FltLeast.j0] at H
        by_cases c18 : x39_6 = true
        · subst c18
          have H1 : (some false) = some r := by rw [if_pos rfl] at H; exact H
          clear H
          have H := H1
          clear H1
          obtain rfl := Option.some.inj H
          go_wp2
          go_ret
          exact ⟨by first | rfl | (simp; done) | (simp [*]; done), by repeat (first | exact Drawn0.refl _ | apply Drawn0.step)⟩
        · replace c18 := Bool.eq_false_iff.mpr c18
          subst c18
          have H1 : ((flt_Class.f a0).bind fun t139 => ((flt_Class.f a1).bind fun t140 => (if t139 = 4 then (hyglaw6_FltLeast.j1 kj6 a0 a1 t133 t134 (t140 == 4) (!(t140 == 4))) else (hyglaw6_FltLeast.j1 kj6 a0 a1 t133 t134 (t140 == 4) false)))) = some r := by rw [if_neg (show ¬ (false = true) by decide)] at H; exact H
          clear H
          have H := H1
          clear H1
          replace H := Option.bind_eq_some_iff.mp H
          obtain ⟨t139, A190, H⟩ := H
          replace H : ((flt_Class.f a1).bind fun t140 => (if t139 = 4 then (hyglaw6_FltLeast.j1 kj6 a0 a1 t133 t134 (t140 == 4) (!(t140 == 4))) else (hyglaw6_FltLeast.j1 kj6 a0 a1 t133 t134 (t140 == 4) false))) = some r := H
          have A19 := Aside0.mk A190
          clear A190
          replace H := Option.bind_eq_some_iff.mp H
          obtain ⟨t140, A200, H⟩ := H
          replace H : (if t139 = 4 then (hyglaw6_FltLeast.j1 kj6 a0 a1 t133 t134 (t140 == 4) (!(t140 == 4))) else (hyglaw6_FltLeast.j1 kj6 a0 a1 t133 t134 (t140 == 4) false)) = some r := H
          have A20 := Aside0.mk A200
          clear A200
          have HC21 := Aside0.mk H
          clear H
          go_upto_region 7 with (first | ((with_reducible refine gate_callee (f := 22) rfl ?_); refine goesL_ (some 41) rfl rfl Try.func22 (by kernel_rfl) rfl #[.int .u64 a0] rfl (by (try simp only [List.map_toArray, List.map_cons, List.map_nil]); first | done | rfl | (simp only [List.length_drop, List.length_take]; rfl)) ?_; (with_reducible refine (flt_Class.calls a0 t139 _ A19.out).mono ?_); rintro e w' ⟨rfl, ⟨nd, rfl⟩⟩; refine ⟨_, rfl, ?_⟩) | ((with_reducible refine gate_callee (f := 22) rfl ?_); refine goesL_ (some 44) rfl rfl Try.func22 (by kernel_rfl) rfl #[.int .u64 a1] rfl (by (try simp only [List.map_toArray, List.map_cons, List.map_nil]); first | done | rfl | (simp only [List.length_drop, List.length_take]; rfl)) ?_; (with_reducible refine (flt_Class.calls a1 t140 _ A20.out).mono ?_); rintro e w' ⟨rfl, ⟨nd, rfl⟩⟩; refine ⟨_, rfl, ?_⟩))
          (try simp only [Act.put, List.setIfInBounds_toArray, List.set_cons_zero, List.set_cons_succ])
          go_cut [7, 46] (fun v7 v46 wc => v7 = .bool (t139 == 4) ∧ ∃ (kq : Nat) (x46_20 : Bool), v46 = .bool x46_20 ∧ Aside0 (hyglaw6_FltLeast.j1 kq a0 a1 t133 t134 (t140 == 4) x46_20 = some r) ∧ Aside0 (kq ≤ kj6) ∧ Drawn0 w wc)
          case first =>
            have H := HC21.out
            clear HC21
            by_cases c22 : t139 = 4
            · rw [if_pos c22] at H
              have c22b0 : (t139 == 4) = true := beq_iff_eq.mpr c22
              have c22b1 : (t139 != 4) = false := bne_eq_false_iff_eq.mpr c22
              clear c22
              (first | rw [c22b0] | (simp only [i64_w, i32_w]; rw [c22b0]) | skip)
              have H' := Aside0.mk H
              clear H
              go_wp2
              go_meet
              case rel => exact ⟨by rw [c22b0], _, (!(t140 == 4)), (by first | rfl | (simp; done) | (simp [*]; done)), H', ⟨by have := HJ6.out; first | omega | exact Nat.le_refl _⟩, by repeat (first | exact Drawn0.refl _ | apply Drawn0.step)⟩
            · rw [if_neg c22] at H
              have c22b0 : (t139 == 4) = false := beq_eq_false_iff_ne.mpr c22
              have c22b1 : (t139 != 4) = true := bne_iff_ne.mpr c22
              (first | rw [c22b0] | (simp only [i64_w, i32_w]; rw [c22b0]) | skip)
              have H' := Aside0.mk H
              clear H
              go_wp2
              go_meet
              case rel => exact ⟨by rw [c22b0], _, (false), (by first | rfl | (simp; done) | (simp [*]; done)), H', ⟨by have := HJ6.out; first | omega | exact Nat.le_refl _⟩, by repeat (first | exact Drawn0.refl _ | apply Drawn0.step)⟩
          case rest =>
            clear HC21
            try clear c1
            try clear c2
            try clear p2
            try clear c4
            try clear c6
            try clear c8
            try clear c8b0
            try clear c8b1
            try clear c9
            try clear c9b0
            try clear c9b1
            try clear c11
            try clear c11b0
            try clear c11b1
            try clear c13
            try clear c13b0
            try clear c13b1
            try clear c14
            try clear c14b0
            try clear c14b1
            try clear c16
            try clear c16b0
            try clear c16b1
            try clear c18
            try clear c22
            try clear c22b0
            try clear c22b1
            try clear p2
            obtain ⟨rfl, kq, x46_20, rfl, HA, HJ20, ⟨mc20, rfl⟩⟩ := hcut
            cases kq with
            | zero => exact absurd HA.out (by simp [hyglaw6_FltLeast.j1])
            | succ kj20 =>
              have H := HA.out
              clear HA
              simp only [hyglaw6_FltLeast.j1] at H
              by_cases c23 : x46_20 = true
              · subst c23
                have H1 : ((hyglaw6_first.f kj20).bind fun t141 => (if t141 = true then (if t133 = a1 then (some (t134 == a1)) else (some false)) else (some false))) = some r := by rw [if_pos rfl] at H; exact H
                clear H
                have H := H1
                clear H1
                replace H := Option.bind_eq_some_iff.mp H
                obtain ⟨t141, A240, H⟩ := H
                replace H : (if t141 = true then (if t133 = a1 then (some (t134 == a1)) else (some false)) else (some false)) = some r := H
                have A24 := Aside0.mk A240
                clear A240
                by_cases c25 : t141 = true
                · subst c25
                  have H1 : (if t133 = a1 then (some (t134 == a1)) else (some false)) = some r := by rw [if_pos rfl] at H; exact H
                  clear H
                  have H := H1
                  clear H1
                  by_cases c26 : t133 = a1
                  · rw [if_pos c26] at H
                    have c26b0 : (t133 == a1) = true := beq_iff_eq.mpr c26
                    have c26b1 : (t133 != a1) = false := bne_eq_false_iff_eq.mpr c26
                    clear c26
                    obtain rfl := Option.some.inj H
                    go_wp2_with (first | ((with_reducible refine gate_callee (f := 14) rfl ?_); refine goesL_ (some 52) rfl rfl Try.func14 (by kernel_rfl) rfl #[] rfl (by (try simp only [List.map_toArray, List.map_cons, List.map_nil]); first | done | rfl | (simp only [List.length_drop, List.length_take]; rfl)) ?_; (with_reducible refine (hyglaw6_first.calls kj20  true _ A24.out).mono ?_); rintro e w' ⟨rfl, ⟨nd, rfl⟩⟩; refine ⟨_, rfl, ?_⟩))
                    go_ret
                    exact ⟨by first | rfl | (simp; done) | (simp [*]; done), by repeat (first | exact Drawn0.refl _ | apply Drawn0.step)⟩
                  · rw [if_neg c26] at H
                    have c26b0 : (t133 == a1) = false := beq_eq_false_iff_ne.mpr c26
                    have c26b1 : (t133 != a1) = true := bne_iff_ne.mpr c26
                    obtain rfl := Option.some.inj H
                    go_wp2_with (first | ((with_reducible refine gate_callee (f := 14) rfl ?_); refine goesL_ (some 52) rfl rfl Try.func14 (by kernel_rfl) rfl #[] rfl (by (try simp only [List.map_toArray, List.map_cons, List.map_nil]); first | done | rfl | (simp only [List.length_drop, List.length_take]; rfl)) ?_; (with_reducible refine (hyglaw6_first.calls kj20  true _ A24.out).mono ?_); rintro e w' ⟨rfl, ⟨nd, rfl⟩⟩; refine ⟨_, rfl, ?_⟩))
                    go_ret
                    exact ⟨by first | rfl | (simp; done) | (simp [*]; done), by repeat (first | exact Drawn0.refl _ | apply Drawn0.step)⟩
                · replace c25 := Bool.eq_false_iff.mpr c25
                  subst c25
                  have H1 : (some false) = some r := by rw [if_neg (show ¬ (false = true) by decide)] at H; exact H
                  clear H
                  have H := H1
                  clear H1
                  obtain rfl := Option.some.inj H
                  go_wp2_with (first | ((with_reducible refine gate_callee (f := 14) rfl ?_); refine goesL_ (some 52) rfl rfl Try.func14 (by kernel_rfl) rfl #[] rfl (by (try simp only [List.map_toArray, List.map_cons, List.map_nil]); first | done | rfl | (simp only [List.length_drop, List.length_take]; rfl)) ?_; (with_reducible refine (hyglaw6_first.calls kj20  false _ A24.out).mono ?_); rintro e w' ⟨rfl, ⟨nd, rfl⟩⟩; refine ⟨_, rfl, ?_⟩))
                  go_ret
                  exact ⟨by first | rfl | (simp; done) | (simp [*]; done), by repeat (first | exact Drawn0.refl _ | apply Drawn0.step)⟩
              · replace c23 := Bool.eq_false_iff.mpr c23
                subst c23
                have H1 : (if (t140 == 4) = true then ((hyglaw6_first.f kj20).bind fun t142 => (if t142 = true then (if t133 = a0 then (some (t134 == a0)) else (some false)) else (some false))) else ((flt_Equal.f a0 a1).bind fun t143 => (if t143 = true then ((hyglaw6_first.f kj20).bind fun t144 => (if t144 = true then (if t133 = a0 then (some (t134 == a0)) else (some false)) else (some false))) else ((hyglaw6_first.f kj20).bind fun t145 => (if t145 = true then (if t133 = t134 then (some false) else ((flt_Less.f a0 t133).bind fun t146 => (if t146 = true then (some false) else ((flt_Less.f a1 t133).bind fun t147 => (if t147 = true then (some false) else ((flt_Less.f t134 a0).bind fun t148 => (if t148 = true then (some false) else ((flt_Less.f t134 a1).bind fun t149 => (some (!t149)))))))))) else (some false)))))) = some r := by rw [if_neg (show ¬ (false = true) by decide)] at H; exact H
                clear H
                have H := H1
                clear H1
                by_cases c27 : (t140 == 4) = true
                · rw [if_pos c27] at H
                  have c27b0 : (t140 == 4) = true := c27
                  (try (have c27b1 : decide (t140 = 4) = true := by simpa using c27))
                  (try (have c27b2 : (t140 == 4) = true := by simpa using c27))
                  clear c27
                  replace H := Option.bind_eq_some_iff.mp H
                  obtain ⟨t142, A280, H⟩ := H
                  replace H : (if t142 = true then (if t133 = a0 then (some (t134 == a0)) else (some false)) else (some false)) = some r := H
                  have A28 := Aside0.mk A280
                  clear A280
                  by_cases c29 : t142 = true
                  · subst c29
                    have H1 : (if t133 = a0 then (some (t134 == a0)) else (some false)) = some r := by rw [if_pos rfl] at H; exact H
                    clear H
                    have H := H1
                    clear H1
                    by_cases c30 : t133 = a0
                    · rw [if_pos c30] at H
                      have c30b0 : (t133 == a0) = true := beq_iff_eq.mpr c30
                      have c30b1 : (t133 != a0) = false := bne_eq_false_iff_eq.mpr c30
                      clear c30
                      obtain rfl := Option.some.inj H
                      go_wp2_with (first | ((with_reducible refine gate_callee (f := 14) rfl ?_); refine goesL_ (some 65) rfl rfl Try.func14 (by kernel_rfl) rfl #[] rfl (by (try simp only [List.map_toArray, List.map_cons, List.map_nil]); first | done | rfl | (simp only [List.length_drop, List.length_take]; rfl)) ?_; (with_reducible refine (hyglaw6_first.calls kj20  true _ A28.out).mono ?_); rintro e w' ⟨rfl, ⟨nd, rfl⟩⟩; refine ⟨_, rfl, ?_⟩))
                      go_ret
                      exact ⟨by first | rfl | (simp; done) | (simp [*]; done), by repeat (first | exact Drawn0.refl _ | apply Drawn0.step)⟩
                    · rw [if_neg c30] at H
                      have c30b0 : (t133 == a0) = false := beq_eq_false_iff_ne.mpr c30
                      have c30b1 : (t133 != a0) = true := bne_iff_ne.mpr c30
                      obtain rfl := Option.some.inj H
                      go_wp2_with (first | ((with_reducible refine gate_callee (f := 14) rfl ?_); refine goesL_ (some 65) rfl rfl Try.func14 (by kernel_rfl) rfl #[] rfl (by (try simp only [List.map_toArray, List.map_cons, List.map_nil]); first | done | rfl | (simp only [List.length_drop, List.length_take]; rfl)) ?_; (with_reducible refine (hyglaw6_first.calls kj20  true _ A28.out).mono ?_); rintro e w' ⟨rfl, ⟨nd, rfl⟩⟩; refine ⟨_, rfl, ?_⟩))
                      go_ret
                      exact ⟨by first | rfl | (simp; done) | (simp [*]; done), by repeat (first | exact Drawn0.refl _ | apply Drawn0.step)⟩
                  · replace c29 := Bool.eq_false_iff.mpr c29
                    subst c29
                    have H1 : (some false) = some r := by rw [if_neg (show ¬ (false = true) by decide)] at H; exact H
                    clear H
                    have H := H1
                    clear H1
                    obtain rfl := Option.some.inj H
                    go_wp2_with (first | ((with_reducible refine gate_callee (f := 14) rfl ?_); refine goesL_ (some 65) rfl rfl Try.func14 (by kernel_rfl) rfl #[] rfl (by (try simp only [List.map_toArray, List.map_cons, List.map_nil]); first | done | rfl | (simp only [List.length_drop, List.length_take]; rfl)) ?_; (with_reducible refine (hyglaw6_first.calls kj20  false _ A28.out).mono ?_); rintro e w' ⟨rfl, ⟨nd, rfl⟩⟩; refine ⟨_, rfl, ?_⟩))
                    go_ret
                    exact ⟨by first | rfl | (simp; done) | (simp [*]; done), by repeat (first | exact Drawn0.refl _ | apply Drawn0.step)⟩
                · rw [if_neg c27] at H
                  have c27b0 : (t140 == 4) = false := by simpa using c27
                  (try (have c27b1 : decide (t140 = 4) = false := by simpa using c27))
                  (try (have c27b2 : (t140 == 4) = false := by simpa using c27))
                  (try (have c27b3 : ¬ (t140 = 4) := by simpa using c27))
                  clear c27
                  replace H := Option.bind_eq_some_iff.mp H
                  obtain ⟨t143, A310, H⟩ := H
                  replace H : (if t143 = true then ((hyglaw6_first.f kj20).bind fun t144 => (if t144 = true then (if t133 = a0 then (some (t134 == a0)) else (some false)) else (some false))) else ((hyglaw6_first.f kj20).bind fun t145 => (if t145 = true then (if t133 = t134 then (some false) else ((flt_Less.f a0 t133).bind fun t146 => (if t146 = true then (some false) else ((flt_Less.f a1 t133).bind fun t147 => (if t147 = true then (some false) else ((flt_Less.f t134 a0).bind fun t148 => (if t148 = true then (some false) else ((flt_Less.f t134 a1).bind fun t149 => (some (!t149)))))))))) else (some false)))) = some r := H
                  have A31 := Aside0.mk A310
                  clear A310
                  by_cases c32 : t143 = true
                  · subst c32
                    have H1 : ((hyglaw6_first.f kj20).bind fun t144 => (if t144 = true then (if t133 = a0 then (some (t134 == a0)) else (some false)) else (some false))) = some r := by rw [if_pos rfl] at H; exact H
                    clear H
                    have H := H1
                    clear H1
                    replace H := Option.bind_eq_some_iff.mp H
                    obtain ⟨t144, A330, H⟩ := H
                    replace H : (if t144 = true then (if t133 = a0 then (some (t134 == a0)) else (some false)) else (some false)) = some r := H
                    have A33 := Aside0.mk A330
                    clear A330
                    by_cases c34 : t144 = true
                    · subst c34
                      have H1 : (if t133 = a0 then (some (t134 == a0)) else (some false)) = some r := by rw [if_pos rfl] at H; exact H
                      clear H
                      have H := H1
                      clear H1
                      by_cases c35 : t133 = a0
                      · rw [if_pos c35] at H
                        have c35b0 : (t133 == a0) = true := beq_iff_eq.mpr c35
                        have c35b1 : (t133 != a0) = false := bne_eq_false_iff_eq.mpr c35
                        clear c35
                        obtain rfl := Option.some.inj H
                        go_wp2_with (first | ((with_reducible refine gate_callee (f := 21) rfl ?_); refine goesL_ (some 79) rfl rfl Try.func21 (by kernel_rfl) rfl #[.int .u64 a0, .int .u64 a1] rfl (by (try simp only [List.map_toArray, List.map_cons, List.map_nil]); first | done | rfl | (simp only [List.length_drop, List.length_take]; rfl)) ?_; (with_reducible refine (flt_Equal.calls a0 a1 true _ A31.out).mono ?_); rintro e w' ⟨rfl, ⟨nd, rfl⟩⟩; refine ⟨_, rfl, ?_⟩) | ((with_reducible refine gate_callee (f := 14) rfl ?_); refine goesL_ (some 80) rfl rfl Try.func14 (by kernel_rfl) rfl #[] rfl (by (try simp only [List.map_toArray, List.map_cons, List.map_nil]); first | done | rfl | (simp only [List.length_drop, List.length_take]; rfl)) ?_; (with_reducible refine (hyglaw6_first.calls kj20  true _ A33.out).mono ?_); rintro e w' ⟨rfl, ⟨nd, rfl⟩⟩; refine ⟨_, rfl, ?_⟩))
                        go_ret
                        exact ⟨by first | rfl | (simp; done) | (simp [*]; done), by repeat (first | exact Drawn0.refl _ | apply Drawn0.step)⟩
                      · rw [if_neg c35] at H
                        have c35b0 : (t133 == a0) = false := beq_eq_false_iff_ne.mpr c35
                        have c35b1 : (t133 != a0) = true := bne_iff_ne.mpr c35
                        obtain rfl := Option.some.inj H
                        go_wp2_with (first | ((with_reducible refine gate_callee (f := 21) rfl ?_); refine goesL_ (some 79) rfl rfl Try.func21 (by kernel_rfl) rfl #[.int .u64 a0, .int .u64 a1] rfl (by (try simp only [List.map_toArray, List.map_cons, List.map_nil]); first | done | rfl | (simp only [List.length_drop, List.length_take]; rfl)) ?_; (with_reducible refine (flt_Equal.calls a0 a1 true _ A31.out).mono ?_); rintro e w' ⟨rfl, ⟨nd, rfl⟩⟩; refine ⟨_, rfl, ?_⟩) | ((with_reducible refine gate_callee (f := 14) rfl ?_); refine goesL_ (some 80) rfl rfl Try.func14 (by kernel_rfl) rfl #[] rfl (by (try simp only [List.map_toArray, List.map_cons, List.map_nil]); first | done | rfl | (simp only [List.length_drop, List.length_take]; rfl)) ?_; (with_reducible refine (hyglaw6_first.calls kj20  true _ A33.out).mono ?_); rintro e w' ⟨rfl, ⟨nd, rfl⟩⟩; refine ⟨_, rfl, ?_⟩))
                        go_ret
                        exact ⟨by first | rfl | (simp; done) | (simp [*]; done), by repeat (first | exact Drawn0.refl _ | apply Drawn0.step)⟩
                    · replace c34 := Bool.eq_false_iff.mpr c34
                      subst c34
                      have H1 : (some false) = some r := by rw [if_neg (show ¬ (false = true) by decide)] at H; exact H
                      clear H
                      have H := H1
                      clear H1
                      obtain rfl := Option.some.inj H
                      go_wp2_with (first | ((with_reducible refine gate_callee (f := 21) rfl ?_); refine goesL_ (some 79) rfl rfl Try.func21 (by kernel_rfl) rfl #[.int .u64 a0, .int .u64 a1] rfl (by (try simp only [List.map_toArray, List.map_cons, List.map_nil]); first | done | rfl | (simp only [List.length_drop, List.length_take]; rfl)) ?_; (with_reducible refine (flt_Equal.calls a0 a1 true _ A31.out).mono ?_); rintro e w' ⟨rfl, ⟨nd, rfl⟩⟩; refine ⟨_, rfl, ?_⟩) | ((with_reducible refine gate_callee (f := 14) rfl ?_); refine goesL_ (some 80) rfl rfl Try.func14 (by kernel_rfl) rfl #[] rfl (by (try simp only [List.map_toArray, List.map_cons, List.map_nil]); first | done | rfl | (simp only [List.length_drop, List.length_take]; rfl)) ?_; (with_reducible refine (hyglaw6_first.calls kj20  false _ A33.out).mono ?_); rintro e w' ⟨rfl, ⟨nd, rfl⟩⟩; refine ⟨_, rfl, ?_⟩))
                      go_ret
                      exact ⟨by first | rfl | (simp; done) | (simp [*]; done), by repeat (first | exact Drawn0.refl _ | apply Drawn0.step)⟩
                  · replace c32 := Bool.eq_false_iff.mpr c32
                    subst c32
                    have H1 : ((hyglaw6_first.f kj20).bind fun t145 => (if t145 = true then (if t133 = t134 then (some false) else ((flt_Less.f a0 t133).bind fun t146 => (if t146 = true then (some false) else ((flt_Less.f a1 t133).bind fun t147 => (if t147 = true then (some false) else ((flt_Less.f t134 a0).bind fun t148 => (if t148 = true then (some false) else ((flt_Less.f t134 a1).bind fun t149 => (some (!t149)))))))))) else (some false))) = some r := by rw [if_neg (show ¬ (false = true) by decide)] at H; exact H
                    clear H
                    have H := H1
                    clear H1
                    replace H := Option.bind_eq_some_iff.mp H
                    obtain ⟨t145, A360, H⟩ := H
                    replace H : (if t145 = true then (if t133 = t134 then (some false) else ((flt_Less.f a0 t133).bind fun t146 => (if t146 = true then (some false) else ((flt_Less.f a1 t133).bind fun t147 => (if t147 = true then (some false) else ((flt_Less.f t134 a0).bind fun t148 => (if t148 = true then (some false) else ((flt_Less.f t134 a1).bind fun t149 => (some (!t149)))))))))) else (some false)) = some r := H
                    have A36 := Aside0.mk A360
                    clear A360
                    by_cases c37 : t145 = true
                    · subst c37
                      have H1 : (if t133 = t134 then (some false) else ((flt_Less.f a0 t133).bind fun t146 => (if t146 = true then (some false) else ((flt_Less.f a1 t133).bind fun t147 => (if t147 = true then (some false) else ((flt_Less.f t134 a0).bind fun t148 => (if t148 = true then (some false) else ((flt_Less.f t134 a1).bind fun t149 => (some (!t149)))))))))) = some r := by rw [if_pos rfl] at H; exact H
                      clear H
                      have H := H1
                      clear H1
                      by_cases c38 : t133 = t134
                      · rw [if_pos c38] at H
                        have c38b0 : (t133 == t134) = true := beq_iff_eq.mpr c38
                        have c38b1 : (t133 != t134) = false := bne_eq_false_iff_eq.mpr c38
                        clear c38
                        obtain rfl := Option.some.inj H
                        go_wp2_with (first | ((with_reducible refine gate_callee (f := 21) rfl ?_); refine goesL_ (some 79) rfl rfl Try.func21 (by kernel_rfl) rfl #[.int .u64 a0, .int .u64 a1] rfl (by (try simp only [List.map_toArray, List.map_cons, List.map_nil]); first | done | rfl | (simp only [List.length_drop, List.length_take]; rfl)) ?_; (with_reducible refine (flt_Equal.calls a0 a1 false _ A31.out).mono ?_); rintro e w' ⟨rfl, ⟨nd, rfl⟩⟩; refine ⟨_, rfl, ?_⟩) | ((with_reducible refine gate_callee (f := 14) rfl ?_); refine goesL_ (some 91) rfl rfl Try.func14 (by kernel_rfl) rfl #[] rfl (by (try simp only [List.map_toArray, List.map_cons, List.map_nil]); first | done | rfl | (simp only [List.length_drop, List.length_take]; rfl)) ?_; (with_reducible refine (hyglaw6_first.calls kj20  true _ A36.out).mono ?_); rintro e w' ⟨rfl, ⟨nd, rfl⟩⟩; refine ⟨_, rfl, ?_⟩))
                        go_ret
                        exact ⟨by first | rfl | (simp; done) | (simp [*]; done), by repeat (first | exact Drawn0.refl _ | apply Drawn0.step)⟩
                      · rw [if_neg c38] at H
                        have c38b0 : (t133 == t134) = false := beq_eq_false_iff_ne.mpr c38
                        have c38b1 : (t133 != t134) = true := bne_iff_ne.mpr c38
                        replace H := Option.bind_eq_some_iff.mp H
                        obtain ⟨t146, A390, H⟩ := H
                        replace H : (if t146 = true then (some false) else ((flt_Less.f a1 t133).bind fun t147 => (if t147 = true then (some false) else ((flt_Less.f t134 a0).bind fun t148 => (if t148 = true then (some false) else ((flt_Less.f t134 a1).bind fun t149 => (some (!t149)))))))) = some r := H
                        have A39 := Aside0.mk A390
                        clear A390
                        by_cases c40 : t146 = true
                        · subst c40
                          have H1 : (some false) = some r := by rw [if_pos rfl] at H; exact H
                          clear H
                          have H := H1
                          clear H1
                          obtain rfl := Option.some.inj H
                          go_wp2_with (first | ((with_reducible refine gate_callee (f := 21) rfl ?_); refine goesL_ (some 79) rfl rfl Try.func21 (by kernel_rfl) rfl #[.int .u64 a0, .int .u64 a1] rfl (by (try simp only [List.map_toArray, List.map_cons, List.map_nil]); first | done | rfl | (simp only [List.length_drop, List.length_take]; rfl)) ?_; (with_reducible refine (flt_Equal.calls a0 a1 false _ A31.out).mono ?_); rintro e w' ⟨rfl, ⟨nd, rfl⟩⟩; refine ⟨_, rfl, ?_⟩) | ((with_reducible refine gate_callee (f := 14) rfl ?_); refine goesL_ (some 91) rfl rfl Try.func14 (by kernel_rfl) rfl #[] rfl (by (try simp only [List.map_toArray, List.map_cons, List.map_nil]); first | done | rfl | (simp only [List.length_drop, List.length_take]; rfl)) ?_; (with_reducible refine (hyglaw6_first.calls kj20  true _ A36.out).mono ?_); rintro e w' ⟨rfl, ⟨nd, rfl⟩⟩; refine ⟨_, rfl, ?_⟩) | (go_at_call 19; (with_reducible refine (flt_Less.calls a0 t133 true _ A39.out).mono ?_); rintro e w' ⟨rfl, ⟨nd, rfl⟩⟩))
                          go_ret
                          exact ⟨by first | rfl | (simp; done) | (simp [*]; done), by repeat (first | exact Drawn0.refl _ | apply Drawn0.step)⟩
                        · replace c40 := Bool.eq_false_iff.mpr c40
                          subst c40
                          have H1 : ((flt_Less.f a1 t133).bind fun t147 => (if t147 = true then (some false) else ((flt_Less.f t134 a0).bind fun t148 => (if t148 = true then (some false) else ((flt_Less.f t134 a1).bind fun t149 => (some (!t149))))))) = some r := by rw [if_neg (show ¬ (false = true) by decide)] at H; exact H
                          clear H
                          have H := H1
                          clear H1
                          replace H := Option.bind_eq_some_iff.mp H
                          obtain ⟨t147, A410, H⟩ := H
                          replace H : (if t147 = true then (some false) else ((flt_Less.f t134 a0).bind fun t148 => (if t148 = true then (some false) else ((flt_Less.f t134 a1).bind fun t149 => (some (!t149)))))) = some r := H
                          have A41 := Aside0.mk A410
                          clear A410
                          by_cases c42 : t147 = true
                          · subst c42
                            have H1 : (some false) = some r := by rw [if_pos rfl] at H; exact H
                            clear H
                            have H := H1
                            clear H1
                            obtain rfl := Option.some.inj H
                            go_wp2_with (first | ((with_reducible refine gate_callee (f := 21) rfl ?_); refine goesL_ (some 79) rfl rfl Try.func21 (by kernel_rfl) rfl #[.int .u64 a0, .int .u64 a1] rfl (by (try simp only [List.map_toArray, List.map_cons, List.map_nil]); first | done | rfl | (simp only [List.length_drop, List.length_take]; rfl)) ?_; (with_reducible refine (flt_Equal.calls a0 a1 false _ A31.out).mono ?_); rintro e w' ⟨rfl, ⟨nd, rfl⟩⟩; refine ⟨_, rfl, ?_⟩) | ((with_reducible refine gate_callee (f := 14) rfl ?_); refine goesL_ (some 91) rfl rfl Try.func14 (by kernel_rfl) rfl #[] rfl (by (try simp only [List.map_toArray, List.map_cons, List.map_nil]); first | done | rfl | (simp only [List.length_drop, List.length_take]; rfl)) ?_; (with_reducible refine (hyglaw6_first.calls kj20  true _ A36.out).mono ?_); rintro e w' ⟨rfl, ⟨nd, rfl⟩⟩; refine ⟨_, rfl, ?_⟩) | (go_at_call 19; (with_reducible refine (flt_Less.calls a0 t133 false _ A39.out).mono ?_); rintro e w' ⟨rfl, ⟨nd, rfl⟩⟩) | (go_at_call 19; (with_reducible refine (flt_Less.calls a1 t133 true _ A41.out).mono ?_); rintro e w' ⟨rfl, ⟨nd, rfl⟩⟩))
                            go_ret
                            exact ⟨by first | rfl | (simp; done) | (simp [*]; done), by repeat (first | exact Drawn0.refl _ | apply Drawn0.step)⟩
                          · replace c42 := Bool.eq_false_iff.mpr c42
                            subst c42
                            have H1 : ((flt_Less.f t134 a0).bind fun t148 => (if t148 = true then (some false) else ((flt_Less.f t134 a1).bind fun t149 => (some (!t149))))) = some r := by rw [if_neg (show ¬ (false = true) by decide)] at H; exact H
                            clear H
                            have H := H1
                            clear H1
                            replace H := Option.bind_eq_some_iff.mp H
                            obtain ⟨t148, A430, H⟩ := H
                            replace H : (if t148 = true then (some false) else ((flt_Less.f t134 a1).bind fun t149 => (some (!t149)))) = some r := H
                            have A43 := Aside0.mk A430
                            clear A430
                            by_cases c44 : t148 = true
                            · subst c44
                              have H1 : (some false) = some r := by rw [if_pos rfl] at H; exact H
                              clear H
                              have H := H1
                              clear H1
                              obtain rfl := Option.some.inj H
                              go_wp2_with (first | ((with_reducible refine gate_callee (f := 21) rfl ?_); refine goesL_ (some 79) rfl rfl Try.func21 (by kernel_rfl) rfl #[.int .u64 a0, .int .u64 a1] rfl (by (try simp only [List.map_toArray, List.map_cons, List.map_nil]); first | done | rfl | (simp only [List.length_drop, List.length_take]; rfl)) ?_; (with_reducible refine (flt_Equal.calls a0 a1 false _ A31.out).mono ?_); rintro e w' ⟨rfl, ⟨nd, rfl⟩⟩; refine ⟨_, rfl, ?_⟩) | ((with_reducible refine gate_callee (f := 14) rfl ?_); refine goesL_ (some 91) rfl rfl Try.func14 (by kernel_rfl) rfl #[] rfl (by (try simp only [List.map_toArray, List.map_cons, List.map_nil]); first | done | rfl | (simp only [List.length_drop, List.length_take]; rfl)) ?_; (with_reducible refine (hyglaw6_first.calls kj20  true _ A36.out).mono ?_); rintro e w' ⟨rfl, ⟨nd, rfl⟩⟩; refine ⟨_, rfl, ?_⟩) | (go_at_call 19; (with_reducible refine (flt_Less.calls a0 t133 false _ A39.out).mono ?_); rintro e w' ⟨rfl, ⟨nd, rfl⟩⟩) | (go_at_call 19; (with_reducible refine (flt_Less.calls a1 t133 false _ A41.out).mono ?_); rintro e w' ⟨rfl, ⟨nd, rfl⟩⟩) | (go_at_call 19; (with_reducible refine (flt_Less.calls t134 a0 true _ A43.out).mono ?_); rintro e w' ⟨rfl, ⟨nd, rfl⟩⟩))
                              go_ret
                              exact ⟨by first | rfl | (simp; done) | (simp [*]; done), by repeat (first | exact Drawn0.refl _ | apply Drawn0.step)⟩
                            · replace c44 := Bool.eq_false_iff.mpr c44
                              subst c44
                              have H1 : ((flt_Less.f t134 a1).bind fun t149 => (some (!t149))) = some r := by rw [if_neg (show ¬ (false = true) by decide)] at H; exact H
                              clear H
                              have H := H1
                              clear H1
                              replace H := Option.bind_eq_some_iff.mp H
                              obtain ⟨t149, A450, H⟩ := H
                              replace H : (some (!t149)) = some r := H
                              have A45 := Aside0.mk A450
                              clear A450
                              obtain rfl := Option.some.inj H
                              go_wp2_with (first | ((with_reducible refine gate_callee (f := 21) rfl ?_); refine goesL_ (some 79) rfl rfl Try.func21 (by kernel_rfl) rfl #[.int .u64 a0, .int .u64 a1] rfl (by (try simp only [List.map_toArray, List.map_cons, List.map_nil]); first | done | rfl | (simp only [List.length_drop, List.length_take]; rfl)) ?_; (with_reducible refine (flt_Equal.calls a0 a1 false _ A31.out).mono ?_); rintro e w' ⟨rfl, ⟨nd, rfl⟩⟩; refine ⟨_, rfl, ?_⟩) | ((with_reducible refine gate_callee (f := 14) rfl ?_); refine goesL_ (some 91) rfl rfl Try.func14 (by kernel_rfl) rfl #[] rfl (by (try simp only [List.map_toArray, List.map_cons, List.map_nil]); first | done | rfl | (simp only [List.length_drop, List.length_take]; rfl)) ?_; (with_reducible refine (hyglaw6_first.calls kj20  true _ A36.out).mono ?_); rintro e w' ⟨rfl, ⟨nd, rfl⟩⟩; refine ⟨_, rfl, ?_⟩) | (go_at_call 19; (with_reducible refine (flt_Less.calls a0 t133 false _ A39.out).mono ?_); rintro e w' ⟨rfl, ⟨nd, rfl⟩⟩) | (go_at_call 19; (with_reducible refine (flt_Less.calls a1 t133 false _ A41.out).mono ?_); rintro e w' ⟨rfl, ⟨nd, rfl⟩⟩) | (go_at_call 19; (with_reducible refine (flt_Less.calls t134 a0 false _ A43.out).mono ?_); rintro e w' ⟨rfl, ⟨nd, rfl⟩⟩) | (go_at_call 19; (with_reducible refine (flt_Less.calls t134 a1 t149 _ A45.out).mono ?_); rintro e w' ⟨rfl, ⟨nd, rfl⟩⟩))
                              go_ret
                              exact ⟨by first | rfl | (simp; done) | (simp [*]; done), by repeat (first | exact Drawn0.refl _ | apply Drawn0.step)⟩
                    · replace c37 := Bool.eq_false_iff.mpr c37
                      subst c37
                      have H1 : (some false) = some r := by rw [if_neg (show ¬ (false = true) by decide)] at H; exact H
                      clear H
                      have H := H1
                      clear H1
                      obtain rfl := Option.some.inj H
                      go_wp2_with (first | ((with_reducible refine gate_callee (f := 21) rfl ?_); refine goesL_ (some 79) rfl rfl Try.func21 (by kernel_rfl) rfl #[.int .u64 a0, .int .u64 a1] rfl (by (try simp only [List.map_toArray, List.map_cons, List.map_nil]); first | done | rfl | (simp only [List.length_drop, List.length_take]; rfl)) ?_; (with_reducible refine (flt_Equal.calls a0 a1 false _ A31.out).mono ?_); rintro e w' ⟨rfl, ⟨nd, rfl⟩⟩; refine ⟨_, rfl, ?_⟩) | ((with_reducible refine gate_callee (f := 14) rfl ?_); refine goesL_ (some 91) rfl rfl Try.func14 (by kernel_rfl) rfl #[] rfl (by (try simp only [List.map_toArray, List.map_cons, List.map_nil]); first | done | rfl | (simp only [List.length_drop, List.length_take]; rfl)) ?_; (with_reducible refine (hyglaw6_first.calls kj20  false _ A36.out).mono ?_); rintro e w' ⟨rfl, ⟨nd, rfl⟩⟩; refine ⟨_, rfl, ?_⟩))
                      go_ret
                      exact ⟨by first | rfl | (simp; done) | (simp [*]; done), by repeat (first | exact Drawn0.refl _ | apply Drawn0.step)⟩
  · replace c4 := Bool.eq_false_iff.mpr c4
    subst c4
    have H1 : (some false) = some r := by rw [if_neg (show ¬ (false = true) by decide)] at H; exact H
    clear H
    have H := H1
    clear H1
    obtain rfl := Option.some.inj H
    go_enter Try.func8, Try.ntmps8
    go_wp2_with (first | ((with_reducible refine gate_callee (f := 14) rfl ?_); refine goesL_ (some 9) rfl rfl Try.func14 (by kernel_rfl) rfl #[] rfl (by (try simp only [List.map_toArray, List.map_cons, List.map_nil]); first | done | rfl | (simp only [List.length_drop, List.length_take]; rfl)) ?_; (with_reducible refine (hyglaw6_first.calls k  false _ A3.out).mono ?_); rintro e w' ⟨rfl, ⟨nd, rfl⟩⟩; refine ⟨_, rfl, ?_⟩))
    go_ret
    exact ⟨by first | rfl | (simp; done) | (simp [*]; done), by repeat (first | exact Drawn0.refl _ | apply Drawn0.step)⟩

/-- THE ONE PURE STATEMENT of hyglaw6_FltLeast: yours. -/
def hyglaw6_FltLeast.Pure : Prop := ∀ (a0 : Int) (a1 : Int), (Lit.int .u64 a0).wf = true → (Lit.int .u64 a1).wf = true → ∃ k, hyglaw6_FltLeast.f k a0 a1 = some true
theorem hyglaw6_FltLeast.walk (P : hyglaw6_FltLeast.Pure) (a0 : Int) (a1 : Int) (w : World) (w0 : (Lit.int .u64 a0).wf = true) (w1 : (Lit.int .u64 a1).wf = true) :
    Calls Try.prog 8 #[.int .u64 a0, .int .u64 a1] w fun e w' => e = .returned (.bool true) ∧ Below w.heap.size w w' := by
  obtain ⟨k, h⟩ := P a0 a1 w0 w1
  refine (hyglaw6_FltLeast.calls k a0 a1 true w h).mono ?_
  rintro e w' ⟨rfl, hd⟩
  exact ⟨rfl, hd.below⟩

end Go.Proofs.Ytmljncgglpckcaa.PFltLeast
