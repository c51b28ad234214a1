-- Made by a program of this session, after the guide's print, out of the translation. Lean checks it.
import Derived.Test.YtmljncgglpckcaaPFltTellsx0
import Derived.Test.YtmljncgglpckcaaPFltTellsx1
import Derived.Test.YtmljncgglpckcaaPFltTellsx2
namespace Go.Proofs.Ytmljncgglpckcaa.PFltTells
open Go.RowKit Go.Proofs.YtmljncgglpckcaaW.PrintWords Go.Proofs.YtmljncgglpckcaaW.PrintLast Go.Proofs.YtmljncgglpckcaaW.PrintMore
attribute [local go_sem] max2_int min2_int max_two min_two max_three min_three max_four min_four   -- for this text's walks alone
set_option linter.unusedVariables false
set_option linter.unusedSimpArgs false

/-! ### hygref6_Equal: function 32 -/
def hygref6_Equal.f (k : Nat) (a0 : Int) (a1 : Int) : Option (Bool) := (hygref6_Class.f k a0).bind fun t144 => (if t144 = 4 then (some false) else ((hygref6_Class.f k a1).bind fun t145 => (if t145 = 4 then (some false) else (if a0 = a1 then (some true) else ((hygref6_size.f a0).bind fun t146 => (if t146 = 0 then ((hygref6_size.f a1).bind fun t147 => (some (t147 == 0))) else (some false)))))))
theorem hygref6_Equal.mono : ∀ a0 a1 k, LeO (hygref6_Equal.f k a0 a1) (hygref6_Equal.f (k + 1) a0 a1) := by
  intro a0 a1 k
  unfold hygref6_Equal.f
  repeat' first
      | (with_reducible exact hygref6_Class.mono _ _)
      | (with_reducible exact LeO.refl _)
      | (with_reducible exact LeO.none _)
      | (with_reducible refine LeO.ite ?_ ?_)
      | (with_reducible refine LeO.bind ?_ (fun _ => ?_))
      | exact hygref6_Class.mono _ _
      | exact LeO.none _
      | refine LeO.ite ?_ ?_
      | refine LeO.bind ?_ (fun _ => ?_)
set_option maxHeartbeats 8000000 in
set_option maxRecDepth 100000 in
theorem hygref6_Equal.calls (k : Nat) (a0 : Int) (a1 : Int) (r : Bool) (w : World) (h : hygref6_Equal.f k a0 a1 = some r) :
    Calls Try.prog 32 #[.int .u64 a0, .int .u64 a1] w fun e w' => e = .returned (.bool r) ∧ Drawn0 w w' := by
  have H : ((hygref6_Class.f k a0).bind fun t144 => (if t144 = 4 then (some false) else ((hygref6_Class.f k a1).bind fun t145 => (if t145 = 4 then (some false) else (if a0 = a1 then (some true) else ((hygref6_size.f a0).bind fun t146 => (if t146 = 0 then ((hygref6_size.f a1).bind fun t147 => (some (t147 == 0))) else (some false)))))))) = some r := h
  clear h
  replace H := Option.bind_eq_some_iff.mp H
  obtain ⟨t144, A30, H⟩ := H
  replace H : (if t144 = 4 then (some false) else ((hygref6_Class.f k a1).bind fun t145 => (if t145 = 4 then (some false) else (if a0 = a1 then (some true) else ((hygref6_size.f a0).bind fun t146 => (if t146 = 0 then ((hygref6_size.f a1).bind fun t147 => (some (t147 == 0))) else (some false))))))) = some r := H
  have A3 := Aside0.mk A30
  clear A30
  by_cases c4 : t144 = 4
  · rw [if_pos c4] at H
    have c4b0 : (t144 == 4) = true := beq_iff_eq.mpr c4
    have c4b1 : (t144 != 4) = false := bne_eq_false_iff_eq.mpr c4
    clear c4
    obtain rfl := Option.some.inj H
    go_enter Try.func32, Try.ntmps32
    go_wp2_with (first | ((with_reducible refine gate_callee (f := 30) rfl ?_); refine goesL_ (some 6) rfl rfl Try.func30 (by kernel_rfl) rfl #[.int .u64 a0] rfl (by (try simp only [List.map_toArray, List.map_cons, List.map_nil]); first | done | rfl | (simp only [List.length_drop, List.length_take]; rfl)) ?_; (with_reducible refine (hygref6_Class.calls k a0 t144 _ A3.out).mono ?_); rintro e w' ⟨rfl, ⟨nd, rfl⟩⟩; refine ⟨_, rfl, ?_⟩))
    go_ret
    exact ⟨by first | rfl | (simp; done) | (simp [*]; done), by repeat (first | exact Drawn0.refl _ | apply Drawn0.step)⟩
  · rw [if_neg c4] at H
    have c4b0 : (t144 == 4) = false := beq_eq_false_iff_ne.mpr c4
    have c4b1 : (t144 != 4) = true := bne_iff_ne.mpr c4
    replace H := Option.bind_eq_some_iff.mp H
    obtain ⟨t145, A50, H⟩ := H
    replace H : (if t145 = 4 then (some false) else (if a0 = a1 then (some true) else ((hygref6_size.f a0).bind fun t146 => (if t146 = 0 then ((hygref6_size.f a1).bind fun t147 => (some (t147 == 0))) else (some false))))) = some r := H
    have A5 := Aside0.mk A50
    clear A50
    by_cases c6 : t145 = 4
    · rw [if_pos c6] at H
      have c6b0 : (t145 == 4) = true := beq_iff_eq.mpr c6
      have c6b1 : (t145 != 4) = false := bne_eq_false_iff_eq.mpr c6
      clear c6
      obtain rfl := Option.some.inj H
      go_enter Try.func32, Try.ntmps32
      go_wp2_with (first | ((with_reducible refine gate_callee (f := 30) rfl ?_); refine goesL_ (some 6) rfl rfl Try.func30 (by kernel_rfl) rfl #[.int .u64 a0] rfl (by (try simp only [List.map_toArray, List.map_cons, List.map_nil]); first | done | rfl | (simp only [List.length_drop, List.length_take]; rfl)) ?_; (with_reducible refine (hygref6_Class.calls k a0 t144 _ A3.out).mono ?_); rintro e w' ⟨rfl, ⟨nd, rfl⟩⟩; refine ⟨_, rfl, ?_⟩) | (go_at_call 30; (with_reducible refine (hygref6_Class.calls k a1 t145 _ A5.out).mono ?_); rintro e w' ⟨rfl, ⟨nd, rfl⟩⟩))
      go_ret
      exact ⟨by first | rfl | (simp; done) | (simp [*]; done), by repeat (first | exact Drawn0.refl _ | apply Drawn0.step)⟩
    · rw [if_neg c6] at H
      have c6b0 : (t145 == 4) = false := beq_eq_false_iff_ne.mpr c6
      have c6b1 : (t145 != 4) = true := bne_iff_ne.mpr c6
      by_cases c7 : a0 = a1
      · rw [if_pos c7] at H
        have c7b0 : (a0 == a1) = true := beq_iff_eq.mpr c7
        have c7b1 : (a0 != a1) = false := bne_eq_false_iff_eq.mpr c7
        clear c7
        obtain rfl := Option.some.inj H
        go_enter Try.func32, Try.ntmps32
        go_wp2_with (first | ((with_reducible refine gate_callee (f := 30) rfl ?_); refine goesL_ (some 6) rfl rfl Try.func30 (by kernel_rfl) rfl #[.int .u64 a0] rfl (by (try simp only [List.map_toArray, List.map_cons, List.map_nil]); first | done | rfl | (simp only [List.length_drop, List.length_take]; rfl)) ?_; (with_reducible refine (hygref6_Class.calls k a0 t144 _ A3.out).mono ?_); rintro e w' ⟨rfl, ⟨nd, rfl⟩⟩; refine ⟨_, rfl, ?_⟩) | (go_at_call 30; (with_reducible refine (hygref6_Class.calls k a1 t145 _ A5.out).mono ?_); rintro e w' ⟨rfl, ⟨nd, rfl⟩⟩))
        go_ret
        exact ⟨by first | rfl | (simp; done) | (simp [*]; done), by repeat (first | exact Drawn0.refl _ | apply Drawn0.step)⟩
      · rw [if_neg c7] at H
        have c7b0 : (a0 == a1) = false := beq_eq_false_iff_ne.mpr c7
        have c7b1 : (a0 != a1) = true := bne_iff_ne.mpr c7
        replace H := Option.bind_eq_some_iff.mp H
        obtain ⟨t146, A80, H⟩ := H
        replace H : (if t146 = 0 then ((hygref6_size.f a1).bind fun t147 => (some (t147 == 0))) else (some false)) = some r := H
        have A8 := Aside0.mk A80
        clear A80
        by_cases c9 : t146 = 0
        · rw [if_pos c9] at H
          have c9b0 : (t146 == 0) = true := beq_iff_eq.mpr c9
          have c9b1 : (t146 != 0) = false := bne_eq_false_iff_eq.mpr c9
          clear c9
          replace H := Option.bind_eq_some_iff.mp H
          obtain ⟨t147, A100, H⟩ := H
          replace H : (some (t147 == 0)) = some r := H
          have A10 := Aside0.mk A100
          clear A100
          obtain rfl := Option.some.inj H
          go_enter Try.func32, Try.ntmps32
          go_wp2_with (first | ((with_reducible refine gate_callee (f := 30) rfl ?_); refine goesL_ (some 6) rfl rfl Try.func30 (by kernel_rfl) rfl #[.int .u64 a0] rfl (by (try simp only [List.map_toArray, List.map_cons, List.map_nil]); first | done | rfl | (simp only [List.length_drop, List.length_take]; rfl)) ?_; (with_reducible refine (hygref6_Class.calls k a0 t144 _ A3.out).mono ?_); rintro e w' ⟨rfl, ⟨nd, rfl⟩⟩; refine ⟨_, rfl, ?_⟩) | (go_at_call 30; (with_reducible refine (hygref6_Class.calls k a1 t145 _ A5.out).mono ?_); rintro e w' ⟨rfl, ⟨nd, rfl⟩⟩) | (go_at_call 52; (with_reducible refine (hygref6_size.calls a0 t146 _ A8.out).mono ?_); rintro e w' ⟨rfl, ⟨nd, rfl⟩⟩) | (go_at_call 52; (with_reducible refine (hygref6_size.calls a1 t147 _ A10.out).mono ?_); rintro e w' ⟨rfl, ⟨nd, rfl⟩⟩))
          go_ret
          exact ⟨by first | rfl | (simp; done) | (simp [*]; done), by repeat (first | exact Drawn0.refl _ | apply Drawn0.step)⟩
        · rw [if_neg c9] at H
          have c9b0 : (t146 == 0) = false := beq_eq_false_iff_ne.mpr c9
          have c9b1 : (t146 != 0) = true := bne_iff_ne.mpr c9
          obtain rfl := Option.some.inj H
          go_enter Try.func32, Try.ntmps32
          go_wp2_with (first | ((with_reducible refine gate_callee (f := 30) rfl ?_); refine goesL_ (some 6) rfl rfl Try.func30 (by kernel_rfl) rfl #[.int .u64 a0] rfl (by (try simp only [List.map_toArray, List.map_cons, List.map_nil]); first | done | rfl | (simp only [List.length_drop, List.length_take]; rfl)) ?_; (with_reducible refine (hygref6_Class.calls k a0 t144 _ A3.out).mono ?_); rintro e w' ⟨rfl, ⟨nd, rfl⟩⟩; refine ⟨_, rfl, ?_⟩) | (go_at_call 30; (with_reducible refine (hygref6_Class.calls k a1 t145 _ A5.out).mono ?_); rintro e w' ⟨rfl, ⟨nd, rfl⟩⟩) | (go_at_call 52; (with_reducible refine (hygref6_size.calls a0 t146 _ A8.out).mono ?_); rintro e w' ⟨rfl, ⟨nd, rfl⟩⟩))
          go_ret
          exact ⟨by first | rfl | (simp; done) | (simp [*]; done), by repeat (first | exact Drawn0.refl _ | apply Drawn0.step)⟩

/-! ### hygref6_Order: function 33 -/
mutual
def hygref6_Order.j0 : Nat → Int → Int → Bool → Option (Int)
  | 0, _, _, _ => none
  | k + 1, x0, x1, x9 => if x9 = true then (some (-1)) else ((hygref6_neg.f x0).bind fun t151 => (if t151 = true then ((hygref6_neg.f x1).bind fun t152 => (if t152 = true then ((hygref6_size.f x0).bind fun t153 => ((hygref6_size.f x1).bind fun t154 => (hygref6_Order.j1 k x0 x1 (decide (t153 > t154))))) else (hygref6_Order.j1 k x0 x1 false))) else (hygref6_Order.j1 k x0 x1 false)))
def hygref6_Order.j1 : Nat → Int → Int → Bool → Option (Int)
  | 0, _, _, _ => none
  | k + 1, x0, x1, x9 => if x9 = true then (some (-1)) else ((hygref6_neg.f x0).bind fun t155 => (if t155 = true then (some 1) else ((hygref6_neg.f x1).bind fun t156 => (if t156 = true then (some 1) else ((hygref6_size.f x0).bind fun t157 => ((hygref6_size.f x1).bind fun t158 => (if t157 < t158 then (some (-1)) else (some 1))))))))
end
def hygref6_Order.f (k : Nat) (a0 : Int) (a1 : Int) : Option (Int) := if a0 = a1 then (some 0) else ((hygref6_neg.f a0).bind fun t148 => ((hygref6_neg.f a1).bind fun t149 => (if (t148 != t149) = true then ((hygref6_neg.f a0).bind fun t150 => (hygref6_Order.j0 k a0 a1 t150)) else (hygref6_Order.j0 k a0 a1 false))))
theorem hygref6_Order.mono_l : ∀ k, (∀ y0 y1 y2, LeO (hygref6_Order.j0 k y0 y1 y2) (hygref6_Order.j0 (k + 1) y0 y1 y2)) ∧ (∀ y0 y1 y2, LeO (hygref6_Order.j1 k y0 y1 y2) (hygref6_Order.j1 (k + 1) y0 y1 y2))
  | 0 => ⟨fun _ _ _ r h => by simp [hygref6_Order.j0] at h, fun _ _ _ r h => by simp [hygref6_Order.j1] at h⟩
  | k + 1 => by
    obtain ⟨ih0, ih1⟩ := hygref6_Order.mono_l k
    refine ⟨?_, ?_⟩
    · intro y0 y1 y2
      unfold hygref6_Order.j0
      repeat' first
      | (with_reducible exact ih0 _ _ _)
      | (with_reducible exact ih1 _ _ _)
      | (with_reducible exact LeO.refl _)
      | (with_reducible exact LeO.none _)
      | (with_reducible refine LeO.ite ?_ ?_)
      | (with_reducible refine LeO.bind ?_ (fun _ => ?_))
      | exact ih0 _ _ _
      | exact ih1 _ _ _
      | exact LeO.none _
      | refine LeO.ite ?_ ?_
      | refine LeO.bind ?_ (fun _ => ?_)
    · intro y0 y1 y2
      unfold hygref6_Order.j1
      repeat' first
      | (with_reducible exact ih0 _ _ _)
      | (with_reducible exact ih1 _ _ _)
      | (with_reducible exact LeO.refl _)
      | (with_reducible exact LeO.none _)
      | (with_reducible refine LeO.ite ?_ ?_)
      | (with_reducible refine LeO.bind ?_ (fun _ => ?_))
      | exact ih0 _ _ _
      | exact ih1 _ _ _
      | exact LeO.none _
      | refine LeO.ite ?_ ?_
      | refine LeO.bind ?_ (fun _ => ?_)
theorem hygref6_Order.mono : ∀ a0 a1 k, LeO (hygref6_Order.f k a0 a1) (hygref6_Order.f (k + 1) a0 a1) := by
  intro a0 a1 k
  obtain ⟨ih0, ih1⟩ := hygref6_Order.mono_l k
  unfold hygref6_Order.f
  repeat' first
      | (with_reducible exact ih0 _ _ _)
      | (with_reducible exact ih1 _ _ _)
      | (with_reducible exact LeO.refl _)
      | (with_reducible exact LeO.none _)
      | (with_reducible refine LeO.ite ?_ ?_)
      | (with_reducible refine LeO.bind ?_ (fun _ => ?_))
      | exact ih0 _ _ _
      | exact ih1 _ _ _
      | exact LeO.none _
      | refine LeO.ite ?_ ?_
      | refine LeO.bind ?_ (fun _ => ?_)
set_option maxHeartbeats 8000000 in
set_option maxRecDepth 100000 in
theorem hygref6_Order.calls (k : Nat) (a0 : Int) (a1 : Int) (r : Int) (w : World) (h : hygref6_Order.f k a0 a1 = some r) :
    Calls Try.prog 33 #[.int .u64 a0, .int .u64 a1] w fun e w' => e = .returned (.int .i64 r) ∧ Drawn0 w w' := by
  have H : (if a0 = a1 then (some 0) else ((hygref6_neg.f a0).bind fun t148 => ((hygref6_neg.f a1).bind fun t149 => (if (t148 != t149) = true then ((hygref6_neg.f a0).bind fun t150 => (hygref6_Order.j0 k a0 a1 t150)) else (hygref6_Order.j0 k a0 a1 false))))) = some r := h
  clear h
  by_cases c3 : a0 = a1
  · rw [if_pos c3] at H
    have c3b0 : (a0 == a1) = true := beq_iff_eq.mpr c3
    have c3b1 : (a0 != a1) = false := bne_eq_false_iff_eq.mpr c3
    clear c3
    obtain rfl := Option.some.inj H
    go_enter Try.func33, Try.ntmps33
    go_wp2
    go_ret
    exact ⟨by first | rfl | (simp; done) | (simp [*]; done), by repeat (first | exact Drawn0.refl _ | apply Drawn0.step)⟩
  · rw [if_neg c3] at H
    have c3b0 : (a0 == a1) = false := beq_eq_false_iff_ne.mpr c3
    have c3b1 : (a0 != a1) = true := bne_iff_ne.mpr c3
    have HC4 := Aside0.mk H
    clear H
    go_enter Try.func33, Try.ntmps33
    go_upto_region 3 with (fail)
    go_cut [9] (fun v9 wc => ∃ (kq : Nat) (x9_3 : Bool), v9 = .bool x9_3 ∧ Aside0 (hygref6_Order.j0 kq a0 a1 x9_3 = some r) ∧ Aside0 (kq ≤ k) ∧ Drawn0 w wc)
    case first =>
      have H := HC4.out
      clear HC4
      replace H := Option.bind_eq_some_iff.mp H
      obtain ⟨t148, A50, H⟩ := H
      replace H : ((hygref6_neg.f a1).bind fun t149 => (if (t148 != t149) = true then ((hygref6_neg.f a0).bind fun t150 => (hygref6_Order.j0 k a0 a1 t150)) else (hygref6_Order.j0 k a0 a1 false))) = some r := H
      have A5 := Aside0.mk A50
      clear A50
      replace H := Option.bind_eq_some_iff.mp H
      obtain ⟨t149, A60, H⟩ := H
      replace H : (if (t148 != t149) = true then ((hygref6_neg.f a0).bind fun t150 => (hygref6_Order.j0 k a0 a1 t150)) else (hygref6_Order.j0 k a0 a1 false)) = some r := H
      have A6 := Aside0.mk A60
      clear A60
      by_cases c7 : (t148 != t149) = true
      · rw [if_pos c7] at H
        have c7b0 : (t148 != t149) = true := c7
        (try (have c7b1 : decide (t148 = t149) = false := by simpa using c7))
        (try (have c7b2 : (t148 == t149) = false := by simpa using c7))
        (try (have c7b3 : ¬ (t148 = t149) := by simpa using c7))
        clear c7
        (first | rw [c7b0] | (simp only [i64_w, i32_w]; rw [c7b0]) | skip)
        replace H := Option.bind_eq_some_iff.mp H
        obtain ⟨t150, A80, H⟩ := H
        replace H : (hygref6_Order.j0 k a0 a1 t150) = some r := H
        have A8 := Aside0.mk A80
        clear A80
        have H' := Aside0.mk H
        clear H
        go_wp2_with (first | ((with_reducible refine gate_callee (f := 44) rfl ?_); refine goesL_ (some 11) rfl rfl Try.func44 (by kernel_rfl) rfl #[.int .u64 a0] rfl (by (try simp only [List.map_toArray, List.map_cons, List.map_nil]); first | done | rfl | (simp only [List.length_drop, List.length_take]; rfl)) ?_; (with_reducible refine (hygref6_neg.calls a0 t148 _ A5.out).mono ?_); rintro e w' ⟨rfl, ⟨nd, rfl⟩⟩; refine ⟨_, rfl, ?_⟩) | ((with_reducible refine gate_callee (f := 44) rfl ?_); refine goesL_ (some 13) rfl rfl Try.func44 (by kernel_rfl) rfl #[.int .u64 a1] rfl (by (try simp only [List.map_toArray, List.map_cons, List.map_nil]); first | done | rfl | (simp only [List.length_drop, List.length_take]; rfl)) ?_; (with_reducible refine (hygref6_neg.calls a1 t149 _ A6.out).mono ?_); rintro e w' ⟨rfl, ⟨nd, rfl⟩⟩; refine ⟨_, rfl, ?_⟩) | (go_at_call 44; (with_reducible refine (hygref6_neg.calls a0 t150 _ A8.out).mono ?_); rintro e w' ⟨rfl, ⟨nd, rfl⟩⟩))
        go_meet
        case rel => exact ⟨_, (t150), (by first | rfl | (simp; done) | (simp [*]; done)), H', ⟨by first | omega | exact Nat.le_refl _⟩, by repeat (first | exact Drawn0.refl _ | apply Drawn0.step)⟩
      · rw [if_neg c7] at H
        have c7b0 : (t148 != t149) = false := by simpa using c7
        (try (have c7b1 : decide (t148 = t149) = true := by simpa using c7))
        (try (have c7b2 : (t148 == t149) = true := by simpa using c7))
        clear c7
        (first | rw [c7b0] | (simp only [i64_w, i32_w]; rw [c7b0]) | skip)
        have H' := Aside0.mk H
        clear H
        go_wp2_with (first | ((with_reducible refine gate_callee (f := 44) rfl ?_); refine goesL_ (some 11) rfl rfl Try.func44 (by kernel_rfl) rfl #[.int .u64 a0] rfl (by (try simp only [List.map_toArray, List.map_cons, List.map_nil]); first | done | rfl | (simp only [List.length_drop, List.length_take]; rfl)) ?_; (with_reducible refine (hygref6_neg.calls a0 t148 _ A5.out).mono ?_); rintro e w' ⟨rfl, ⟨nd, rfl⟩⟩; refine ⟨_, rfl, ?_⟩) | ((with_reducible refine gate_callee (f := 44) rfl ?_); refine goesL_ (some 13) rfl rfl Try.func44 (by kernel_rfl) rfl #[.int .u64 a1] rfl (by (try simp only [List.map_toArray, List.map_cons, List.map_nil]); first | done | rfl | (simp only [List.length_drop, List.length_take]; rfl)) ?_; (with_reducible refine (hygref6_neg.calls a1 t149 _ A6.out).mono ?_); rintro e w' ⟨rfl, ⟨nd, rfl⟩⟩; refine ⟨_, rfl, ?_⟩))
        go_meet
        case rel => exact ⟨_, (false), (by first | rfl | (simp; done) | (simp [*]; done)), H', ⟨by first | omega | exact Nat.le_refl _⟩, by repeat (first | exact Drawn0.refl _ | apply Drawn0.step)⟩
    case rest =>
      clear HC4
      try clear p2
      try clear c3
      try clear c3b0
      try clear c3b1
      try clear c4
      try clear c7
      try clear c7b0
      try clear c7b1
      try clear c7b2
      obtain ⟨kq, x9_3, rfl, HA, HJ3, ⟨mc3, rfl⟩⟩ := hcut
      cases kq with
      | zero => exact absurd HA.out (by simp [hygref6_Order.j0])
      | succ kj3 =>
        have H := HA.out
        clear HA
        simp only [hygref6_Order.j0] at H
        by_cases c9 : x9_3 = true
        · subst c9
          have H1 : (some (-1)) = some r := by rw [if_pos rfl] at H; exact H
          clear H
          have H := H1
          clear H1
          obtain rfl := Option.some.inj H
          go_wp2
          go_ret
          exact ⟨by first | rfl | (simp; done) | (simp [*]; done), by repeat (first | exact Drawn0.refl _ | apply Drawn0.step)⟩
        · replace c9 := Bool.eq_false_iff.mpr c9
          subst c9
          have H1 : ((hygref6_neg.f a0).bind fun t151 => (if t151 = true then ((hygref6_neg.f a1).bind fun t152 => (if t152 = true then ((hygref6_size.f a0).bind fun t153 => ((hygref6_size.f a1).bind fun t154 => (hygref6_Order.j1 kj3 a0 a1 (decide (t153 > t154))))) else (hygref6_Order.j1 kj3 a0 a1 false))) else (hygref6_Order.j1 kj3 a0 a1 false))) = some r := by rw [if_neg (show ¬ (false = true) by decide)] at H; exact H
          clear H
          have H := H1
          clear H1
          have HC10 := Aside0.mk H
          clear H
          go_upto_region 4 with (fail)
          go_cut [9] (fun v9 wc => ∃ (kq : Nat) (x9_9 : Bool), v9 = .bool x9_9 ∧ Aside0 (hygref6_Order.j1 kq a0 a1 x9_9 = some r) ∧ Aside0 (kq ≤ kj3) ∧ Drawn0 w wc)
          case first =>
            have H := HC10.out
            clear HC10
            replace H := Option.bind_eq_some_iff.mp H
            obtain ⟨t151, A110, H⟩ := H
            replace H : (if t151 = true then ((hygref6_neg.f a1).bind fun t152 => (if t152 = true then ((hygref6_size.f a0).bind fun t153 => ((hygref6_size.f a1).bind fun t154 => (hygref6_Order.j1 kj3 a0 a1 (decide (t153 > t154))))) else (hygref6_Order.j1 kj3 a0 a1 false))) else (hygref6_Order.j1 kj3 a0 a1 false)) = some r := H
            have A11 := Aside0.mk A110
            clear A110
            by_cases c12 : t151 = true
            · subst c12
              have H1 : ((hygref6_neg.f a1).bind fun t152 => (if t152 = true then ((hygref6_size.f a0).bind fun t153 => ((hygref6_size.f a1).bind fun t154 => (hygref6_Order.j1 kj3 a0 a1 (decide (t153 > t154))))) else (hygref6_Order.j1 kj3 a0 a1 false))) = some r := by rw [if_pos rfl] at H; exact H
              clear H
              have H := H1
              clear H1
              replace H := Option.bind_eq_some_iff.mp H
              obtain ⟨t152, A130, H⟩ := H
              replace H : (if t152 = true then ((hygref6_size.f a0).bind fun t153 => ((hygref6_size.f a1).bind fun t154 => (hygref6_Order.j1 kj3 a0 a1 (decide (t153 > t154))))) else (hygref6_Order.j1 kj3 a0 a1 false)) = some r := H
              have A13 := Aside0.mk A130
              clear A130
              by_cases c14 : t152 = true
              · subst c14
                have H1 : ((hygref6_size.f a0).bind fun t153 => ((hygref6_size.f a1).bind fun t154 => (hygref6_Order.j1 kj3 a0 a1 (decide (t153 > t154))))) = some r := by rw [if_pos rfl] at H; exact H
                clear H
                have H := H1
                clear H1
                replace H := Option.bind_eq_some_iff.mp H
                obtain ⟨t153, A150, H⟩ := H
                replace H : ((hygref6_size.f a1).bind fun t154 => (hygref6_Order.j1 kj3 a0 a1 (decide (t153 > t154)))) = some r := H
                have A15 := Aside0.mk A150
                clear A150
                replace H := Option.bind_eq_some_iff.mp H
                obtain ⟨t154, A160, H⟩ := H
                replace H : (hygref6_Order.j1 kj3 a0 a1 (decide (t153 > t154))) = some r := H
                have A16 := Aside0.mk A160
                clear A160
                have H' := Aside0.mk H
                clear H
                go_wp2_with (first | ((with_reducible refine gate_callee (f := 44) rfl ?_); refine goesL_ (some 20) rfl rfl Try.func44 (by kernel_rfl) rfl #[.int .u64 a0] rfl (by (try simp only [List.map_toArray, List.map_cons, List.map_nil]); first | done | rfl | (simp only [List.length_drop, List.length_take]; rfl)) ?_; (with_reducible refine (hygref6_neg.calls a0 true _ A11.out).mono ?_); rintro e w' ⟨rfl, ⟨nd, rfl⟩⟩; refine ⟨_, rfl, ?_⟩) | (go_at_call 44; (with_reducible refine (hygref6_neg.calls a1 true _ A13.out).mono ?_); rintro e w' ⟨rfl, ⟨nd, rfl⟩⟩) | (go_at_call 52; (with_reducible refine (hygref6_size.calls a0 t153 _ A15.out).mono ?_); rintro e w' ⟨rfl, ⟨nd, rfl⟩⟩) | (go_at_call 52; (with_reducible refine (hygref6_size.calls a1 t154 _ A16.out).mono ?_); rintro e w' ⟨rfl, ⟨nd, rfl⟩⟩))
                go_meet
                case rel => exact ⟨_, (decide (t153 > t154)), (by first | rfl | (simp; done) | (simp [*]; done)), H', ⟨by have := HJ3.out; first | omega | exact Nat.le_refl _⟩, by repeat (first | exact Drawn0.refl _ | apply Drawn0.step)⟩
              · replace c14 := Bool.eq_false_iff.mpr c14
                subst c14
                have H1 : (hygref6_Order.j1 kj3 a0 a1 false) = some r := by rw [if_neg (show ¬ (false = true) by decide)] at H; exact H
                clear H
                have H := H1
                clear H1
                have H' := Aside0.mk H
                clear H
                go_wp2_with (first | ((with_reducible refine gate_callee (f := 44) rfl ?_); refine goesL_ (some 20) rfl rfl Try.func44 (by kernel_rfl) rfl #[.int .u64 a0] rfl (by (try simp only [List.map_toArray, List.map_cons, List.map_nil]); first | done | rfl | (simp only [List.length_drop, List.length_take]; rfl)) ?_; (with_reducible refine (hygref6_neg.calls a0 true _ A11.out).mono ?_); rintro e w' ⟨rfl, ⟨nd, rfl⟩⟩; refine ⟨_, rfl, ?_⟩) | (go_at_call 44; (with_reducible refine (hygref6_neg.calls a1 false _ A13.out).mono ?_); rintro e w' ⟨rfl, ⟨nd, rfl⟩⟩))
                go_meet
                case rel => exact ⟨_, (false), (by first | rfl | (simp; done) | (simp [*]; done)), H', ⟨by have := HJ3.out; first | omega | exact Nat.le_refl _⟩, by repeat (first | exact Drawn0.refl _ | apply Drawn0.step)⟩
            · replace c12 := Bool.eq_false_iff.mpr c12
              subst c12
              have H1 : (hygref6_Order.j1 kj3 a0 a1 false) = some r := by rw [if_neg (show ¬ (false = true) by decide)] at H; exact H
              clear H
              have H := H1
              clear H1
              have H' := Aside0.mk H
              clear H
              go_wp2_with (first | ((with_reducible refine gate_callee (f := 44) rfl ?_); refine goesL_ (some 20) rfl rfl Try.func44 (by kernel_rfl) rfl #[.int .u64 a0] rfl (by (try simp only [List.map_toArray, List.map_cons, List.map_nil]); first | done | rfl | (simp only [List.length_drop, List.length_take]; rfl)) ?_; (with_reducible refine (hygref6_neg.calls a0 false _ A11.out).mono ?_); rintro e w' ⟨rfl, ⟨nd, rfl⟩⟩; refine ⟨_, rfl, ?_⟩))
              go_meet
              case rel => exact ⟨_, (false), (by first | rfl | (simp; done) | (simp [*]; done)), H', ⟨by have := HJ3.out; first | omega | exact Nat.le_refl _⟩, by repeat (first | exact Drawn0.refl _ | apply Drawn0.step)⟩
          case rest =>
            clear HC10
            try clear c1
            try clear p2
            try clear c3
            try clear c3b0
            try clear c3b1
            try clear c4
            try clear c7
            try clear c7b0
            try clear c7b1
            try clear c7b2
            try clear c9
            try clear c12
            try clear c14
            try clear p2
            obtain ⟨kq, x9_9, rfl, HA, HJ9, ⟨mc9, rfl⟩⟩ := hcut
            cases kq with
            | zero => exact absurd HA.out (by simp [hygref6_Order.j1])
            | succ kj9 =>
              have H := HA.out
              clear HA
              simp only [hygref6_Order.j1] at H
              by_cases c17 : x9_9 = true
              · subst c17
                have H1 : (some (-1)) = some r := by rw [if_pos rfl] at H; exact H
                clear H
                have H := H1
                clear H1
                obtain rfl := Option.some.inj H
                go_wp2
                go_ret
                exact ⟨by first | rfl | (simp; done) | (simp [*]; done), by repeat (first | exact Drawn0.refl _ | apply Drawn0.step)⟩
              · replace c17 := Bool.eq_false_iff.mpr c17
                subst c17
                have H1 : ((hygref6_neg.f a0).bind fun t155 => (if t155 = true then (some 1) else ((hygref6_neg.f a1).bind fun t156 => (if t156 = true then (some 1) else ((hygref6_size.f a0).bind fun t157 => ((hygref6_size.f a1).bind fun t158 => (if t157 < t158 then (some (-1)) else (some 1)))))))) = some r := by rw [if_neg (show ¬ (false = true) by decide)] at H; exact H
                clear H
                have H := H1
                clear H1
                replace H := Option.bind_eq_some_iff.mp H
                obtain ⟨t155, A180, H⟩ := H
                replace H : (if t155 = true then (some 1) else ((hygref6_neg.f a1).bind fun t156 => (if t156 = true then (some 1) else ((hygref6_size.f a0).bind fun t157 => ((hygref6_size.f a1).bind fun t158 => (if t157 < t158 then (some (-1)) else (some 1))))))) = some r := H
                have A18 := Aside0.mk A180
                clear A180
                by_cases c19 : t155 = true
                · subst c19
                  have H1 : (some 1) = some r := by rw [if_pos rfl] at H; exact H
                  clear H
                  have H := H1
                  clear H1
                  obtain rfl := Option.some.inj H
                  go_wp2_with (first | ((with_reducible refine gate_callee (f := 44) rfl ?_); refine goesL_ (some 33) rfl rfl Try.func44 (by kernel_rfl) rfl #[.int .u64 a0] rfl (by (try simp only [List.map_toArray, List.map_cons, List.map_nil]); first | done | rfl | (simp only [List.length_drop, List.length_take]; rfl)) ?_; (with_reducible refine (hygref6_neg.calls a0 true _ A18.out).mono ?_); rintro e w' ⟨rfl, ⟨nd, rfl⟩⟩; refine ⟨_, rfl, ?_⟩))
                  go_ret
                  exact ⟨by first | rfl | (simp; done) | (simp [*]; done), by repeat (first | exact Drawn0.refl _ | apply Drawn0.step)⟩
                · replace c19 := Bool.eq_false_iff.mpr c19
                  subst c19
                  have H1 : ((hygref6_neg.f a1).bind fun t156 => (if t156 = true then (some 1) else ((hygref6_size.f a0).bind fun t157 => ((hygref6_size.f a1).bind fun t158 => (if t157 < t158 then (some (-1)) else (some 1)))))) = some r := by rw [if_neg (show ¬ (false = true) by decide)] at H; exact H
                  clear H
                  have H := H1
                  clear H1
                  replace H := Option.bind_eq_some_iff.mp H
                  obtain ⟨t156, A200, H⟩ := H
                  replace H : (if t156 = true then (some 1) else ((hygref6_size.f a0).bind fun t157 => ((hygref6_size.f a1).bind fun t158 => (if t157 < t158 then (some (-1)) else (some 1))))) = some r := H
                  have A20 := Aside0.mk A200
                  clear A200
                  by_cases c21 : t156 = true
                  · subst c21
                    have H1 : (some 1) = some r := by rw [if_pos rfl] at H; exact H
                    clear H
                    have H := H1
                    clear H1
                    obtain rfl := Option.some.inj H
                    go_wp2_with (first | ((with_reducible refine gate_callee (f := 44) rfl ?_); refine goesL_ (some 33) rfl rfl Try.func44 (by kernel_rfl) rfl #[.int .u64 a0] rfl (by (try simp only [List.map_toArray, List.map_cons, List.map_nil]); first | done | rfl | (simp only [List.length_drop, List.length_take]; rfl)) ?_; (with_reducible refine (hygref6_neg.calls a0 false _ A18.out).mono ?_); rintro e w' ⟨rfl, ⟨nd, rfl⟩⟩; refine ⟨_, rfl, ?_⟩) | (go_at_call 44; (with_reducible refine (hygref6_neg.calls a1 true _ A20.out).mono ?_); rintro e w' ⟨rfl, ⟨nd, rfl⟩⟩))
                    go_ret
                    exact ⟨by first | rfl | (simp; done) | (simp [*]; done), by repeat (first | exact Drawn0.refl _ | apply Drawn0.step)⟩
                  · replace c21 := Bool.eq_false_iff.mpr c21
                    subst c21
                    have H1 : ((hygref6_size.f a0).bind fun t157 => ((hygref6_size.f a1).bind fun t158 => (if t157 < t158 then (some (-1)) else (some 1)))) = some r := by rw [if_neg (show ¬ (false = true) by decide)] at H; exact H
                    clear H
                    have H := H1
                    clear H1
                    replace H := Option.bind_eq_some_iff.mp H
                    obtain ⟨t157, A220, H⟩ := H
                    replace H : ((hygref6_size.f a1).bind fun t158 => (if t157 < t158 then (some (-1)) else (some 1))) = some r := H
                    have A22 := Aside0.mk A220
                    clear A220
                    replace H := Option.bind_eq_some_iff.mp H
                    obtain ⟨t158, A230, H⟩ := H
                    replace H : (if t157 < t158 then (some (-1)) else (some 1)) = some r := H
                    have A23 := Aside0.mk A230
                    clear A230
                    by_cases c24 : t157 < t158
                    · rw [if_pos c24] at H
                      have c24b0 : decide (t157 < t158) = true := decide_eq_true c24
                      clear c24
                      obtain rfl := Option.some.inj H
                      go_wp2_with (first | ((with_reducible refine gate_callee (f := 44) rfl ?_); refine goesL_ (some 33) rfl rfl Try.func44 (by kernel_rfl) rfl #[.int .u64 a0] rfl (by (try simp only [List.map_toArray, List.map_cons, List.map_nil]); first | done | rfl | (simp only [List.length_drop, List.length_take]; rfl)) ?_; (with_reducible refine (hygref6_neg.calls a0 false _ A18.out).mono ?_); rintro e w' ⟨rfl, ⟨nd, rfl⟩⟩; refine ⟨_, rfl, ?_⟩) | (go_at_call 44; (with_reducible refine (hygref6_neg.calls a1 false _ A20.out).mono ?_); rintro e w' ⟨rfl, ⟨nd, rfl⟩⟩) | (go_at_call 52; (with_reducible refine (hygref6_size.calls a0 t157 _ A22.out).mono ?_); rintro e w' ⟨rfl, ⟨nd, rfl⟩⟩) | (go_at_call 52; (with_reducible refine (hygref6_size.calls a1 t158 _ A23.out).mono ?_); rintro e w' ⟨rfl, ⟨nd, rfl⟩⟩))
                      go_ret
                      exact ⟨by first | rfl | (simp; done) | (simp [*]; done), by repeat (first | exact Drawn0.refl _ | apply Drawn0.step)⟩
                    · rw [if_neg c24] at H
                      have c24b0 : decide (t157 < t158) = false := decide_eq_false c24
                      clear c24
                      obtain rfl := Option.some.inj H
                      go_wp2_with (first | ((with_reducible refine gate_callee (f := 44) rfl ?_); refine goesL_ (some 33) rfl rfl Try.func44 (by kernel_rfl) rfl #[.int .u64 a0] rfl (by (try simp only [List.map_toArray, List.map_cons, List.map_nil]); first | done | rfl | (simp only [List.length_drop, List.length_take]; rfl)) ?_; (with_reducible refine (hygref6_neg.calls a0 false _ A18.out).mono ?_); rintro e w' ⟨rfl, ⟨nd, rfl⟩⟩; refine ⟨_, rfl, ?_⟩) | (go_at_call 44; (with_reducible refine (hygref6_neg.calls a1 false _ A20.out).mono ?_); rintro e w' ⟨rfl, ⟨nd, rfl⟩⟩) | (go_at_call 52; (with_reducible refine (hygref6_size.calls a0 t157 _ A22.out).mono ?_); rintro e w' ⟨rfl, ⟨nd, rfl⟩⟩) | (go_at_call 52; (with_reducible refine (hygref6_size.calls a1 t158 _ A23.out).mono ?_); rintro e w' ⟨rfl, ⟨nd, rfl⟩⟩))
                      go_ret
                      exact ⟨by first | rfl | (simp; done) | (simp [*]; done), by repeat (first | exact Drawn0.refl _ | apply Drawn0.step)⟩

/-! ### hygref6_Neg: function 34 -/
def hygref6_Neg.f (a0 : Int) : Option (Int) := some (Go.bits .xor .u64 a0 9223372036854775808)
set_option maxHeartbeats 8000000 in
set_option maxRecDepth 100000 in
theorem hygref6_Neg.calls (a0 : Int) (r : Int) (w : World) (h : hygref6_Neg.f a0 = some r) :
    Calls Try.prog 34 #[.int .u64 a0] w fun e w' => e = .returned (.int .u64 r) ∧ Drawn0 w w' := by
  have H : (some (Go.bits .xor .u64 a0 9223372036854775808)) = some r := h
  clear h
  obtain rfl := Option.some.inj H
  go_enter Try.func34, Try.ntmps34
  go_wp2
  go_ret
  exact ⟨by first | rfl | (simp; done) | (simp [*]; done), by repeat (first | exact Drawn0.refl _ | apply Drawn0.step)⟩

/-! ### hygref6_Min: function 35 -/
def hygref6_Min.f (k : Nat) (a0 : Int) (a1 : Int) : Option (Int) := (hygref6_Less.f k a1 a0).bind fun t159 => (if t159 = true then (some a1) else ((hygref6_Class.f k a0).bind fun t160 => (if t160 = 4 then ((hygref6_Class.f k a1).bind fun t161 => (if t161 = 4 then (some a0) else (some a1))) else (some a0))))
theorem hygref6_Min.mono : ∀ a0 a1 k, LeO (hygref6_Min.f k a0 a1) (hygref6_Min.f (k + 1) a0 a1) := by
  intro a0 a1 k
  unfold hygref6_Min.f
  repeat' first
      | (with_reducible exact hygref6_Class.mono _ _)
      | (with_reducible exact hygref6_Less.mono _ _ _)
      | (with_reducible exact LeO.refl _)
      | (with_reducible exact LeO.none _)
      | (with_reducible refine LeO.ite ?_ ?_)
      | (with_reducible refine LeO.bind ?_ (fun _ => ?_))
      | exact hygref6_Class.mono _ _
      | exact hygref6_Less.mono _ _ _
      | exact LeO.none _
      | refine LeO.ite ?_ ?_
      | refine LeO.bind ?_ (fun _ => ?_)
set_option maxHeartbeats 8000000 in
set_option maxRecDepth 100000 in
theorem hygref6_Min.calls (k : Nat) (a0 : Int) (a1 : Int) (r : Int) (w : World) (h : hygref6_Min.f k a0 a1 = some r) :
    Calls Try.prog 35 #[.int .u64 a0, .int .u64 a1] w fun e w' => e = .returned (.int .u64 r) ∧ Drawn0 w w' := by
  have H : ((hygref6_Less.f k a1 a0).bind fun t159 => (if t159 = true then (some a1) else ((hygref6_Class.f k a0).bind fun t160 => (if t160 = 4 then ((hygref6_Class.f k a1).bind fun t161 => (if t161 = 4 then (some a0) else (some a1))) else (some a0))))) = some r := h
  clear h
  replace H := Option.bind_eq_some_iff.mp H
  obtain ⟨t159, A30, H⟩ := H
  replace H : (if t159 = true then (some a1) else ((hygref6_Class.f k a0).bind fun t160 => (if t160 = 4 then ((hygref6_Class.f k a1).bind fun t161 => (if t161 = 4 then (some a0) else (some a1))) else (some a0)))) = some r := H
  have A3 := Aside0.mk A30
  clear A30
  by_cases c4 : t159 = true
  · subst c4
    have H1 : (some a1) = some r := by rw [if_pos rfl] at H; exact H
    clear H
    have H := H1
    clear H1
    obtain rfl := Option.some.inj H
    go_enter Try.func35, Try.ntmps35
    go_wp2_with (first | ((with_reducible refine gate_callee (f := 31) rfl ?_); refine goesL_ (some 7) rfl rfl Try.func31 (by kernel_rfl) rfl #[.int .u64 a1, .int .u64 a0] rfl (by (try simp only [List.map_toArray, List.map_cons, List.map_nil]); first | done | rfl | (simp only [List.length_drop, List.length_take]; rfl)) ?_; (with_reducible refine (hygref6_Less.calls k a1 a0 true _ A3.out).mono ?_); rintro e w' ⟨rfl, ⟨nd, rfl⟩⟩; refine ⟨_, rfl, ?_⟩))
    go_ret
    exact ⟨by first | rfl | (simp; done) | (simp [*]; done), by repeat (first | exact Drawn0.refl _ | apply Drawn0.step)⟩
  · replace c4 := Bool.eq_false_iff.mpr c4
    subst c4
    have H1 : ((hygref6_Class.f k a0).bind fun t160 => (if t160 = 4 then ((hygref6_Class.f k a1).bind fun t161 => (if t161 = 4 then (some a0) else (some a1))) else (some a0))) = some r := by rw [if_neg (show ¬ (false = true) by decide)] at H; exact H
    clear H
    have H := H1
    clear H1
    replace H := Option.bind_eq_some_iff.mp H
    obtain ⟨t160, A50, H⟩ := H
    replace H : (if t160 = 4 then ((hygref6_Class.f k a1).bind fun t161 => (if t161 = 4 then (some a0) else (some a1))) else (some a0)) = some r := H
    have A5 := Aside0.mk A50
    clear A50
    by_cases c6 : t160 = 4
    · rw [if_pos c6] at H
      have c6b0 : (t160 == 4) = true := beq_iff_eq.mpr c6
      have c6b1 : (t160 != 4) = false := bne_eq_false_iff_eq.mpr c6
      clear c6
      replace H := Option.bind_eq_some_iff.mp H
      obtain ⟨t161, A70, H⟩ := H
      replace H : (if t161 = 4 then (some a0) else (some a1)) = some r := H
      have A7 := Aside0.mk A70
      clear A70
      by_cases c8 : t161 = 4
      · rw [if_pos c8] at H
        have c8b0 : (t161 == 4) = true := beq_iff_eq.mpr c8
        have c8b1 : (t161 != 4) = false := bne_eq_false_iff_eq.mpr c8
        clear c8
        obtain rfl := Option.some.inj H
        go_enter Try.func35, Try.ntmps35
        go_wp2_with (first | ((with_reducible refine gate_callee (f := 31) rfl ?_); refine goesL_ (some 7) rfl rfl Try.func31 (by kernel_rfl) rfl #[.int .u64 a1, .int .u64 a0] rfl (by (try simp only [List.map_toArray, List.map_cons, List.map_nil]); first | done | rfl | (simp only [List.length_drop, List.length_take]; rfl)) ?_; (with_reducible refine (hygref6_Less.calls k a1 a0 false _ A3.out).mono ?_); rintro e w' ⟨rfl, ⟨nd, rfl⟩⟩; refine ⟨_, rfl, ?_⟩) | (go_at_call 30; (with_reducible refine (hygref6_Class.calls k a0 t160 _ A5.out).mono ?_); rintro e w' ⟨rfl, ⟨nd, rfl⟩⟩) | (go_at_call 30; (with_reducible refine (hygref6_Class.calls k a1 t161 _ A7.out).mono ?_); rintro e w' ⟨rfl, ⟨nd, rfl⟩⟩))
        go_ret
        exact ⟨by first | rfl | (simp; done) | (simp [*]; done), by repeat (first | exact Drawn0.refl _ | apply Drawn0.step)⟩
      · rw [if_neg c8] at H
        have c8b0 : (t161 == 4) = false := beq_eq_false_iff_ne.mpr c8
        have c8b1 : (t161 != 4) = true := bne_iff_ne.mpr c8
        obtain rfl := Option.some.inj H
        go_enter Try.func35, Try.ntmps35
        go_wp2_with (first | ((with_reducible refine gate_callee (f := 31) rfl ?_); refine goesL_ (some 7) rfl rfl Try.func31 (by kernel_rfl) rfl #[.int .u64 a1, .int .u64 a0] rfl (by (try simp only [List.map_toArray, List.map_cons, List.map_nil]); first | done | rfl | (simp only [List.length_drop, List.length_take]; rfl)) ?_; (with_reducible refine (hygref6_Less.calls k a1 a0 false _ A3.out).mono ?_); rintro e w' ⟨rfl, ⟨nd, rfl⟩⟩; refine ⟨_, rfl, ?_⟩) | (go_at_call 30; (with_reducible refine (hygref6_Class.calls k a0 t160 _ A5.out).mono ?_); rintro e w' ⟨rfl, ⟨nd, rfl⟩⟩) | (go_at_call 30; (with_reducible refine (hygref6_Class.calls k a1 t161 _ A7.out).mono ?_); rintro e w' ⟨rfl, ⟨nd, rfl⟩⟩))
        go_ret
        exact ⟨by first | rfl | (simp; done) | (simp [*]; done), by repeat (first | exact Drawn0.refl _ | apply Drawn0.step)⟩
    · rw [if_neg c6] at H
      have c6b0 : (t160 == 4) = false := beq_eq_false_iff_ne.mpr c6
      have c6b1 : (t160 != 4) = true := bne_iff_ne.mpr c6
      obtain rfl := Option.some.inj H
      go_enter Try.func35, Try.ntmps35
      go_wp2_with (first | ((with_reducible refine gate_callee (f := 31) rfl ?_); refine goesL_ (some 7) rfl rfl Try.func31 (by kernel_rfl) rfl #[.int .u64 a1, .int .u64 a0] rfl (by (try simp only [List.map_toArray, List.map_cons, List.map_nil]); first | done | rfl | (simp only [List.length_drop, List.length_take]; rfl)) ?_; (with_reducible refine (hygref6_Less.calls k a1 a0 false _ A3.out).mono ?_); rintro e w' ⟨rfl, ⟨nd, rfl⟩⟩; refine ⟨_, rfl, ?_⟩) | (go_at_call 30; (with_reducible refine (hygref6_Class.calls k a0 t160 _ A5.out).mono ?_); rintro e w' ⟨rfl, ⟨nd, rfl⟩⟩))
      go_ret
      exact ⟨by first | rfl | (simp; done) | (simp [*]; done), by repeat (first | exact Drawn0.refl _ | apply Drawn0.step)⟩

/-! ### hygref6_Max: function 36 -/
def hygref6_Max.f (k : Nat) (a0 : Int) (a1 : Int) : Option (Int) := (hygref6_Less.f k a0 a1).bind fun t162 => (if t162 = true then (some a1) else ((hygref6_Class.f k a0).bind fun t163 => (if t163 = 4 then ((hygref6_Class.f k a1).bind fun t164 => (if t164 = 4 then (some a0) else (some a1))) else (some a0))))
theorem hygref6_Max.mono : ∀ a0 a1 k, LeO (hygref6_Max.f k a0 a1) (hygref6_Max.f (k + 1) a0 a1) := by
  intro a0 a1 k
  unfold hygref6_Max.f
  repeat' first
      | (with_reducible exact hygref6_Class.mono _ _)
      | (with_reducible exact hygref6_Less.mono _ _ _)
      | (with_reducible exact LeO.refl _)
      | (with_reducible exact LeO.none _)
      | (with_reducible refine LeO.ite ?_ ?_)
      | (with_reducible refine LeO.bind ?_ (fun _ => ?_))
      | exact hygref6_Class.mono _ _
      | exact hygref6_Less.mono _ _ _
      | exact LeO.none _
      | refine LeO.ite ?_ ?_
      | refine LeO.bind ?_ (fun _ => ?_)
set_option maxHeartbeats 8000000 in
set_option maxRecDepth 100000 in
theorem hygref6_Max.calls (k : Nat) (a0 : Int) (a1 : Int) (r : Int) (w : World) (h : hygref6_Max.f k a0 a1 = some r) :
    Calls Try.prog 36 #[.int .u64 a0, .int .u64 a1] w fun e w' => e = .returned (.int .u64 r) ∧ Drawn0 w w' := by
  have H : ((hygref6_Less.f k a0 a1).bind fun t162 => (if t162 = true then (some a1) else ((hygref6_Class.f k a0).bind fun t163 => (if t163 = 4 then ((hygref6_Class.f k a1).bind fun t164 => (if t164 = 4 then (some a0) else (some a1))) else (some a0))))) = some r := h
  clear h
  replace H := Option.bind_eq_some_iff.mp H
  obtain ⟨t162, A30, H⟩ := H
  replace H : (if t162 = true then (some a1) else ((hygref6_Class.f k a0).bind fun t163 => (if t163 = 4 then ((hygref6_Class.f k a1).bind fun t164 => (if t164 = 4 then (some a0) else (some a1))) else (some a0)))) = some r := H
  have A3 := Aside0.mk A30
  clear A30
  by_cases c4 : t162 = true
  · subst c4
    have H1 : (some a1) = some r := by rw [if_pos rfl] at H; exact H
    clear H
    have H := H1
    clear H1
    obtain rfl := Option.some.inj H
    go_enter Try.func36, Try.ntmps36
    go_wp2_with (first | ((with_reducible refine gate_callee (f := 31) rfl ?_); refine goesL_ (some 7) rfl rfl Try.func31 (by kernel_rfl) rfl #[.int .u64 a0, .int .u64 a1] rfl (by (try simp only [List.map_toArray, List.map_cons, List.map_nil]); first | done | rfl | (simp only [List.length_drop, List.length_take]; rfl)) ?_; (with_reducible refine (hygref6_Less.calls k a0 a1 true _ A3.out).mono ?_); rintro e w' ⟨rfl, ⟨nd, rfl⟩⟩; refine ⟨_, rfl, ?_⟩))
    go_ret
    exact ⟨by first | rfl | (simp; done) | (simp [*]; done), by repeat (first | exact Drawn0.refl _ | apply Drawn0.step)⟩
  · replace c4 := Bool.eq_false_iff.mpr c4
    subst c4
    have H1 : ((hygref6_Class.f k a0).bind fun t163 => (if t163 = 4 then ((hygref6_Class.f k a1).bind fun t164 => (if t164 = 4 then (some a0) else (some a1))) else (some a0))) = some r := by rw [if_neg (show ¬ (false = true) by decide)] at H; exact H
    clear H
    have H := H1
    clear H1
    replace H := Option.bind_eq_some_iff.mp H
    obtain ⟨t163, A50, H⟩ := H
    replace H : (if t163 = 4 then ((hygref6_Class.f k a1).bind fun t164 => (if t164 = 4 then (some a0) else (some a1))) else (some a0)) = some r := H
    have A5 := Aside0.mk A50
    clear A50
    by_cases c6 : t163 = 4
    · rw [if_pos c6] at H
      have c6b0 : (t163 == 4) = true := beq_iff_eq.mpr c6
      have c6b1 : (t163 != 4) = false := bne_eq_false_iff_eq.mpr c6
      clear c6
      replace H := Option.bind_eq_some_iff.mp H
      obtain ⟨t164, A70, H⟩ := H
      replace H : (if t164 = 4 then (some a0) else (some a1)) = some r := H
      have A7 := Aside0.mk A70
      clear A70
      by_cases c8 : t164 = 4
      · rw [if_pos c8] at H
        have c8b0 : (t164 == 4) = true := beq_iff_eq.mpr c8
        have c8b1 : (t164 != 4) = false := bne_eq_false_iff_eq.mpr c8
        clear c8
        obtain rfl := Option.some.inj H
        go_enter Try.func36, Try.ntmps36
        go_wp2_with (first | ((with_reducible refine gate_callee (f := 31) rfl ?_); refine goesL_ (some 7) rfl rfl Try.func31 (by kernel_rfl) rfl #[.int .u64 a0, .int .u64 a1] rfl (by (try simp only [List.map_toArray, List.map_cons, List.map_nil]); first | done | rfl | (simp only [List.length_drop, List.length_take]; rfl)) ?_; (with_reducible refine (hygref6_Less.calls k a0 a1 false _ A3.out).mono ?_); rintro e w' ⟨rfl, ⟨nd, rfl⟩⟩; refine ⟨_, rfl, ?_⟩) | (go_at_call 30; (with_reducible refine (hygref6_Class.calls k a0 t163 _ A5.out).mono ?_); rintro e w' ⟨rfl, ⟨nd, rfl⟩⟩) | (go_at_call 30; (with_reducible refine (hygref6_Class.calls k a1 t164 _ A7.out).mono ?_); rintro e w' ⟨rfl, ⟨nd, rfl⟩⟩))
        go_ret
        exact ⟨by first | rfl | (simp; done) | (simp [*]; done), by repeat (first | exact Drawn0.refl _ | apply Drawn0.step)⟩
      · rw [if_neg c8] at H
        have c8b0 : (t164 == 4) = false := beq_eq_false_iff_ne.mpr c8
        have c8b1 : (t164 != 4) = true := bne_iff_ne.mpr c8
        obtain rfl := Option.some.inj H
        go_enter Try.func36, Try.ntmps36
        go_wp2_with (first | ((with_reducible refine gate_callee (f := 31) rfl ?_); refine goesL_ (some 7) rfl rfl Try.func31 (by kernel_rfl) rfl #[.int .u64 a0, .int .u64 a1] rfl (by (try simp only [List.map_toArray, List.map_cons, List.map_nil]); first | done | rfl | (simp only [List.length_drop, List.length_take]; rfl)) ?_; (with_reducible refine (hygref6_Less.calls k a0 a1 false _ A3.out).mono ?_); rintro e w' ⟨rfl, ⟨nd, rfl⟩⟩; refine ⟨_, rfl, ?_⟩) | (go_at_call 30; (with_reducible refine (hygref6_Class.calls k a0 t163 _ A5.out).mono ?_); rintro e w' ⟨rfl, ⟨nd, rfl⟩⟩) | (go_at_call 30; (with_reducible refine (hygref6_Class.calls k a1 t164 _ A7.out).mono ?_); rintro e w' ⟨rfl, ⟨nd, rfl⟩⟩))
        go_ret
        exact ⟨by first | rfl | (simp; done) | (simp [*]; done), by repeat (first | exact Drawn0.refl _ | apply Drawn0.step)⟩
    · rw [if_neg c6] at H
      have c6b0 : (t163 == 4) = false := beq_eq_false_iff_ne.mpr c6
      have c6b1 : (t163 != 4) = true := bne_iff_ne.mpr c6
      obtain rfl := Option.some.inj H
      go_enter Try.func36, Try.ntmps36
      go_wp2_with (first | ((with_reducible refine gate_callee (f := 31) rfl ?_); refine goesL_ (some 7) rfl rfl Try.func31 (by kernel_rfl) rfl #[.int .u64 a0, .int .u64 a1] rfl (by (try simp only [List.map_toArray, List.map_cons, List.map_nil]); first | done | rfl | (simp only [List.length_drop, List.length_take]; rfl)) ?_; (with_reducible refine (hygref6_Less.calls k a0 a1 false _ A3.out).mono ?_); rintro e w' ⟨rfl, ⟨nd, rfl⟩⟩; refine ⟨_, rfl, ?_⟩) | (go_at_call 30; (with_reducible refine (hygref6_Class.calls k a0 t163 _ A5.out).mono ?_); rintro e w' ⟨rfl, ⟨nd, rfl⟩⟩))
      go_ret
      exact ⟨by first | rfl | (simp; done) | (simp [*]; done), by repeat (first | exact Drawn0.refl _ | apply Drawn0.step)⟩

/-! ### hyglaw6_FltTells: function 9 -/
def hyglaw6_FltTells.f (k : Nat) (a0 : Int) (a1 : Int) : Option (Bool) := (hyglaw6_first.f k).bind fun t165 => (if t165 = true then ((hyglaw6_first.f k).bind fun t166 => (if t166 = true then ((flt_Class.f a0).bind fun t167 => ((hygref6_Class.f k a0).bind fun t168 => (if t167 = t168 then ((flt_Less.f a0 a1).bind fun t169 => ((hygref6_Less.f k a0 a1).bind fun t170 => (if (t169 == t170) = true then ((flt_Equal.f a0 a1).bind fun t171 => ((hygref6_Equal.f k a0 a1).bind fun t172 => (if (t171 == t172) = true then ((flt_Order.f a0 a1).bind fun t173 => ((hygref6_Order.f k a0 a1).bind fun t174 => (if t173 = t174 then ((flt_Neg.f a0).bind fun t175 => ((hygref6_Neg.f a0).bind fun t176 => (if t175 = t176 then ((flt_Min.f a0 a1).bind fun t177 => ((hygref6_Min.f k a0 a1).bind fun t178 => (if t177 = t178 then ((flt_Max.f a0 a1).bind fun t179 => ((hygref6_Max.f k a0 a1).bind fun t180 => (some (t179 == t180)))) else (some false)))) else (some false)))) else (some false)))) else (some false)))) else (some false)))) else (some false)))) else (some false))) else (some false))
theorem hyglaw6_FltTells.mono : ∀ a0 a1 k, LeO (hyglaw6_FltTells.f k a0 a1) (hyglaw6_FltTells.f (k + 1) a0 a1) := by
  intro a0 a1 k
  unfold hyglaw6_FltTells.f
  repeat' first
      | (with_reducible exact hyglaw6_first.mono _)
      | (with_reducible exact hygref6_Class.mono _ _)
      | (with_reducible exact hygref6_Equal.mono _ _ _)
      | (with_reducible exact hygref6_Less.mono _ _ _)
      | (with_reducible exact hygref6_Max.mono _ _ _)
      | (with_reducible exact hygref6_Min.mono _ _ _)
      | (with_reducible exact hygref6_Order.mono _ _ _)
      | (with_reducible exact LeO.refl _)
      | (with_reducible exact LeO.none _)
      | (with_reducible refine LeO.ite ?_ ?_)
      | (with_reducible refine LeO.bind ?_ (fun _ => ?_))
      | exact hyglaw6_first.mono _
      | exact hygref6_Class.mono _ _
      | exact hygref6_Equal.mono _ _ _
      | exact hygref6_Less.mono _ _ _
      | exact hygref6_Max.mono _ _ _
      | exact hygref6_Min.mono _ _ _
      | exact hygref6_Order.mono _ _ _
      | exact LeO.none _
      | refine LeO.ite ?_ ?_
      | refine LeO.bind ?_ (fun _ => ?_)
set_option maxHeartbeats 8000000 in
set_option maxRecDepth 100000 in
theorem hyglaw6_FltTells.calls (k : Nat) (a0 : Int) (a1 : Int) (r : Bool) (w : World) (h : hyglaw6_FltTells.f k a0 a1 = some r) :
    Calls Try.prog 9 #[.int .u64 a0, .int .u64 a1] w fun e w' => e = .returned (.bool r) ∧ Drawn0 w w' := by
  have H : ((hyglaw6_first.f k).bind fun t165 => (if t165 = true then ((hyglaw6_first.f k).bind fun t166 => (if t166 = true then ((flt_Class.f a0).bind fun t167 => ((hygref6_Class.f k a0).bind fun t168 => (if t167 = t168 then ((flt_Less.f a0 a1).bind fun t169 => ((hygref6_Less.f k a0 a1).bind fun t170 => (if (t169 == t170) = true then ((flt_Equal.f a0 a1).bind fun t171 => ((hygref6_Equal.f k a0 a1).bind fun t172 => (if (t171 == t172) = true then ((flt_Order.f a0 a1).bind fun t173 => ((hygref6_Order.f k a0 a1).bind fun t174 => (if t173 = t174 then ((flt_Neg.f a0).bind fun t175 => ((hygref6_Neg.f a0).bind fun t176 => (if t175 = t176 then ((flt_Min.f a0 a1).bind fun t177 => ((hygref6_Min.f k a0 a1).bind fun t178 => (if t177 = t178 then ((flt_Max.f a0 a1).bind fun t179 => ((hygref6_Max.f k a0 a1).bind fun t180 => (some (t179 == t180)))) else (some false)))) else (some false)))) else (some false)))) else (some false)))) else (some false)))) else (some false)))) else (some false))) else (some false))) = some r := h
  clear h
  replace H := Option.bind_eq_some_iff.mp H
  obtain ⟨t165, A30, H⟩ := H
  replace H : (if t165 = true then ((hyglaw6_first.f k).bind fun t166 => (if t166 = true then ((flt_Class.f a0).bind fun t167 => ((hygref6_Class.f k a0).bind fun t168 => (if t167 = t168 then ((flt_Less.f a0 a1).bind fun t169 => ((hygref6_Less.f k a0 a1).bind fun t170 => (if (t169 == t170) = true then ((flt_Equal.f a0 a1).bind fun t171 => ((hygref6_Equal.f k a0 a1).bind fun t172 => (if (t171 == t172) = true then ((flt_Order.f a0 a1).bind fun t173 => ((hygref6_Order.f k a0 a1).bind fun t174 => (if t173 = t174 then ((flt_Neg.f a0).bind fun t175 => ((hygref6_Neg.f a0).bind fun t176 => (if t175 = t176 then ((flt_Min.f a0 a1).bind fun t177 => ((hygref6_Min.f k a0 a1).bind fun t178 => (if t177 = t178 then ((flt_Max.f a0 a1).bind fun t179 => ((hygref6_Max.f k a0 a1).bind fun t180 => (some (t179 == t180)))) else (some false)))) else (some false)))) else (some false)))) else (some false)))) else (some false)))) else (some false)))) else (some false))) else (some false)) = some r := H
  have A3 := Aside0.mk A30
  clear A30
  by_cases c4 : t165 = true
  · subst c4
    have H1 : ((hyglaw6_first.f k).bind fun t166 => (if t166 = true then ((flt_Class.f a0).bind fun t167 => ((hygref6_Class.f k a0).bind fun t168 => (if t167 = t168 then ((flt_Less.f a0 a1).bind fun t169 => ((hygref6_Less.f k a0 a1).bind fun t170 => (if (t169 == t170) = true then ((flt_Equal.f a0 a1).bind fun t171 => ((hygref6_Equal.f k a0 a1).bind fun t172 => (if (t171 == t172) = true then ((flt_Order.f a0 a1).bind fun t173 => ((hygref6_Order.f k a0 a1).bind fun t174 => (if t173 = t174 then ((flt_Neg.f a0).bind fun t175 => ((hygref6_Neg.f a0).bind fun t176 => (if t175 = t176 then ((flt_Min.f a0 a1).bind fun t177 => ((hygref6_Min.f k a0 a1).bind fun t178 => (if t177 = t178 then ((flt_Max.f a0 a1).bind fun t179 => ((hygref6_Max.f k a0 a1).bind fun t180 => (some (t179 == t180)))) else (some false)))) else (some false)))) else (some false)))) else (some false)))) else (some false)))) else (some false)))) else (some false))) = some r := by rw [if_pos rfl] at H; exact H
    clear H
    have H := H1
    clear H1
    replace H := Option.bind_eq_some_iff.mp H
    obtain ⟨t166, A50, H⟩ := H
    replace H : (if t166 = true then ((flt_Class.f a0).bind fun t167 => ((hygref6_Class.f k a0).bind fun t168 => (if t167 = t168 then ((flt_Less.f a0 a1).bind fun t169 => ((hygref6_Less.f k a0 a1).bind fun t170 => (if (t169 == t170) = true then ((flt_Equal.f a0 a1).bind fun t171 => ((hygref6_Equal.f k a0 a1).bind fun t172 => (if (t171 == t172) = true then ((flt_Order.f a0 a1).bind fun t173 => ((hygref6_Order.f k a0 a1).bind fun t174 => (if t173 = t174 then ((flt_Neg.f a0).bind fun t175 => ((hygref6_Neg.f a0).bind fun t176 => (if t175 = t176 then ((flt_Min.f a0 a1).bind fun t177 => ((hygref6_Min.f k a0 a1).bind fun t178 => (if t177 = t178 then ((flt_Max.f a0 a1).bind fun t179 => ((hygref6_Max.f k a0 a1).bind fun t180 => (some (t179 == t180)))) else (some false)))) else (some false)))) else (some false)))) else (some false)))) else (some false)))) else (some false)))) else (some false)) = some r := H
    have A5 := Aside0.mk A50
    clear A50
    by_cases c6 : t166 = true
    · subst c6
      have H1 : ((flt_Class.f a0).bind fun t167 => ((hygref6_Class.f k a0).bind fun t168 => (if t167 = t168 then ((flt_Less.f a0 a1).bind fun t169 => ((hygref6_Less.f k a0 a1).bind fun t170 => (if (t169 == t170) = true then ((flt_Equal.f a0 a1).bind fun t171 => ((hygref6_Equal.f k a0 a1).bind fun t172 => (if (t171 == t172) = true then ((flt_Order.f a0 a1).bind fun t173 => ((hygref6_Order.f k a0 a1).bind fun t174 => (if t173 = t174 then ((flt_Neg.f a0).bind fun t175 => ((hygref6_Neg.f a0).bind fun t176 => (if t175 = t176 then ((flt_Min.f a0 a1).bind fun t177 => ((hygref6_Min.f k a0 a1).bind fun t178 => (if t177 = t178 then ((flt_Max.f a0 a1).bind fun t179 => ((hygref6_Max.f k a0 a1).bind fun t180 => (some (t179 == t180)))) else (some false)))) else (some false)))) else (some false)))) else (some false)))) else (some false)))) else (some false)))) = some r := by rw [if_pos rfl] at H; exact H
      clear H
      have H := H1
      clear H1
      replace H := Option.bind_eq_some_iff.mp H
      obtain ⟨t167, A70, H⟩ := H
      replace H : ((hygref6_Class.f k a0).bind fun t168 => (if t167 = t168 then ((flt_Less.f a0 a1).bind fun t169 => ((hygref6_Less.f k a0 a1).bind fun t170 => (if (t169 == t170) = true then ((flt_Equal.f a0 a1).bind fun t171 => ((hygref6_Equal.f k a0 a1).bind fun t172 => (if (t171 == t172) = true then ((flt_Order.f a0 a1).bind fun t173 => ((hygref6_Order.f k a0 a1).bind fun t174 => (if t173 = t174 then ((flt_Neg.f a0).bind fun t175 => ((hygref6_Neg.f a0).bind fun t176 => (if t175 = t176 then ((flt_Min.f a0 a1).bind fun t177 => ((hygref6_Min.f k a0 a1).bind fun t178 => (if t177 = t178 then ((flt_Max.f a0 a1).bind fun t179 => ((hygref6_Max.f k a0 a1).bind fun t180 => (some (t179 == t180)))) else (some false)))) else (some false)))) else (some false)))) else (some false)))) else (some false)))) else (some false))) = some r := H
      have A7 := Aside0.mk A70
      clear A70
      replace H := Option.bind_eq_some_iff.mp H
      obtain ⟨t168, A80, H⟩ := H
      replace H : (if t167 = t168 then ((flt_Less.f a0 a1).bind fun t169 => ((hygref6_Less.f k a0 a1).bind fun t170 => (if (t169 == t170) = true then ((flt_Equal.f a0 a1).bind fun t171 => ((hygref6_Equal.f k a0 a1).bind fun t172 => (if (t171 == t172) = true then ((flt_Order.f a0 a1).bind fun t173 => ((hygref6_Order.f k a0 a1).bind fun t174 => (if t173 = t174 then ((flt_Neg.f a0).bind fun t175 => ((hygref6_Neg.f a0).bind fun t176 => (if t175 = t176 then ((flt_Min.f a0 a1).bind fun t177 => ((hygref6_Min.f k a0 a1).bind fun t178 => (if t177 = t178 then ((flt_Max.f a0 a1).bind fun t179 => ((hygref6_Max.f k a0 a1).bind fun t180 => (some (t179 == t180)))) else (some false)))) else (some false)))) else (some false)))) else (some false)))) else (some false)))) else (some false)) = some r := H
      have A8 := Aside0.mk A80
      clear A80
      by_cases c9 : t167 = t168
      · rw [if_pos c9] at H
        have c9b0 : (t167 == t168) = true := beq_iff_eq.mpr c9
        have c9b1 : (t167 != t168) = false := bne_eq_false_iff_eq.mpr c9
        clear c9
        replace H := Option.bind_eq_some_iff.mp H
        obtain ⟨t169, A100, H⟩ := H
        replace H : ((hygref6_Less.f k a0 a1).bind fun t170 => (if (t169 == t170) = true then ((flt_Equal.f a0 a1).bind fun t171 => ((hygref6_Equal.f k a0 a1).bind fun t172 => (if (t171 == t172) = true then ((flt_Order.f a0 a1).bind fun t173 => ((hygref6_Order.f k a0 a1).bind fun t174 => (if t173 = t174 then ((flt_Neg.f a0).bind fun t175 => ((hygref6_Neg.f a0).bind fun t176 => (if t175 = t176 then ((flt_Min.f a0 a1).bind fun t177 => ((hygref6_Min.f k a0 a1).bind fun t178 => (if t177 = t178 then ((flt_Max.f a0 a1).bind fun t179 => ((hygref6_Max.f k a0 a1).bind fun t180 => (some (t179 == t180)))) else (some false)))) else (some false)))) else (some false)))) else (some false)))) else (some false))) = some r := H
        have A10 := Aside0.mk A100
        clear A100
        replace H := Option.bind_eq_some_iff.mp H
        obtain ⟨t170, A110, H⟩ := H
        replace H : (if (t169 == t170) = true then ((flt_Equal.f a0 a1).bind fun t171 => ((hygref6_Equal.f k a0 a1).bind fun t172 => (if (t171 == t172) = true then ((flt_Order.f a0 a1).bind fun t173 => ((hygref6_Order.f k a0 a1).bind fun t174 => (if t173 = t174 then ((flt_Neg.f a0).bind fun t175 => ((hygref6_Neg.f a0).bind fun t176 => (if t175 = t176 then ((flt_Min.f a0 a1).bind fun t177 => ((hygref6_Min.f k a0 a1).bind fun t178 => (if t177 = t178 then ((flt_Max.f a0 a1).bind fun t179 => ((hygref6_Max.f k a0 a1).bind fun t180 => (some (t179 == t180)))) else (some false)))) else (some false)))) else (some false)))) else (some false)))) else (some false)) = some r := H
        have A11 := Aside0.mk A110
        clear A110
        by_cases c12 : (t169 == t170) = true
        · rw [if_pos c12] at H
          have c12b0 : (t169 == t170) = true := c12
          (try (have c12b1 : decide (t169 = t170) = true := by simpa using c12))
          (try (have c12b2 : (t169 == t170) = true := by simpa using c12))
          clear c12
          replace H := Option.bind_eq_some_iff.mp H
          obtain ⟨t171, A130, H⟩ := H
          replace H : ((hygref6_Equal.f k a0 a1).bind fun t172 => (if (t171 == t172) = true then ((flt_Order.f a0 a1).bind fun t173 => ((hygref6_Order.f k a0 a1).bind fun t174 => (if t173 = t174 then ((flt_Neg.f a0).bind fun t175 => ((hygref6_Neg.f a0).bind fun t176 => (if t175 = t176 then ((flt_Min.f a0 a1).bind fun t177 => ((hygref6_Min.f k a0 a1).bind fun t178 => (if t177 = t178 then ((flt_Max.f a0 a1).bind fun t179 => ((hygref6_Max.f k a0 a1).bind fun t180 => (some (t179 == t180)))) else (some false)))) else (some false)))) else (some false)))) else (some false))) = some r := H
          have A13 := Aside0.mk A130
          clear A130
          replace H := Option.bind_eq_some_iff.mp H
          obtain ⟨t172, A140, H⟩ := H
          replace H : (if (t171 == t172) = true then ((flt_Order.f a0 a1).bind fun t173 => ((hygref6_Order.f k a0 a1).bind fun t174 => (if t173 = t174 then ((flt_Neg.f a0).bind fun t175 => ((hygref6_Neg.f a0).bind fun t176 => (if t175 = t176 then ((flt_Min.f a0 a1).bind fun t177 => ((hygref6_Min.f k a0 a1).bind fun t178 => (if t177 = t178 then ((flt_Max.f a0 a1).bind fun t179 => ((hygref6_Max.f k a0 a1).bind fun t180 => (some (t179 == t180)))) else (some false)))) else (some false)))) else (some false)))) else (some false)) = some r := H
          have A14 := Aside0.mk A140
          clear A140
          by_cases c15 : (t171 == t172) = true
          · rw [if_pos c15] at H
            have c15b0 : (t171 == t172) = true := c15
            (try (have c15b1 : decide (t171 = t172) = true := by simpa using c15))
            (try (have c15b2 : (t171 == t172) = true := by simpa using c15))
            clear c15
            replace H := Option.bind_eq_some_iff.mp H
            obtain ⟨t173, A160, H⟩ := H
            replace H : ((hygref6_Order.f k a0 a1).bind fun t174 => (if t173 = t174 then ((flt_Neg.f a0).bind fun t175 => ((hygref6_Neg.f a0).bind fun t176 => (if t175 = t176 then ((flt_Min.f a0 a1).bind fun t177 => ((hygref6_Min.f k a0 a1).bind fun t178 => (if t177 = t178 then ((flt_Max.f a0 a1).bind fun t179 => ((hygref6_Max.f k a0 a1).bind fun t180 => (some (t179 == t180)))) else (some false)))) else (some false)))) else (some false))) = some r := H
            have A16 := Aside0.mk A160
            clear A160
            replace H := Option.bind_eq_some_iff.mp H
            obtain ⟨t174, A170, H⟩ := H
            replace H : (if t173 = t174 then ((flt_Neg.f a0).bind fun t175 => ((hygref6_Neg.f a0).bind fun t176 => (if t175 = t176 then ((flt_Min.f a0 a1).bind fun t177 => ((hygref6_Min.f k a0 a1).bind fun t178 => (if t177 = t178 then ((flt_Max.f a0 a1).bind fun t179 => ((hygref6_Max.f k a0 a1).bind fun t180 => (some (t179 == t180)))) else (some false)))) else (some false)))) else (some false)) = some r := H
            have A17 := Aside0.mk A170
            clear A170
            by_cases c18 : t173 = t174
            · rw [if_pos c18] at H
              have c18b0 : (t173 == t174) = true := beq_iff_eq.mpr c18
              have c18b1 : (t173 != t174) = false := bne_eq_false_iff_eq.mpr c18
              clear c18
              replace H := Option.bind_eq_some_iff.mp H
              obtain ⟨t175, A190, H⟩ := H
              replace H : ((hygref6_Neg.f a0).bind fun t176 => (if t175 = t176 then ((flt_Min.f a0 a1).bind fun t177 => ((hygref6_Min.f k a0 a1).bind fun t178 => (if t177 = t178 then ((flt_Max.f a0 a1).bind fun t179 => ((hygref6_Max.f k a0 a1).bind fun t180 => (some (t179 == t180)))) else (some false)))) else (some false))) = some r := H
              have A19 := Aside0.mk A190
              clear A190
              replace H := Option.bind_eq_some_iff.mp H
              obtain ⟨t176, A200, H⟩ := H
              replace H : (if t175 = t176 then ((flt_Min.f a0 a1).bind fun t177 => ((hygref6_Min.f k a0 a1).bind fun t178 => (if t177 = t178 then ((flt_Max.f a0 a1).bind fun t179 => ((hygref6_Max.f k a0 a1).bind fun t180 => (some (t179 == t180)))) else (some false)))) else (some false)) = some r := H
              have A20 := Aside0.mk A200
              clear A200
              by_cases c21 : t175 = t176
              · rw [if_pos c21] at H
                have c21b0 : (t175 == t176) = true := beq_iff_eq.mpr c21
                have c21b1 : (t175 != t176) = false := bne_eq_false_iff_eq.mpr c21
                clear c21
                replace H := Option.bind_eq_some_iff.mp H
                obtain ⟨t177, A220, H⟩ := H
                replace H : ((hygref6_Min.f k a0 a1).bind fun t178 => (if t177 = t178 then ((flt_Max.f a0 a1).bind fun t179 => ((hygref6_Max.f k a0 a1).bind fun t180 => (some (t179 == t180)))) else (some false))) = some r := H
                have A22 := Aside0.mk A220
                clear A220
                replace H := Option.bind_eq_some_iff.mp H
                obtain ⟨t178, A230, H⟩ := H
                replace H : (if t177 = t178 then ((flt_Max.f a0 a1).bind fun t179 => ((hygref6_Max.f k a0 a1).bind fun t180 => (some (t179 == t180)))) else (some false)) = some r := H
                have A23 := Aside0.mk A230
                clear A230
                by_cases c24 : t177 = t178
                · rw [if_pos c24] at H
                  have c24b0 : (t177 == t178) = true := beq_iff_eq.mpr c24
                  have c24b1 : (t177 != t178) = false := bne_eq_false_iff_eq.mpr c24
                  clear c24
                  replace H := Option.bind_eq_some_iff.mp H
                  obtain ⟨t179, A250, H⟩ := H
                  replace H : ((hygref6_Max.f k a0 a1).bind fun t180 => (some (t179 == t180))) = some r := H
                  have A25 := Aside0.mk A250
                  clear A250
                  replace H := Option.bind_eq_some_iff.mp H
                  obtain ⟨t180, A260, H⟩ := H
                  replace H : (some (t179 == t180)) = some r := H
                  have A26 := Aside0.mk A260
                  clear A260
                  obtain rfl := Option.some.inj H
                  go_enter Try.func9, Try.ntmps9
                  go_wp2_with (first | ((with_reducible refine gate_callee (f := 14) rfl ?_); refine goesL_ (some 5) rfl rfl Try.func14 (by kernel_rfl) rfl #[] rfl (by (try simp only [List.map_toArray, List.map_cons, List.map_nil]); first | done | rfl | (simp only [List.length_drop, List.length_take]; rfl)) ?_; (with_reducible refine (hyglaw6_first.calls k  true _ A3.out).mono ?_); rintro e w' ⟨rfl, ⟨nd, rfl⟩⟩; refine ⟨_, rfl, ?_⟩) | ((with_reducible refine gate_callee (f := 14) rfl ?_); refine goesL_ (some 7) rfl rfl Try.func14 (by kernel_rfl) rfl #[] rfl (by (try simp only [List.map_toArray, List.map_cons, List.map_nil]); first | done | rfl | (simp only [List.length_drop, List.length_take]; rfl)) ?_; (with_reducible refine (hyglaw6_first.calls k  true _ A5.out).mono ?_); rintro e w' ⟨rfl, ⟨nd, rfl⟩⟩; refine ⟨_, rfl, ?_⟩) | (go_at_call 22; (with_reducible refine (flt_Class.calls a0 t167 _ A7.out).mono ?_); rintro e w' ⟨rfl, ⟨nd, rfl⟩⟩) | (go_at_call 30; (with_reducible refine (hygref6_Class.calls k a0 t168 _ A8.out).mono ?_); rintro e w' ⟨rfl, ⟨nd, rfl⟩⟩) | (go_at_call 19; (with_reducible refine (flt_Less.calls a0 a1 t169 _ A10.out).mono ?_); rintro e w' ⟨rfl, ⟨nd, rfl⟩⟩) | (go_at_call 31; (with_reducible refine (hygref6_Less.calls k a0 a1 t170 _ A11.out).mono ?_); rintro e w' ⟨rfl, ⟨nd, rfl⟩⟩) | (go_at_call 21; (with_reducible refine (flt_Equal.calls a0 a1 t171 _ A13.out).mono ?_); rintro e w' ⟨rfl, ⟨nd, rfl⟩⟩) | (go_at_call 32; (with_reducible refine (hygref6_Equal.calls k a0 a1 t172 _ A14.out).mono ?_); rintro e w' ⟨rfl, ⟨nd, rfl⟩⟩) | (go_at_call 20; (with_reducible refine (flt_Order.calls a0 a1 t173 _ A16.out).mono ?_); rintro e w' ⟨rfl, ⟨nd, rfl⟩⟩) | (go_at_call 33; (with_reducible refine (hygref6_Order.calls k a0 a1 t174 _ A17.out).mono ?_); rintro e w' ⟨rfl, ⟨nd, rfl⟩⟩) | (go_at_call 23; (with_reducible refine (flt_Neg.calls a0 t175 _ A19.out).mono ?_); rintro e w' ⟨rfl, ⟨nd, rfl⟩⟩) | (go_at_call 34; (with_reducible refine (hygref6_Neg.calls a0 t176 _ A20.out).mono ?_); rintro e w' ⟨rfl, ⟨nd, rfl⟩⟩) | (go_at_call 28; (with_reducible refine (flt_Min.calls a0 a1 t177 _ A22.out).mono ?_); rintro e w' ⟨rfl, ⟨nd, rfl⟩⟩) | (go_at_call 35; (with_reducible refine (hygref6_Min.calls k a0 a1 t178 _ A23.out).mono ?_); rintro e w' ⟨rfl, ⟨nd, rfl⟩⟩) | (go_at_call 29; (with_reducible refine (flt_Max.calls a0 a1 t179 _ A25.out).mono ?_); rintro e w' ⟨rfl, ⟨nd, rfl⟩⟩) | (go_at_call 36; (with_reducible refine (hygref6_Max.calls k a0 a1 t180 _ A26.out).mono ?_); rintro e w' ⟨rfl, ⟨nd, rfl⟩⟩))
                  go_ret
                  exact ⟨by first | rfl | (simp; done) | (simp [*]; done), by repeat (first | exact Drawn0.refl _ | apply Drawn0.step)⟩
                · rw [if_neg c24] at H
                  have c24b0 : (t177 == t178) = false := beq_eq_false_iff_ne.mpr c24
                  have c24b1 : (t177 != t178) = true := bne_iff_ne.mpr c24
                  obtain rfl := Option.some.inj H
                  go_enter Try.func9, Try.ntmps9
                  go_wp2_with (first | ((with_reducible refine gate_callee (f := 14) rfl ?_); refine goesL_ (some 5) rfl rfl Try.func14 (by kernel_rfl) rfl #[] rfl (by (try simp only [List.map_toArray, List.map_cons, List.map_nil]); first | done | rfl | (simp only [List.length_drop, List.length_take]; rfl)) ?_; (with_reducible refine (hyglaw6_first.calls k  true _ A3.out).mono ?_); rintro e w' ⟨rfl, ⟨nd, rfl⟩⟩; refine ⟨_, rfl, ?_⟩) | ((with_reducible refine gate_callee (f := 14) rfl ?_); refine goesL_ (some 7) rfl rfl Try.func14 (by kernel_rfl) rfl #[] rfl (by (try simp only [List.map_toArray, List.map_cons, List.map_nil]); first | done | rfl | (simp only [List.length_drop, List.length_take]; rfl)) ?_; (with_reducible refine (hyglaw6_first.calls k  true _ A5.out).mono ?_); rintro e w' ⟨rfl, ⟨nd, rfl⟩⟩; refine ⟨_, rfl, ?_⟩) | (go_at_call 22; (with_reducible refine (flt_Class.calls a0 t167 _ A7.out).mono ?_); rintro e w' ⟨rfl, ⟨nd, rfl⟩⟩) | (go_at_call 30; (with_reducible refine (hygref6_Class.calls k a0 t168 _ A8.out).mono ?_); rintro e w' ⟨rfl, ⟨nd, rfl⟩⟩) | (go_at_call 19; (with_reducible refine (flt_Less.calls a0 a1 t169 _ A10.out).mono ?_); rintro e w' ⟨rfl, ⟨nd, rfl⟩⟩) | (go_at_call 31; (with_reducible refine (hygref6_Less.calls k a0 a1 t170 _ A11.out).mono ?_); rintro e w' ⟨rfl, ⟨nd, rfl⟩⟩) | (go_at_call 21; (with_reducible refine (flt_Equal.calls a0 a1 t171 _ A13.out).mono ?_); rintro e w' ⟨rfl, ⟨nd, rfl⟩⟩) | (go_at_call 32; (with_reducible refine (hygref6_Equal.calls k a0 a1 t172 _ A14.out).mono ?_); rintro e w' ⟨rfl, ⟨nd, rfl⟩⟩) | (go_at_call 20; (with_reducible refine (flt_Order.calls a0 a1 t173 _ A16.out).mono ?_); rintro e w' ⟨rfl, ⟨nd, rfl⟩⟩) | (go_at_call 33; (with_reducible refine (hygref6_Order.calls k a0 a1 t174 _ A17.out).mono ?_); rintro e w' ⟨rfl, ⟨nd, rfl⟩⟩) | (go_at_call 23; (with_reducible refine (flt_Neg.calls a0 t175 _ A19.out).mono ?_); rintro e w' ⟨rfl, ⟨nd, rfl⟩⟩) | (go_at_call 34; (with_reducible refine (hygref6_Neg.calls a0 t176 _ A20.out).mono ?_); rintro e w' ⟨rfl, ⟨nd, rfl⟩⟩) | (go_at_call 28; (with_reducible refine (flt_Min.calls a0 a1 t177 _ A22.out).mono ?_); rintro e w' ⟨rfl, ⟨nd, rfl⟩⟩) | (go_at_call 35; (with_reducible refine (hygref6_Min.calls k a0 a1 t178 _ A23.out).mono ?_); rintro e w' ⟨rfl, ⟨nd, rfl⟩⟩))
                  go_ret
                  exact ⟨by first | rfl | (simp; done) | (simp [*]; done), by repeat (first | exact Drawn0.refl _ | apply Drawn0.step)⟩
              · rw [if_neg c21] at H
                have c21b0 : (t175 == t176) = false := beq_eq_false_iff_ne.mpr c21
                have c21b1 : (t175 != t176) = true := bne_iff_ne.mpr c21
                obtain rfl := Option.some.inj H
                go_enter Try.func9, Try.ntmps9
                go_wp2_with (first | ((with_reducible refine gate_callee (f := 14) rfl ?_); refine goesL_ (some 5) rfl rfl Try.func14 (by kernel_rfl) rfl #[] rfl (by (try simp only [List.map_toArray, List.map_cons, List.map_nil]); first | done | rfl | (simp only [List.length_drop, List.length_take]; rfl)) ?_; (with_reducible refine (hyglaw6_first.calls k  true _ A3.out).mono ?_); rintro e w' ⟨rfl, ⟨nd, rfl⟩⟩; refine ⟨_, rfl, ?_⟩) | ((with_reducible refine gate_callee (f := 14) rfl ?_); refine goesL_ (some 7) rfl rfl Try.func14 (by kernel_rfl) rfl #[] rfl (by (try simp only [List.map_toArray, List.map_cons, List.map_nil]); first | done | rfl | (simp only [List.length_drop, List.length_take]; rfl)) ?_; (with_reducible refine (hyglaw6_first.calls k  true _ A5.out).mono ?_); rintro e w' ⟨rfl, ⟨nd, rfl⟩⟩; refine ⟨_, rfl, ?_⟩) | (go_at_call 22; (with_reducible refine (flt_Class.calls a0 t167 _ A7.out).mono ?_); rintro e w' ⟨rfl, ⟨nd, rfl⟩⟩) | (go_at_call 30; (with_reducible refine (hygref6_Class.calls k a0 t168 _ A8.out).mono ?_); rintro e w' ⟨rfl, ⟨nd, rfl⟩⟩) | (go_at_call 19; (with_reducible refine (flt_Less.calls a0 a1 t169 _ A10.out).mono ?_); rintro e w' ⟨rfl, ⟨nd, rfl⟩⟩) | (go_at_call 31; (with_reducible refine (hygref6_Less.calls k a0 a1 t170 _ A11.out).mono ?_); rintro e w' ⟨rfl, ⟨nd, rfl⟩⟩) | (go_at_call 21; (with_reducible refine (flt_Equal.calls a0 a1 t171 _ A13.out).mono ?_); rintro e w' ⟨rfl, ⟨nd, rfl⟩⟩) | (go_at_call 32; (with_reducible refine (hygref6_Equal.calls k a0 a1 t172 _ A14.out).mono ?_); rintro e w' ⟨rfl, ⟨nd, rfl⟩⟩) | (go_at_call 20; (with_reducible refine (flt_Order.calls a0 a1 t173 _ A16.out).mono ?_); rintro e w' ⟨rfl, ⟨nd, rfl⟩⟩) | (go_at_call 33; (with_reducible refine (hygref6_Order.calls k a0 a1 t174 _ A17.out).mono ?_); rintro e w' ⟨rfl, ⟨nd, rfl⟩⟩) | (go_at_call 23; (with_reducible refine (flt_Neg.calls a0 t175 _ A19.out).mono ?_); rintro e w' ⟨rfl, ⟨nd, rfl⟩⟩) | (go_at_call 34; (with_reducible refine (hygref6_Neg.calls a0 t176 _ A20.out).mono ?_); rintro e w' ⟨rfl, ⟨nd, rfl⟩⟩))
                go_ret
                exact ⟨by first | rfl | (simp; done) | (simp [*]; done), by repeat (first | exact Drawn0.refl _ | apply Drawn0.step)⟩
            · rw [if_neg c18] at H
              have c18b0 : (t173 == t174) = false := beq_eq_false_iff_ne.mpr c18
              have c18b1 : (t173 != t174) = true := bne_iff_ne.mpr c18
              obtain rfl := Option.some.inj H
              go_enter Try.func9, Try.ntmps9
              go_wp2_with (first | ((with_reducible refine gate_callee (f := 14) rfl ?_); refine goesL_ (some 5) rfl rfl Try.func14 (by kernel_rfl) rfl #[] rfl (by (try simp only [List.map_toArray, List.map_cons, List.map_nil]); first | done | rfl | (simp only [List.length_drop, List.length_take]; rfl)) ?_; (with_reducible refine (hyglaw6_first.calls k  true _ A3.out).mono ?_); rintro e w' ⟨rfl, ⟨nd, rfl⟩⟩; refine ⟨_, rfl, ?_⟩) | ((with_reducible refine gate_callee (f := 14) rfl ?_); refine goesL_ (some 7) rfl rfl Try.func14 (by kernel_rfl) rfl #[] rfl (by (try simp only [List.map_toArray, List.map_cons, List.map_nil]); first | done | rfl | (simp only [List.length_drop, List.length_take]; rfl)) ?_; (with_reducible refine (hyglaw6_first.calls k  true _ A5.out).mono ?_); rintro e w' ⟨rfl, ⟨nd, rfl⟩⟩; refine ⟨_, rfl, ?_⟩) | (go_at_call 22; (with_reducible refine (flt_Class.calls a0 t167 _ A7.out).mono ?_); rintro e w' ⟨rfl, ⟨nd, rfl⟩⟩) | (go_at_call 30; (with_reducible refine (hygref6_Class.calls k a0 t168 _ A8.out).mono ?_); rintro e w' ⟨rfl, ⟨nd, rfl⟩⟩) | (go_at_call 19; (with_reducible refine (flt_Less.calls a0 a1 t169 _ A10.out).mono ?_); rintro e w' ⟨rfl, ⟨nd, rfl⟩⟩) | (go_at_call 31; (with_reducible refine (hygref6_Less.calls k a0 a1 t170 _ A11.out).mono ?_); rintro e w' ⟨rfl, ⟨nd, rfl⟩⟩) | (go_at_call 21; (with_reducible refine (flt_Equal.calls a0 a1 t171 _ A13.out).mono ?_); rintro e w' ⟨rfl, ⟨nd, rfl⟩⟩) | (go_at_call 32; (with_reducible refine (hygref6_Equal.calls k a0 a1 t172 _ A14.out).mono ?_); rintro e w' ⟨rfl, ⟨nd, rfl⟩⟩) | (go_at_call 20; (with_reducible refine (flt_Order.calls a0 a1 t173 _ A16.out).mono ?_); rintro e w' ⟨rfl, ⟨nd, rfl⟩⟩) | (go_at_call 33; (with_reducible refine (hygref6_Order.calls k a0 a1 t174 _ A17.out).mono ?_); rintro e w' ⟨rfl, ⟨nd, rfl⟩⟩))
              go_ret
              exact ⟨by first | rfl | (simp; done) | (simp [*]; done), by repeat (first | exact Drawn0.refl _ | apply Drawn0.step)⟩
          · rw [if_neg c15] at H
            have c15b0 : (t171 == t172) = false := by simpa using c15
            (try (have c15b1 : decide (t171 = t172) = false := by simpa using c15))
            (try (have c15b2 : (t171 == t172) = false := by simpa using c15))
            (try (have c15b3 : ¬ (t171 = t172) := by simpa using c15))
            clear c15
            obtain rfl := Option.some.inj H
            go_enter Try.func9, Try.ntmps9
            go_wp2_with (first | ((with_reducible refine gate_callee (f := 14) rfl ?_); refine goesL_ (some 5) rfl rfl Try.func14 (by kernel_rfl) rfl #[] rfl (by (try simp only [List.map_toArray, List.map_cons, List.map_nil]); first | done | rfl | (simp only [List.length_drop, List.length_take]; rfl)) ?_; (with_reducible refine (hyglaw6_first.calls k  true _ A3.out).mono ?_); rintro e w' ⟨rfl, ⟨nd, rfl⟩⟩; refine ⟨_, rfl, ?_⟩) | ((with_reducible refine gate_callee (f := 14) rfl ?_); refine goesL_ (some 7) rfl rfl Try.func14 (by kernel_rfl) rfl #[] rfl (by (try simp only [List.map_toArray, List.map_cons, List.map_nil]); first | done | rfl | (simp only [List.length_drop, List.length_take]; rfl)) ?_; (with_reducible refine (hyglaw6_first.calls k  true _ A5.out).mono ?_); rintro e w' ⟨rfl, ⟨nd, rfl⟩⟩; refine ⟨_, rfl, ?_⟩) | (go_at_call 22; (with_reducible refine (flt_Class.calls a0 t167 _ A7.out).mono ?_); rintro e w' ⟨rfl, ⟨nd, rfl⟩⟩) | (go_at_call 30; (with_reducible refine (hygref6_Class.calls k a0 t168 _ A8.out).mono ?_); rintro e w' ⟨rfl, ⟨nd, rfl⟩⟩) | (go_at_call 19; (with_reducible refine (flt_Less.calls a0 a1 t169 _ A10.out).mono ?_); rintro e w' ⟨rfl, ⟨nd, rfl⟩⟩) | (go_at_call 31; (with_reducible refine (hygref6_Less.calls k a0 a1 t170 _ A11.out).mono ?_); rintro e w' ⟨rfl, ⟨nd, rfl⟩⟩) | (go_at_call 21; (with_reducible refine (flt_Equal.calls a0 a1 t171 _ A13.out).mono ?_); rintro e w' ⟨rfl, ⟨nd, rfl⟩⟩) | (go_at_call 32; (with_reducible refine (hygref6_Equal.calls k a0 a1 t172 _ A14.out).mono ?_); rintro e w' ⟨rfl, ⟨nd, rfl⟩⟩))
            go_ret
            exact ⟨by first | rfl | (simp; done) | (simp [*]; done), by repeat (first | exact Drawn0.refl _ | apply Drawn0.step)⟩
        · rw [if_neg c12] at H
          have c12b0 : (t169 == t170) = false := by simpa using c12
          (try (have c12b1 : decide (t169 = t170) = false := by simpa using c12))
          (try (have c12b2 : (t169 == t170) = false := by simpa using c12))
          (try (have c12b3 : ¬ (t169 = t170) := by simpa using c12))
          clear c12
          obtain rfl := Option.some.inj H
          go_enter Try.func9, Try.ntmps9
          go_wp2_with (first | ((with_reducible refine gate_callee (f := 14) rfl ?_); refine goesL_ (some 5) rfl rfl Try.func14 (by kernel_rfl) rfl #[] rfl (by (try simp only [List.map_toArray, List.map_cons, List.map_nil]); first | done | rfl | (simp only [List.length_drop, List.length_take]; rfl)) ?_; (with_reducible refine (hyglaw6_first.calls k  true _ A3.out).mono ?_); rintro e w' ⟨rfl, ⟨nd, rfl⟩⟩; refine ⟨_, rfl, ?_⟩) | ((with_reducible refine gate_callee (f := 14) rfl ?_); refine goesL_ (some 7) rfl rfl Try.func14 (by kernel_rfl) rfl #[] rfl (by (try simp only [List.map_toArray, List.map_cons, List.map_nil]); first | done | rfl | (simp only [List.length_drop, List.length_take]; rfl)) ?_; (with_reducible refine (hyglaw6_first.calls k  true _ A5.out).mono ?_); rintro e w' ⟨rfl, ⟨nd, rfl⟩⟩; refine ⟨_, rfl, ?_⟩) | (go_at_call 22; (with_reducible refine (flt_Class.calls a0 t167 _ A7.out).mono ?_); rintro e w' ⟨rfl, ⟨nd, rfl⟩⟩) | (go_at_call 30; (with_reducible refine (hygref6_Class.calls k a0 t168 _ A8.out).mono ?_); rintro e w' ⟨rfl, ⟨nd, rfl⟩⟩) | (go_at_call 19; (with_reducible refine (flt_Less.calls a0 a1 t169 _ A10.out).mono ?_); rintro e w' ⟨rfl, ⟨nd, rfl⟩⟩) | (go_at_call 31; (with_reducible refine (hygref6_Less.calls k a0 a1 t170 _ A11.out).mono ?_); rintro e w' ⟨rfl, ⟨nd, rfl⟩⟩))
          go_ret
          exact ⟨by first | rfl | (simp; done) | (simp [*]; done), by repeat (first | exact Drawn0.refl _ | apply Drawn0.step)⟩
      · rw [if_neg c9] at H
        have c9b0 : (t167 == t168) = false := beq_eq_false_iff_ne.mpr c9
        have c9b1 : (t167 != t168) = true := bne_iff_ne.mpr c9
        obtain rfl := Option.some.inj H
        go_enter Try.func9, Try.ntmps9
        go_wp2_with (first | ((with_reducible refine gate_callee (f := 14) rfl ?_); refine goesL_ (some 5) rfl rfl Try.func14 (by kernel_rfl) rfl #[] rfl (by (try simp only [List.map_toArray, List.map_cons, List.map_nil]); first | done | rfl | (simp only [List.length_drop, List.length_take]; rfl)) ?_; (with_reducible refine (hyglaw6_first.calls k  true _ A3.out).mono ?_); rintro e w' ⟨rfl, ⟨nd, rfl⟩⟩; refine ⟨_, rfl, ?_⟩) | ((with_reducible refine gate_callee (f := 14) rfl ?_); refine goesL_ (some 7) rfl rfl Try.func14 (by kernel_rfl) rfl #[] rfl (by (try simp only [List.map_toArray, List.map_cons, List.map_nil]); first | done | rfl | (simp only [List.length_drop, List.length_take]; rfl)) ?_; (with_reducible refine (hyglaw6_first.calls k  true _ A5.out).mono ?_); rintro e w' ⟨rfl, ⟨nd, rfl⟩⟩; refine ⟨_, rfl, ?_⟩) | (go_at_call 22; (with_reducible refine (flt_Class.calls a0 t167 _ A7.out).mono ?_); rintro e w' ⟨rfl, ⟨nd, rfl⟩⟩) | (go_at_call 30; (with_reducible refine (hygref6_Class.calls k a0 t168 _ A8.out).mono ?_); rintro e w' ⟨rfl, ⟨nd, rfl⟩⟩))
        go_ret
        exact ⟨by first | rfl | (simp; done) | (simp [*]; done), by repeat (first | exact Drawn0.refl _ | apply Drawn0.step)⟩
    · replace c6 := Bool.eq_false_iff.mpr c6
      subst c6
      have H1 : (some false) = some r := by rw [if_neg (show ¬ (false = true) by decide)] at H; exact H
      clear H
      have H := H1
      clear H1
      obtain rfl := Option.some.inj H
      go_enter Try.func9, Try.ntmps9
      go_wp2_with (first | ((with_reducible refine gate_callee (f := 14) rfl ?_); refine goesL_ (some 5) rfl rfl Try.func14 (by kernel_rfl) rfl #[] rfl (by (try simp only [List.map_toArray, List.map_cons, List.map_nil]); first | done | rfl | (simp only [List.length_drop, List.length_take]; rfl)) ?_; (with_reducible refine (hyglaw6_first.calls k  true _ A3.out).mono ?_); rintro e w' ⟨rfl, ⟨nd, rfl⟩⟩; refine ⟨_, rfl, ?_⟩) | ((with_reducible refine gate_callee (f := 14) rfl ?_); refine goesL_ (some 7) rfl rfl Try.func14 (by kernel_rfl) rfl #[] rfl (by (try simp only [List.map_toArray, List.map_cons, List.map_nil]); first | done | rfl | (simp only [List.length_drop, List.length_take]; rfl)) ?_; (with_reducible refine (hyglaw6_first.calls k  false _ A5.out).mono ?_); rintro e w' ⟨rfl, ⟨nd, rfl⟩⟩; refine ⟨_, rfl, ?_⟩))
      go_ret
      exact ⟨by first | rfl | (simp; done) | (simp [*]; done), by repeat (first | exact Drawn0.refl _ | apply Drawn0.step)⟩
  · replace c4 := Bool.eq_false_iff.mpr c4
    subst c4
    have H1 : (some false) = some r := by rw [if_neg (show ¬ (false = true) by decide)] at H; exact H
    clear H
    have H := H1
    clear H1
    obtain rfl := Option.some.inj H
    go_enter Try.func9, Try.ntmps9
    go_wp2_with (first | ((with_reducible refine gate_callee (f := 14) rfl ?_); refine goesL_ (some 5) rfl rfl Try.func14 (by kernel_rfl) rfl #[] rfl (by (try simp only [List.map_toArray, List.map_cons, List.map_nil]); first | done | rfl | (simp only [List.length_drop, List.length_take]; rfl)) ?_; (with_reducible refine (hyglaw6_first.calls k  false _ A3.out).mono ?_); rintro e w' ⟨rfl, ⟨nd, rfl⟩⟩; refine ⟨_, rfl, ?_⟩))
    go_ret
    exact ⟨by first | rfl | (simp; done) | (simp [*]; done), by repeat (first | exact Drawn0.refl _ | apply Drawn0.step)⟩

/-- THE ONE PURE STATEMENT of hyglaw6_FltTells: yours. -/
def hyglaw6_FltTells.Pure : Prop := ∀ (a0 : Int) (a1 : Int), (Lit.int .u64 a0).wf = true → (Lit.int .u64 a1).wf = true → ∃ k, hyglaw6_FltTells.f k a0 a1 = some true
theorem hyglaw6_FltTells.walk (P : hyglaw6_FltTells.Pure) (a0 : Int) (a1 : Int) (w : World) (w0 : (Lit.int .u64 a0).wf = true) (w1 : (Lit.int .u64 a1).wf = true) :
    Calls Try.prog 9 #[.int .u64 a0, .int .u64 a1] w fun e w' => e = .returned (.bool true) ∧ Below w.heap.size w w' := by
  obtain ⟨k, h⟩ := P a0 a1 w0 w1
  refine (hyglaw6_FltTells.calls k a0 a1 true w h).mono ?_
  rintro e w' ⟨rfl, hd⟩
  exact ⟨rfl, hd.below⟩

end Go.Proofs.Ytmljncgglpckcaa.PFltTells
