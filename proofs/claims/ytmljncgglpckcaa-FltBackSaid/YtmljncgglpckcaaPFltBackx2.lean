-- Made by a program of this session, after the guide's print, out of the translation. Lean checks it.
import Derived.Test.YtmljncgglpckcaaPFltBackx0
import Derived.Test.YtmljncgglpckcaaPFltBackx1
namespace Go.Proofs.Ytmljncgglpckcaa.PFltBack
open Go.RowKit Go.Proofs.YtmljncgglpckcaaW.PrintWords Go.Proofs.YtmljncgglpckcaaW.PrintLast Go.Proofs.YtmljncgglpckcaaW.PrintMore
attribute [local go_sem] max2_int min2_int max_two min_two max_three min_three max_four min_four   -- for this text's walks alone
set_option linter.unusedVariables false
set_option linter.unusedSimpArgs false

/-! ### flt_Less: function 19 -/
def flt_Less.f (a0 : Int) (a1 : Int) : Option (Bool) := (flt_nan.f a0).bind fun t114 => (if t114 = true then (some false) else ((flt_nan.f a1).bind fun t115 => (if t115 = true then (some false) else ((flt_Equal.f a0 a1).bind fun t116 => (if t116 = true then (some false) else ((flt_Order.f a0 a1).bind fun t117 => (some (decide (t117 < 0)))))))))
set_option maxHeartbeats 8000000 in
set_option maxRecDepth 100000 in
theorem flt_Less.calls (a0 : Int) (a1 : Int) (r : Bool) (w : World) (h : flt_Less.f a0 a1 = some r) :
    Calls Try.prog 19 #[.int .u64 a0, .int .u64 a1] w fun e w' => e = .returned (.bool r) ∧ Drawn0 w w' := by
  have H : ((flt_nan.f a0).bind fun t114 => (if t114 = true then (some false) else ((flt_nan.f a1).bind fun t115 => (if t115 = true then (some false) else ((flt_Equal.f a0 a1).bind fun t116 => (if t116 = true then (some false) else ((flt_Order.f a0 a1).bind fun t117 => (some (decide (t117 < 0)))))))))) = some r := h
  clear h
  replace H := Option.bind_eq_some_iff.mp H
  obtain ⟨t114, A30, H⟩ := H
  replace H : (if t114 = true then (some false) else ((flt_nan.f a1).bind fun t115 => (if t115 = true then (some false) else ((flt_Equal.f a0 a1).bind fun t116 => (if t116 = true then (some false) else ((flt_Order.f a0 a1).bind fun t117 => (some (decide (t117 < 0))))))))) = some r := H
  have A3 := Aside0.mk A30
  clear A30
  by_cases c4 : t114 = true
  · subst c4
    have H1 : (some false) = some r := by rw [if_pos rfl] at H; exact H
    clear H
    have H := H1
    clear H1
    obtain rfl := Option.some.inj H
    go_enter Try.func19, Try.ntmps19
    go_wp2_with (first | ((with_reducible refine gate_callee (f := 47) rfl ?_); refine goesL_ (some 6) rfl rfl Try.func47 (by kernel_rfl) rfl #[.int .u64 a0] rfl (by (try simp only [List.map_toArray, List.map_cons, List.map_nil]); first | done | rfl | (simp only [List.length_drop, List.length_take]; rfl)) ?_; (with_reducible refine (flt_nan.calls a0 true _ A3.out).mono ?_); rintro e w' ⟨rfl, ⟨nd, rfl⟩⟩; refine ⟨_, rfl, ?_⟩))
    go_ret
    exact ⟨by first | rfl | (simp; done) | (simp [*]; done), by repeat (first | exact Drawn0.refl _ | apply Drawn0.step)⟩
  · replace c4 := Bool.eq_false_iff.mpr c4
    subst c4
    have H1 : ((flt_nan.f a1).bind fun t115 => (if t115 = true then (some false) else ((flt_Equal.f a0 a1).bind fun t116 => (if t116 = true then (some false) else ((flt_Order.f a0 a1).bind fun t117 => (some (decide (t117 < 0)))))))) = some r := by rw [if_neg (show ¬ (false = true) by decide)] at H; exact H
    clear H
    have H := H1
    clear H1
    replace H := Option.bind_eq_some_iff.mp H
    obtain ⟨t115, A50, H⟩ := H
    replace H : (if t115 = true then (some false) else ((flt_Equal.f a0 a1).bind fun t116 => (if t116 = true then (some false) else ((flt_Order.f a0 a1).bind fun t117 => (some (decide (t117 < 0))))))) = some r := H
    have A5 := Aside0.mk A50
    clear A50
    by_cases c6 : t115 = true
    · subst c6
      have H1 : (some false) = some r := by rw [if_pos rfl] at H; exact H
      clear H
      have H := H1
      clear H1
      obtain rfl := Option.some.inj H
      go_enter Try.func19, Try.ntmps19
      go_wp2_with (first | ((with_reducible refine gate_callee (f := 47) rfl ?_); refine goesL_ (some 6) rfl rfl Try.func47 (by kernel_rfl) rfl #[.int .u64 a0] rfl (by (try simp only [List.map_toArray, List.map_cons, List.map_nil]); first | done | rfl | (simp only [List.length_drop, List.length_take]; rfl)) ?_; (with_reducible refine (flt_nan.calls a0 false _ A3.out).mono ?_); rintro e w' ⟨rfl, ⟨nd, rfl⟩⟩; refine ⟨_, rfl, ?_⟩) | (go_at_call 47; (with_reducible refine (flt_nan.calls a1 true _ A5.out).mono ?_); rintro e w' ⟨rfl, ⟨nd, rfl⟩⟩))
      go_ret
      exact ⟨by first | rfl | (simp; done) | (simp [*]; done), by repeat (first | exact Drawn0.refl _ | apply Drawn0.step)⟩
    · replace c6 := Bool.eq_false_iff.mpr c6
      subst c6
      have H1 : ((flt_Equal.f a0 a1).bind fun t116 => (if t116 = true then (some false) else ((flt_Order.f a0 a1).bind fun t117 => (some (decide (t117 < 0)))))) = some r := by rw [if_neg (show ¬ (false = true) by decide)] at H; exact H
      clear H
      have H := H1
      clear H1
      replace H := Option.bind_eq_some_iff.mp H
      obtain ⟨t116, A70, H⟩ := H
      replace H : (if t116 = true then (some false) else ((flt_Order.f a0 a1).bind fun t117 => (some (decide (t117 < 0))))) = some r := H
      have A7 := Aside0.mk A70
      clear A70
      by_cases c8 : t116 = true
      · subst c8
        have H1 : (some false) = some r := by rw [if_pos rfl] at H; exact H
        clear H
        have H := H1
        clear H1
        obtain rfl := Option.some.inj H
        go_enter Try.func19, Try.ntmps19
        go_wp2_with (first | ((with_reducible refine gate_callee (f := 47) rfl ?_); refine goesL_ (some 6) rfl rfl Try.func47 (by kernel_rfl) rfl #[.int .u64 a0] rfl (by (try simp only [List.map_toArray, List.map_cons, List.map_nil]); first | done | rfl | (simp only [List.length_drop, List.length_take]; rfl)) ?_; (with_reducible refine (flt_nan.calls a0 false _ A3.out).mono ?_); rintro e w' ⟨rfl, ⟨nd, rfl⟩⟩; refine ⟨_, rfl, ?_⟩) | (go_at_call 47; (with_reducible refine (flt_nan.calls a1 false _ A5.out).mono ?_); rintro e w' ⟨rfl, ⟨nd, rfl⟩⟩) | (go_at_call 21; (with_reducible refine (flt_Equal.calls a0 a1 true _ A7.out).mono ?_); rintro e w' ⟨rfl, ⟨nd, rfl⟩⟩))
        go_ret
        exact ⟨by first | rfl | (simp; done) | (simp [*]; done), by repeat (first | exact Drawn0.refl _ | apply Drawn0.step)⟩
      · replace c8 := Bool.eq_false_iff.mpr c8
        subst c8
        have H1 : ((flt_Order.f a0 a1).bind fun t117 => (some (decide (t117 < 0)))) = some r := by rw [if_neg (show ¬ (false = true) by decide)] at H; exact H
        clear H
        have H := H1
        clear H1
        replace H := Option.bind_eq_some_iff.mp H
        obtain ⟨t117, A90, H⟩ := H
        replace H : (some (decide (t117 < 0))) = some r := H
        have A9 := Aside0.mk A90
        clear A90
        obtain rfl := Option.some.inj H
        go_enter Try.func19, Try.ntmps19
        go_wp2_with (first | ((with_reducible refine gate_callee (f := 47) rfl ?_); refine goesL_ (some 6) rfl rfl Try.func47 (by kernel_rfl) rfl #[.int .u64 a0] rfl (by (try simp only [List.map_toArray, List.map_cons, List.map_nil]); first | done | rfl | (simp only [List.length_drop, List.length_take]; rfl)) ?_; (with_reducible refine (flt_nan.calls a0 false _ A3.out).mono ?_); rintro e w' ⟨rfl, ⟨nd, rfl⟩⟩; refine ⟨_, rfl, ?_⟩) | (go_at_call 47; (with_reducible refine (flt_nan.calls a1 false _ A5.out).mono ?_); rintro e w' ⟨rfl, ⟨nd, rfl⟩⟩) | (go_at_call 21; (with_reducible refine (flt_Equal.calls a0 a1 false _ A7.out).mono ?_); rintro e w' ⟨rfl, ⟨nd, rfl⟩⟩) | (go_at_call 20; (with_reducible refine (flt_Order.calls a0 a1 t117 _ A9.out).mono ?_); rintro e w' ⟨rfl, ⟨nd, rfl⟩⟩))
        go_ret
        exact ⟨by first | rfl | (simp; done) | (simp [*]; done), by repeat (first | exact Drawn0.refl _ | apply Drawn0.step)⟩

/-! ### flt_Class: function 22 -/
def flt_Class.f (a0 : Int) : Option (Int) := (flt_size.f a0).bind fun t118 => (if t118 > 9218868437227405312 then (some ((((0 + 1) + 1) + 1) + 1)) else (if t118 = 9218868437227405312 then (some (((0 + 1) + 1) + 1)) else (if t118 ≥ 4503599627370496 then (some ((0 + 1) + 1)) else (if t118 > 0 then (some (0 + 1)) else (some 0)))))
set_option maxHeartbeats 8000000 in
set_option maxRecDepth 100000 in
theorem flt_Class.calls (a0 : Int) (r : Int) (w : World) (h : flt_Class.f a0 = some r) :
    Calls Try.prog 22 #[.int .u64 a0] w fun e w' => e = .returned (.int .i64 r) ∧ Drawn0 w w' := by
  have H : ((flt_size.f a0).bind fun t118 => (if t118 > 9218868437227405312 then (some ((((0 + 1) + 1) + 1) + 1)) else (if t118 = 9218868437227405312 then (some (((0 + 1) + 1) + 1)) else (if t118 ≥ 4503599627370496 then (some ((0 + 1) + 1)) else (if t118 > 0 then (some (0 + 1)) else (some 0)))))) = some r := h
  clear h
  replace H := Option.bind_eq_some_iff.mp H
  obtain ⟨t118, A20, H⟩ := H
  replace H : (if t118 > 9218868437227405312 then (some ((((0 + 1) + 1) + 1) + 1)) else (if t118 = 9218868437227405312 then (some (((0 + 1) + 1) + 1)) else (if t118 ≥ 4503599627370496 then (some ((0 + 1) + 1)) else (if t118 > 0 then (some (0 + 1)) else (some 0))))) = some r := H
  have A2 := Aside0.mk A20
  clear A20
  by_cases c3 : t118 > 9218868437227405312
  · rw [if_pos c3] at H
    have c3b0 : decide (9218868437227405312 < t118) = true := decide_eq_true c3
    clear c3
    obtain rfl := Option.some.inj H
    go_enter Try.func22, Try.ntmps22
    go_wp2_with (first | ((with_reducible refine gate_callee (f := 42) rfl ?_); refine goesL_ (some 5) rfl rfl Try.func42 (by kernel_rfl) rfl #[.int .u64 a0] rfl (by (try simp only [List.map_toArray, List.map_cons, List.map_nil]); first | done | rfl | (simp only [List.length_drop, List.length_take]; rfl)) ?_; (with_reducible refine (flt_size.calls a0 t118 _ A2.out).mono ?_); rintro e w' ⟨rfl, ⟨nd, rfl⟩⟩; refine ⟨_, rfl, ?_⟩))
    go_ret
    exact ⟨by first | rfl | (simp; done) | (simp [*]; done), by repeat (first | exact Drawn0.refl _ | apply Drawn0.step)⟩
  · rw [if_neg c3] at H
    have c3b0 : decide (9218868437227405312 < t118) = false := decide_eq_false c3
    clear c3
    by_cases c4 : t118 = 9218868437227405312
    · rw [if_pos c4] at H
      have c4b0 : (t118 == 9218868437227405312) = true := beq_iff_eq.mpr c4
      have c4b1 : (t118 != 9218868437227405312) = false := bne_eq_false_iff_eq.mpr c4
      clear c4
      obtain rfl := Option.some.inj H
      go_enter Try.func22, Try.ntmps22
      go_wp2_with (first | ((with_reducible refine gate_callee (f := 42) rfl ?_); refine goesL_ (some 5) rfl rfl Try.func42 (by kernel_rfl) rfl #[.int .u64 a0] rfl (by (try simp only [List.map_toArray, List.map_cons, List.map_nil]); first | done | rfl | (simp only [List.length_drop, List.length_take]; rfl)) ?_; (with_reducible refine (flt_size.calls a0 t118 _ A2.out).mono ?_); rintro e w' ⟨rfl, ⟨nd, rfl⟩⟩; refine ⟨_, rfl, ?_⟩))
      go_ret
      exact ⟨by first | rfl | (simp; done) | (simp [*]; done), by repeat (first | exact Drawn0.refl _ | apply Drawn0.step)⟩
    · rw [if_neg c4] at H
      have c4b0 : (t118 == 9218868437227405312) = false := beq_eq_false_iff_ne.mpr c4
      have c4b1 : (t118 != 9218868437227405312) = true := bne_iff_ne.mpr c4
      by_cases c5 : t118 ≥ 4503599627370496
      · rw [if_pos c5] at H
        have c5b0 : decide (4503599627370496 ≤ t118) = true := decide_eq_true c5
        clear c5
        obtain rfl := Option.some.inj H
        go_enter Try.func22, Try.ntmps22
        go_wp2_with (first | ((with_reducible refine gate_callee (f := 42) rfl ?_); refine goesL_ (some 5) rfl rfl Try.func42 (by kernel_rfl) rfl #[.int .u64 a0] rfl (by (try simp only [List.map_toArray, List.map_cons, List.map_nil]); first | done | rfl | (simp only [List.length_drop, List.length_take]; rfl)) ?_; (with_reducible refine (flt_size.calls a0 t118 _ A2.out).mono ?_); rintro e w' ⟨rfl, ⟨nd, rfl⟩⟩; refine ⟨_, rfl, ?_⟩))
        go_ret
        exact ⟨by first | rfl | (simp; done) | (simp [*]; done), by repeat (first | exact Drawn0.refl _ | apply Drawn0.step)⟩
      · rw [if_neg c5] at H
        have c5b0 : decide (4503599627370496 ≤ t118) = false := decide_eq_false c5
        clear c5
        by_cases c6 : t118 > 0
        · rw [if_pos c6] at H
          have c6b0 : decide (0 < t118) = true := decide_eq_true c6
          clear c6
          obtain rfl := Option.some.inj H
          go_enter Try.func22, Try.ntmps22
          go_wp2_with (first | ((with_reducible refine gate_callee (f := 42) rfl ?_); refine goesL_ (some 5) rfl rfl Try.func42 (by kernel_rfl) rfl #[.int .u64 a0] rfl (by (try simp only [List.map_toArray, List.map_cons, List.map_nil]); first | done | rfl | (simp only [List.length_drop, List.length_take]; rfl)) ?_; (with_reducible refine (flt_size.calls a0 t118 _ A2.out).mono ?_); rintro e w' ⟨rfl, ⟨nd, rfl⟩⟩; refine ⟨_, rfl, ?_⟩))
          go_ret
          exact ⟨by first | rfl | (simp; done) | (simp [*]; done), by repeat (first | exact Drawn0.refl _ | apply Drawn0.step)⟩
        · rw [if_neg c6] at H
          have c6b0 : decide (0 < t118) = false := decide_eq_false c6
          clear c6
          obtain rfl := Option.some.inj H
          go_enter Try.func22, Try.ntmps22
          go_wp2_with (first | ((with_reducible refine gate_callee (f := 42) rfl ?_); refine goesL_ (some 5) rfl rfl Try.func42 (by kernel_rfl) rfl #[.int .u64 a0] rfl (by (try simp only [List.map_toArray, List.map_cons, List.map_nil]); first | done | rfl | (simp only [List.length_drop, List.length_take]; rfl)) ?_; (with_reducible refine (flt_size.calls a0 t118 _ A2.out).mono ?_); rintro e w' ⟨rfl, ⟨nd, rfl⟩⟩; refine ⟨_, rfl, ?_⟩))
          go_ret
          exact ⟨by first | rfl | (simp; done) | (simp [*]; done), by repeat (first | exact Drawn0.refl _ | apply Drawn0.step)⟩

/-! ### hyglaw6_first: function 14 -/
def hyglaw6_first.f (k : Nat)  : Option (Bool) := (flt_ToInt.f k 4611686018427387904).bind fun bt119 => ((flt_FromInt.f k 1).bind fun t121 => (if t121 = 4607182418800017408 then (if bt119.1 = 2 then (if bt119.2 = true then ((flt_Class.f 9221120237041090560).bind fun t122 => (if t122 = 4 then ((flt_Class.f 1).bind fun t123 => (if t123 = 1 then ((flt_Less.f 9223372036854775809 0).bind fun t124 => (if t124 = true then ((flt_Equal.f 0 9223372036854775808).bind fun t125 => (some t125)) else (some false))) else (some false))) else (some false))) else (some false)) else (some false)) else (some false)))
theorem hyglaw6_first.mono : ∀ k, LeO (hyglaw6_first.f k ) (hyglaw6_first.f (k + 1) ) := by
  intro  k
  unfold hyglaw6_first.f
  repeat' first
      | (with_reducible exact flt_FromInt.mono _ _)
      | (with_reducible exact flt_ToInt.mono _ _)
      | (with_reducible exact LeO.refl _)
      | (with_reducible exact LeO.none _)
      | (with_reducible refine LeO.ite ?_ ?_)
      | (with_reducible refine LeO.bind ?_ (fun _ => ?_))
      | exact flt_FromInt.mono _ _
      | exact flt_ToInt.mono _ _
      | exact LeO.none _
      | refine LeO.ite ?_ ?_
      | refine LeO.bind ?_ (fun _ => ?_)
set_option maxHeartbeats 8000000 in
set_option maxRecDepth 100000 in
theorem hyglaw6_first.calls (k : Nat)  (r : Bool) (w : World) (h : hyglaw6_first.f k  = some r) :
    Calls Try.prog 14 #[] w fun e w' => e = .returned (.bool r) ∧ Drawn0 w w' := by
  have H : ((flt_ToInt.f k 4611686018427387904).bind fun bt119 => ((flt_FromInt.f k 1).bind fun t121 => (if t121 = 4607182418800017408 then (if bt119.1 = 2 then (if bt119.2 = true then ((flt_Class.f 9221120237041090560).bind fun t122 => (if t122 = 4 then ((flt_Class.f 1).bind fun t123 => (if t123 = 1 then ((flt_Less.f 9223372036854775809 0).bind fun t124 => (if t124 = true then ((flt_Equal.f 0 9223372036854775808).bind fun t125 => (some t125)) else (some false))) else (some false))) else (some false))) else (some false)) else (some false)) else (some false)))) = some r := h
  clear h
  replace H := Option.bind_eq_some_iff.mp H
  obtain ⟨⟨t119, t120⟩, A10, H⟩ := H
  replace H : ((flt_FromInt.f k 1).bind fun t121 => (if t121 = 4607182418800017408 then (if t119 = 2 then (if t120 = true then ((flt_Class.f 9221120237041090560).bind fun t122 => (if t122 = 4 then ((flt_Class.f 1).bind fun t123 => (if t123 = 1 then ((flt_Less.f 9223372036854775809 0).bind fun t124 => (if t124 = true then ((flt_Equal.f 0 9223372036854775808).bind fun t125 => (some t125)) else (some false))) else (some false))) else (some false))) else (some false)) else (some false)) else (some false))) = some r := H
  have A1 := Aside0.mk A10
  clear A10
  replace H := Option.bind_eq_some_iff.mp H
  obtain ⟨t121, A20, H⟩ := H
  replace H : (if t121 = 4607182418800017408 then (if t119 = 2 then (if t120 = true then ((flt_Class.f 9221120237041090560).bind fun t122 => (if t122 = 4 then ((flt_Class.f 1).bind fun t123 => (if t123 = 1 then ((flt_Less.f 9223372036854775809 0).bind fun t124 => (if t124 = true then ((flt_Equal.f 0 9223372036854775808).bind fun t125 => (some t125)) else (some false))) else (some false))) else (some false))) else (some false)) else (some false)) else (some false)) = some r := H
  have A2 := Aside0.mk A20
  clear A20
  by_cases c3 : t121 = 4607182418800017408
  · rw [if_pos c3] at H
    have c3b0 : (t121 == 4607182418800017408) = true := beq_iff_eq.mpr c3
    have c3b1 : (t121 != 4607182418800017408) = false := bne_eq_false_iff_eq.mpr c3
    clear c3
    by_cases c4 : t119 = 2
    · rw [if_pos c4] at H
      have c4b0 : (t119 == 2) = true := beq_iff_eq.mpr c4
      have c4b1 : (t119 != 2) = false := bne_eq_false_iff_eq.mpr c4
      clear c4
      by_cases c5 : t120 = true
      · subst c5
        have H1 : ((flt_Class.f 9221120237041090560).bind fun t122 => (if t122 = 4 then ((flt_Class.f 1).bind fun t123 => (if t123 = 1 then ((flt_Less.f 9223372036854775809 0).bind fun t124 => (if t124 = true then ((flt_Equal.f 0 9223372036854775808).bind fun t125 => (some t125)) else (some false))) else (some false))) else (some false))) = some r := by rw [if_pos rfl] at H; exact H
        clear H
        have H := H1
        clear H1
        replace H := Option.bind_eq_some_iff.mp H
        obtain ⟨t122, A60, H⟩ := H
        replace H : (if t122 = 4 then ((flt_Class.f 1).bind fun t123 => (if t123 = 1 then ((flt_Less.f 9223372036854775809 0).bind fun t124 => (if t124 = true then ((flt_Equal.f 0 9223372036854775808).bind fun t125 => (some t125)) else (some false))) else (some false))) else (some false)) = some r := H
        have A6 := Aside0.mk A60
        clear A60
        by_cases c7 : t122 = 4
        · rw [if_pos c7] at H
          have c7b0 : (t122 == 4) = true := beq_iff_eq.mpr c7
          have c7b1 : (t122 != 4) = false := bne_eq_false_iff_eq.mpr c7
          clear c7
          replace H := Option.bind_eq_some_iff.mp H
          obtain ⟨t123, A80, H⟩ := H
          replace H : (if t123 = 1 then ((flt_Less.f 9223372036854775809 0).bind fun t124 => (if t124 = true then ((flt_Equal.f 0 9223372036854775808).bind fun t125 => (some t125)) else (some false))) else (some false)) = some r := H
          have A8 := Aside0.mk A80
          clear A80
          by_cases c9 : t123 = 1
          · rw [if_pos c9] at H
            have c9b0 : (t123 == 1) = true := beq_iff_eq.mpr c9
            have c9b1 : (t123 != 1) = false := bne_eq_false_iff_eq.mpr c9
            clear c9
            replace H := Option.bind_eq_some_iff.mp H
            obtain ⟨t124, A100, H⟩ := H
            replace H : (if t124 = true then ((flt_Equal.f 0 9223372036854775808).bind fun t125 => (some t125)) else (some false)) = some r := H
            have A10 := Aside0.mk A100
            clear A100
            by_cases c11 : t124 = true
            · subst c11
              have H1 : ((flt_Equal.f 0 9223372036854775808).bind fun t125 => (some t125)) = some r := by rw [if_pos rfl] at H; exact H
              clear H
              have H := H1
              clear H1
              replace H := Option.bind_eq_some_iff.mp H
              obtain ⟨t125, A120, H⟩ := H
              replace H : (some t125) = some r := H
              have A12 := Aside0.mk A120
              clear A120
              obtain rfl := Option.some.inj H
              go_enter Try.func14, Try.ntmps14
              go_wp2_with (first | ((with_reducible refine gate_callee (f := 15) rfl ?_); refine goesL_ (some 4) rfl rfl Try.func15 (by kernel_rfl) rfl #[.int .u64 4611686018427387904] rfl (by (try simp only [List.map_toArray, List.map_cons, List.map_nil]); first | done | rfl | (simp only [List.length_drop, List.length_take]; rfl)) ?_; (with_reducible refine (flt_ToInt.calls k 4611686018427387904 t119 true _ A1.out).mono ?_); rintro e w' ⟨rfl, ⟨nd, rfl⟩⟩; refine ⟨_, rfl, ?_⟩) | ((with_reducible refine gate_callee (f := 17) rfl ?_); refine goesL_ (some 7) rfl rfl Try.func17 (by kernel_rfl) rfl #[.int .i64 1] rfl (by (try simp only [List.map_toArray, List.map_cons, List.map_nil]); first | done | rfl | (simp only [List.length_drop, List.length_take]; rfl)) ?_; (with_reducible refine (flt_FromInt.calls k 1 t121 _ A2.out).mono ?_); rintro e w' ⟨rfl, ⟨nd, rfl⟩⟩; refine ⟨_, rfl, ?_⟩) | (go_at_call 22; (with_reducible refine (flt_Class.calls 9221120237041090560 t122 _ A6.out).mono ?_); rintro e w' ⟨rfl, ⟨nd, rfl⟩⟩) | (go_at_call 22; (with_reducible refine (flt_Class.calls 1 t123 _ A8.out).mono ?_); rintro e w' ⟨rfl, ⟨nd, rfl⟩⟩) | (go_at_call 19; (with_reducible refine (flt_Less.calls 9223372036854775809 0 true _ A10.out).mono ?_); rintro e w' ⟨rfl, ⟨nd, rfl⟩⟩) | (go_at_call 21; (with_reducible refine (flt_Equal.calls 0 9223372036854775808 t125 _ A12.out).mono ?_); rintro e w' ⟨rfl, ⟨nd, rfl⟩⟩))
              go_ret
              exact ⟨by first | rfl | (simp; done) | (simp [*]; done), by repeat (first | exact Drawn0.refl _ | apply Drawn0.step)⟩
            · replace c11 := Bool.eq_false_iff.mpr c11
              subst c11
              have H1 : (some false) = some r := by rw [if_neg (show ¬ (false = true) by decide)] at H; exact H
              clear H
              have H := H1
              clear H1
              obtain rfl := Option.some.inj H
              go_enter Try.func14, Try.ntmps14
              go_wp2_with (first | ((with_reducible refine gate_callee (f := 15) rfl ?_); refine goesL_ (some 4) rfl rfl Try.func15 (by kernel_rfl) rfl #[.int .u64 4611686018427387904] rfl (by (try simp only [List.map_toArray, List.map_cons, List.map_nil]); first | done | rfl | (simp only [List.length_drop, List.length_take]; rfl)) ?_; (with_reducible refine (flt_ToInt.calls k 4611686018427387904 t119 true _ A1.out).mono ?_); rintro e w' ⟨rfl, ⟨nd, rfl⟩⟩; refine ⟨_, rfl, ?_⟩) | ((with_reducible refine gate_callee (f := 17) rfl ?_); refine goesL_ (some 7) rfl rfl Try.func17 (by kernel_rfl) rfl #[.int .i64 1] rfl (by (try simp only [List.map_toArray, List.map_cons, List.map_nil]); first | done | rfl | (simp only [List.length_drop, List.length_take]; rfl)) ?_; (with_reducible refine (flt_FromInt.calls k 1 t121 _ A2.out).mono ?_); rintro e w' ⟨rfl, ⟨nd, rfl⟩⟩; refine ⟨_, rfl, ?_⟩) | (go_at_call 22; (with_reducible refine (flt_Class.calls 9221120237041090560 t122 _ A6.out).mono ?_); rintro e w' ⟨rfl, ⟨nd, rfl⟩⟩) | (go_at_call 22; (with_reducible refine (flt_Class.calls 1 t123 _ A8.out).mono ?_); rintro e w' ⟨rfl, ⟨nd, rfl⟩⟩) | (go_at_call 19; (with_reducible refine (flt_Less.calls 9223372036854775809 0 false _ A10.out).mono ?_); rintro e w' ⟨rfl, ⟨nd, rfl⟩⟩))
              go_ret
              exact ⟨by first | rfl | (simp; done) | (simp [*]; done), by repeat (first | exact Drawn0.refl _ | apply Drawn0.step)⟩
          · rw [if_neg c9] at H
            have c9b0 : (t123 == 1) = false := beq_eq_false_iff_ne.mpr c9
            have c9b1 : (t123 != 1) = true := bne_iff_ne.mpr c9
            obtain rfl := Option.some.inj H
            go_enter Try.func14, Try.ntmps14
            go_wp2_with (first | ((with_reducible refine gate_callee (f := 15) rfl ?_); refine goesL_ (some 4) rfl rfl Try.func15 (by kernel_rfl) rfl #[.int .u64 4611686018427387904] rfl (by (try simp only [List.map_toArray, List.map_cons, List.map_nil]); first | done | rfl | (simp only [List.length_drop, List.length_take]; rfl)) ?_; (with_reducible refine (flt_ToInt.calls k 4611686018427387904 t119 true _ A1.out).mono ?_); rintro e w' ⟨rfl, ⟨nd, rfl⟩⟩; refine ⟨_, rfl, ?_⟩) | ((with_reducible refine gate_callee (f := 17) rfl ?_); refine goesL_ (some 7) rfl rfl Try.func17 (by kernel_rfl) rfl #[.int .i64 1] rfl (by (try simp only [List.map_toArray, List.map_cons, List.map_nil]); first | done | rfl | (simp only [List.length_drop, List.length_take]; rfl)) ?_; (with_reducible refine (flt_FromInt.calls k 1 t121 _ A2.out).mono ?_); rintro e w' ⟨rfl, ⟨nd, rfl⟩⟩; refine ⟨_, rfl, ?_⟩) | (go_at_call 22; (with_reducible refine (flt_Class.calls 9221120237041090560 t122 _ A6.out).mono ?_); rintro e w' ⟨rfl, ⟨nd, rfl⟩⟩) | (go_at_call 22; (with_reducible refine (flt_Class.calls 1 t123 _ A8.out).mono ?_); rintro e w' ⟨rfl, ⟨nd, rfl⟩⟩))
            go_ret
            exact ⟨by first | rfl | (simp; done) | (simp [*]; done), by repeat (first | exact Drawn0.refl _ | apply Drawn0.step)⟩
        · rw [if_neg c7] at H
          have c7b0 : (t122 == 4) = false := beq_eq_false_iff_ne.mpr c7
          have c7b1 : (t122 != 4) = true := bne_iff_ne.mpr c7
          obtain rfl := Option.some.inj H
          go_enter Try.func14, Try.ntmps14
          go_wp2_with (first | ((with_reducible refine gate_callee (f := 15) rfl ?_); refine goesL_ (some 4) rfl rfl Try.func15 (by kernel_rfl) rfl #[.int .u64 4611686018427387904] rfl (by (try simp only [List.map_toArray, List.map_cons, List.map_nil]); first | done | rfl | (simp only [List.length_drop, List.length_take]; rfl)) ?_; (with_reducible refine (flt_ToInt.calls k 4611686018427387904 t119 true _ A1.out).mono ?_); rintro e w' ⟨rfl, ⟨nd, rfl⟩⟩; refine ⟨_, rfl, ?_⟩) | ((with_reducible refine gate_callee (f := 17) rfl ?_); refine goesL_ (some 7) rfl rfl Try.func17 (by kernel_rfl) rfl #[.int .i64 1] rfl (by (try simp only [List.map_toArray, List.map_cons, List.map_nil]); first | done | rfl | (simp only [List.length_drop, List.length_take]; rfl)) ?_; (with_reducible refine (flt_FromInt.calls k 1 t121 _ A2.out).mono ?_); rintro e w' ⟨rfl, ⟨nd, rfl⟩⟩; refine ⟨_, rfl, ?_⟩) | (go_at_call 22; (with_reducible refine (flt_Class.calls 9221120237041090560 t122 _ A6.out).mono ?_); rintro e w' ⟨rfl, ⟨nd, rfl⟩⟩))
          go_ret
          exact ⟨by first | rfl | (simp; done) | (simp [*]; done), by repeat (first | exact Drawn0.refl _ | apply Drawn0.step)⟩
      · replace c5 := Bool.eq_false_iff.mpr c5
        subst c5
        have H1 : (some false) = some r := by rw [if_neg (show ¬ (false = true) by decide)] at H; exact H
        clear H
        have H := H1
        clear H1
        obtain rfl := Option.some.inj H
        go_enter Try.func14, Try.ntmps14
        go_wp2_with (first | ((with_reducible refine gate_callee (f := 15) rfl ?_); refine goesL_ (some 4) rfl rfl Try.func15 (by kernel_rfl) rfl #[.int .u64 4611686018427387904] rfl (by (try simp only [List.map_toArray, List.map_cons, List.map_nil]); first | done | rfl | (simp only [List.length_drop, List.length_take]; rfl)) ?_; (with_reducible refine (flt_ToInt.calls k 4611686018427387904 t119 false _ A1.out).mono ?_); rintro e w' ⟨rfl, ⟨nd, rfl⟩⟩; refine ⟨_, rfl, ?_⟩) | ((with_reducible refine gate_callee (f := 17) rfl ?_); refine goesL_ (some 7) rfl rfl Try.func17 (by kernel_rfl) rfl #[.int .i64 1] rfl (by (try simp only [List.map_toArray, List.map_cons, List.map_nil]); first | done | rfl | (simp only [List.length_drop, List.length_take]; rfl)) ?_; (with_reducible refine (flt_FromInt.calls k 1 t121 _ A2.out).mono ?_); rintro e w' ⟨rfl, ⟨nd, rfl⟩⟩; refine ⟨_, rfl, ?_⟩))
        go_ret
        exact ⟨by first | rfl | (simp; done) | (simp [*]; done), by repeat (first | exact Drawn0.refl _ | apply Drawn0.step)⟩
    · rw [if_neg c4] at H
      have c4b0 : (t119 == 2) = false := beq_eq_false_iff_ne.mpr c4
      have c4b1 : (t119 != 2) = true := bne_iff_ne.mpr c4
      obtain rfl := Option.some.inj H
      go_enter Try.func14, Try.ntmps14
      go_wp2_with (first | ((with_reducible refine gate_callee (f := 15) rfl ?_); refine goesL_ (some 4) rfl rfl Try.func15 (by kernel_rfl) rfl #[.int .u64 4611686018427387904] rfl (by (try simp only [List.map_toArray, List.map_cons, List.map_nil]); first | done | rfl | (simp only [List.length_drop, List.length_take]; rfl)) ?_; (with_reducible refine (flt_ToInt.calls k 4611686018427387904 t119 t120 _ A1.out).mono ?_); rintro e w' ⟨rfl, ⟨nd, rfl⟩⟩; refine ⟨_, rfl, ?_⟩) | ((with_reducible refine gate_callee (f := 17) rfl ?_); refine goesL_ (some 7) rfl rfl Try.func17 (by kernel_rfl) rfl #[.int .i64 1] rfl (by (try simp only [List.map_toArray, List.map_cons, List.map_nil]); first | done | rfl | (simp only [List.length_drop, List.length_take]; rfl)) ?_; (with_reducible refine (flt_FromInt.calls k 1 t121 _ A2.out).mono ?_); rintro e w' ⟨rfl, ⟨nd, rfl⟩⟩; refine ⟨_, rfl, ?_⟩))
      go_ret
      exact ⟨by first | rfl | (simp; done) | (simp [*]; done), by repeat (first | exact Drawn0.refl _ | apply Drawn0.step)⟩
  · rw [if_neg c3] at H
    have c3b0 : (t121 == 4607182418800017408) = false := beq_eq_false_iff_ne.mpr c3
    have c3b1 : (t121 != 4607182418800017408) = true := bne_iff_ne.mpr c3
    obtain rfl := Option.some.inj H
    go_enter Try.func14, Try.ntmps14
    go_wp2_with (first | ((with_reducible refine gate_callee (f := 15) rfl ?_); refine goesL_ (some 4) rfl rfl Try.func15 (by kernel_rfl) rfl #[.int .u64 4611686018427387904] rfl (by (try simp only [List.map_toArray, List.map_cons, List.map_nil]); first | done | rfl | (simp only [List.length_drop, List.length_take]; rfl)) ?_; (with_reducible refine (flt_ToInt.calls k 4611686018427387904 t119 t120 _ A1.out).mono ?_); rintro e w' ⟨rfl, ⟨nd, rfl⟩⟩; refine ⟨_, rfl, ?_⟩) | ((with_reducible refine gate_callee (f := 17) rfl ?_); refine goesL_ (some 7) rfl rfl Try.func17 (by kernel_rfl) rfl #[.int .i64 1] rfl (by (try simp only [List.map_toArray, List.map_cons, List.map_nil]); first | done | rfl | (simp only [List.length_drop, List.length_take]; rfl)) ?_; (with_reducible refine (flt_FromInt.calls k 1 t121 _ A2.out).mono ?_); rintro e w' ⟨rfl, ⟨nd, rfl⟩⟩; refine ⟨_, rfl, ?_⟩))
    go_ret
    exact ⟨by first | rfl | (simp; done) | (simp [*]; done), by repeat (first | exact Drawn0.refl _ | apply Drawn0.step)⟩

/-! ### hyglaw6_FltBack: function 4 -/
mutual
def hyglaw6_FltBack.j0 : Nat → Int → Int → Int → Int → Bool → Option (Bool)
  | 0, _, _, _, _, _ => none
  | k + 1, x0, x1, x5, x6, x40 => if x40 = true then (some false) else ((flt_ToInt.f k x5).bind fun bt134 => (if x0 ≥ (-9007199254740992) then (hyglaw6_FltBack.j1 k x0 x1 x5 x6 bt134.1 bt134.2 (decide (x0 ≤ 9007199254740992))) else (hyglaw6_FltBack.j1 k x0 x1 x5 x6 bt134.1 bt134.2 false)))
def hyglaw6_FltBack.j1 : Nat → Int → Int → Int → Int → Int → Bool → Bool → Option (Bool)
  | 0, _, _, _, _, _, _, _ => none
  | k + 1, x0, x1, x5, x6, x7, x8, x51 => if x51 = true then ((hyglaw6_first.f k).bind fun t136 => (if t136 = true then (if x8 = true then (if x7 = x0 then (if x1 < (-9007199254740992) then (some true) else (if x1 > 9007199254740992 then (some true) else (some ((x0 == x1) == (x5 == x6))))) else (some false)) else (some false)) else (some false))) else (if x8 = true then (if x7 < x0 then ((hyglaw6_first.f k).bind fun t137 => (if t137 = true then (some (decide ((IntKind.u64.wrap ((IntKind.u64.wrap (x0)) - (IntKind.u64.wrap (x7)))) ≤ 512))) else (some false))) else ((hyglaw6_first.f k).bind fun t138 => (if t138 = true then (some (decide ((IntKind.u64.wrap ((IntKind.u64.wrap (x7)) - (IntKind.u64.wrap (x0)))) ≤ 512))) else (some false)))) else ((hyglaw6_first.f k).bind fun t139 => (if t139 = true then (some (x5 == 4890909195324358656)) else (some false))))
end
def hyglaw6_FltBack.f (k : Nat) (a0 : Int) (a1 : Int) : Option (Bool) := (hyglaw6_first.f k).bind fun t126 => (if t126 = true then ((flt_FromInt.f k a0).bind fun t127 => ((flt_FromInt.f k a1).bind fun t128 => (if a0 < a1 then ((flt_Less.f t128 t127).bind fun t129 => (if t129 = true then (hyglaw6_FltBack.j0 k a0 a1 t127 t128 true) else (if a0 = a1 then (if t127 = t128 then ((flt_Less.f t127 0).bind fun t130 => (hyglaw6_FltBack.j0 k a0 a1 t127 t128 (t130 != (decide (a0 < 0))))) else (hyglaw6_FltBack.j0 k a0 a1 t127 t128 true)) else ((flt_Less.f t127 0).bind fun t131 => (hyglaw6_FltBack.j0 k a0 a1 t127 t128 (t131 != (decide (a0 < 0)))))))) else (if a0 = a1 then (if t127 = t128 then ((flt_Less.f t127 0).bind fun t132 => (hyglaw6_FltBack.j0 k a0 a1 t127 t128 (t132 != (decide (a0 < 0))))) else (hyglaw6_FltBack.j0 k a0 a1 t127 t128 true)) else ((flt_Less.f t127 0).bind fun t133 => (hyglaw6_FltBack.j0 k a0 a1 t127 t128 (t133 != (decide (a0 < 0))))))))) else (some false))
theorem hyglaw6_FltBack.mono_l : ∀ k, (∀ y0 y1 y2 y3 y4, LeO (hyglaw6_FltBack.j0 k y0 y1 y2 y3 y4) (hyglaw6_FltBack.j0 (k + 1) y0 y1 y2 y3 y4)) ∧ (∀ y0 y1 y2 y3 y4 y5 y6, LeO (hyglaw6_FltBack.j1 k y0 y1 y2 y3 y4 y5 y6) (hyglaw6_FltBack.j1 (k + 1) y0 y1 y2 y3 y4 y5 y6))
  | 0 => ⟨fun _ _ _ _ _ r h => by simp [hyglaw6_FltBack.j0] at h, fun _ _ _ _ _ _ _ r h => by simp [hyglaw6_FltBack.j1] at h⟩
  | k + 1 => by
    obtain ⟨ih0, ih1⟩ := hyglaw6_FltBack.mono_l k
    refine ⟨?_, ?_⟩
    · intro y0 y1 y2 y3 y4
      unfold hyglaw6_FltBack.j0
      repeat' first
      | (with_reducible exact ih0 _ _ _ _ _)
      | (with_reducible exact ih1 _ _ _ _ _ _ _)
      | (with_reducible exact flt_FromInt.mono _ _)
      | (with_reducible exact flt_ToInt.mono _ _)
      | (with_reducible exact hyglaw6_first.mono _)
      | (with_reducible exact LeO.refl _)
      | (with_reducible exact LeO.none _)
      | (with_reducible refine LeO.ite ?_ ?_)
      | (with_reducible refine LeO.bind ?_ (fun _ => ?_))
      | exact ih0 _ _ _ _ _
      | exact ih1 _ _ _ _ _ _ _
      | exact flt_FromInt.mono _ _
      | exact flt_ToInt.mono _ _
      | exact hyglaw6_first.mono _
      | exact LeO.none _
      | refine LeO.ite ?_ ?_
      | refine LeO.bind ?_ (fun _ => ?_)
    · intro y0 y1 y2 y3 y4 y5 y6
      unfold hyglaw6_FltBack.j1
      repeat' first
      | (with_reducible exact ih0 _ _ _ _ _)
      | (with_reducible exact ih1 _ _ _ _ _ _ _)
      | (with_reducible exact flt_FromInt.mono _ _)
      | (with_reducible exact flt_ToInt.mono _ _)
      | (with_reducible exact hyglaw6_first.mono _)
      | (with_reducible exact LeO.refl _)
      | (with_reducible exact LeO.none _)
      | (with_reducible refine LeO.ite ?_ ?_)
      | (with_reducible refine LeO.bind ?_ (fun _ => ?_))
      | exact ih0 _ _ _ _ _
      | exact ih1 _ _ _ _ _ _ _
      | exact flt_FromInt.mono _ _
      | exact flt_ToInt.mono _ _
      | exact hyglaw6_first.mono _
      | exact LeO.none _
      | refine LeO.ite ?_ ?_
      | refine LeO.bind ?_ (fun _ => ?_)
theorem hyglaw6_FltBack.mono : ∀ a0 a1 k, LeO (hyglaw6_FltBack.f k a0 a1) (hyglaw6_FltBack.f (k + 1) a0 a1) := by
  intro a0 a1 k
  obtain ⟨ih0, ih1⟩ := hyglaw6_FltBack.mono_l k
  unfold hyglaw6_FltBack.f
  repeat' first
      | (with_reducible exact ih0 _ _ _ _ _)
      | (with_reducible exact ih1 _ _ _ _ _ _ _)
      | (with_reducible exact flt_FromInt.mono _ _)
      | (with_reducible exact flt_ToInt.mono _ _)
      | (with_reducible exact hyglaw6_first.mono _)
      | (with_reducible exact LeO.refl _)
      | (with_reducible exact LeO.none _)
      | (with_reducible refine LeO.ite ?_ ?_)
      | (with_reducible refine LeO.bind ?_ (fun _ => ?_))
      | exact ih0 _ _ _ _ _
      | exact ih1 _ _ _ _ _ _ _
      | exact flt_FromInt.mono _ _
      | exact flt_ToInt.mono _ _
      | exact hyglaw6_first.mono _
      | exact LeO.none _
      | refine LeO.ite ?_ ?_
      | refine LeO.bind ?_ (fun _ => ?_)
set_option maxHeartbeats 8000000 in
set_option maxRecDepth 100000 in
theorem hyglaw6_FltBack.calls (k : Nat) (a0 : Int) (a1 : Int) (r : Bool) (w : World) (h : hyglaw6_FltBack.f k a0 a1 = some r) :
    Calls Try.prog 4 #[.int .i64 a0, .int .i64 a1] w fun e w' => e = .returned (.bool r) ∧ Drawn0 w w' := by
  have H : ((hyglaw6_first.f k).bind fun t126 => (if t126 = true then ((flt_FromInt.f k a0).bind fun t127 => ((flt_FromInt.f k a1).bind fun t128 => (if a0 < a1 then ((flt_Less.f t128 t127).bind fun t129 => (if t129 = true then (hyglaw6_FltBack.j0 k a0 a1 t127 t128 true) else (if a0 = a1 then (if t127 = t128 then ((flt_Less.f t127 0).bind fun t130 => (hyglaw6_FltBack.j0 k a0 a1 t127 t128 (t130 != (decide (a0 < 0))))) else (hyglaw6_FltBack.j0 k a0 a1 t127 t128 true)) else ((flt_Less.f t127 0).bind fun t131 => (hyglaw6_FltBack.j0 k a0 a1 t127 t128 (t131 != (decide (a0 < 0)))))))) else (if a0 = a1 then (if t127 = t128 then ((flt_Less.f t127 0).bind fun t132 => (hyglaw6_FltBack.j0 k a0 a1 t127 t128 (t132 != (decide (a0 < 0))))) else (hyglaw6_FltBack.j0 k a0 a1 t127 t128 true)) else ((flt_Less.f t127 0).bind fun t133 => (hyglaw6_FltBack.j0 k a0 a1 t127 t128 (t133 != (decide (a0 < 0))))))))) else (some false))) = some r := h
  clear h
  replace H := Option.bind_eq_some_iff.mp H
  obtain ⟨t126, A30, H⟩ := H
  replace H : (if t126 = true then ((flt_FromInt.f k a0).bind fun t127 => ((flt_FromInt.f k a1).bind fun t128 => (if a0 < a1 then ((flt_Less.f t128 t127).bind fun t129 => (if t129 = true then (hyglaw6_FltBack.j0 k a0 a1 t127 t128 true) else (if a0 = a1 then (if t127 = t128 then ((flt_Less.f t127 0).bind fun t130 => (hyglaw6_FltBack.j0 k a0 a1 t127 t128 (t130 != (decide (a0 < 0))))) else (hyglaw6_FltBack.j0 k a0 a1 t127 t128 true)) else ((flt_Less.f t127 0).bind fun t131 => (hyglaw6_FltBack.j0 k a0 a1 t127 t128 (t131 != (decide (a0 < 0)))))))) else (if a0 = a1 then (if t127 = t128 then ((flt_Less.f t127 0).bind fun t132 => (hyglaw6_FltBack.j0 k a0 a1 t127 t128 (t132 != (decide (a0 < 0))))) else (hyglaw6_FltBack.j0 k a0 a1 t127 t128 true)) else ((flt_Less.f t127 0).bind fun t133 => (hyglaw6_FltBack.j0 k a0 a1 t127 t128 (t133 != (decide (a0 < 0))))))))) else (some false)) = some r := H
  have A3 := Aside0.mk A30
  clear A30
  by_cases c4 : t126 = true
  · subst c4
    have H1 : ((flt_FromInt.f k a0).bind fun t127 => ((flt_FromInt.f k a1).bind fun t128 => (if a0 < a1 then ((flt_Less.f t128 t127).bind fun t129 => (if t129 = true then (hyglaw6_FltBack.j0 k a0 a1 t127 t128 true) else (if a0 = a1 then (if t127 = t128 then ((flt_Less.f t127 0).bind fun t130 => (hyglaw6_FltBack.j0 k a0 a1 t127 t128 (t130 != (decide (a0 < 0))))) else (hyglaw6_FltBack.j0 k a0 a1 t127 t128 true)) else ((flt_Less.f t127 0).bind fun t131 => (hyglaw6_FltBack.j0 k a0 a1 t127 t128 (t131 != (decide (a0 < 0)))))))) else (if a0 = a1 then (if t127 = t128 then ((flt_Less.f t127 0).bind fun t132 => (hyglaw6_FltBack.j0 k a0 a1 t127 t128 (t132 != (decide (a0 < 0))))) else (hyglaw6_FltBack.j0 k a0 a1 t127 t128 true)) else ((flt_Less.f t127 0).bind fun t133 => (hyglaw6_FltBack.j0 k a0 a1 t127 t128 (t133 != (decide (a0 < 0))))))))) = some r := by rw [if_pos rfl] at H; exact H
    clear H
    have H := H1
    clear H1
    replace H := Option.bind_eq_some_iff.mp H
    obtain ⟨t127, A50, H⟩ := H
    replace H : ((flt_FromInt.f k a1).bind fun t128 => (if a0 < a1 then ((flt_Less.f t128 t127).bind fun t129 => (if t129 = true then (hyglaw6_FltBack.j0 k a0 a1 t127 t128 true) else (if a0 = a1 then (if t127 = t128 then ((flt_Less.f t127 0).bind fun t130 => (hyglaw6_FltBack.j0 k a0 a1 t127 t128 (t130 != (decide (a0 < 0))))) else (hyglaw6_FltBack.j0 k a0 a1 t127 t128 true)) else ((flt_Less.f t127 0).bind fun t131 => (hyglaw6_FltBack.j0 k a0 a1 t127 t128 (t131 != (decide (a0 < 0)))))))) else (if a0 = a1 then (if t127 = t128 then ((flt_Less.f t127 0).bind fun t132 => (hyglaw6_FltBack.j0 k a0 a1 t127 t128 (t132 != (decide (a0 < 0))))) else (hyglaw6_FltBack.j0 k a0 a1 t127 t128 true)) else ((flt_Less.f t127 0).bind fun t133 => (hyglaw6_FltBack.j0 k a0 a1 t127 t128 (t133 != (decide (a0 < 0)))))))) = some r := H
    have A5 := Aside0.mk A50
    clear A50
    replace H := Option.bind_eq_some_iff.mp H
    obtain ⟨t128, A60, H⟩ := H
    replace H : (if a0 < a1 then ((flt_Less.f t128 t127).bind fun t129 => (if t129 = true then (hyglaw6_FltBack.j0 k a0 a1 t127 t128 true) else (if a0 = a1 then (if t127 = t128 then ((flt_Less.f t127 0).bind fun t130 => (hyglaw6_FltBack.j0 k a0 a1 t127 t128 (t130 != (decide (a0 < 0))))) else (hyglaw6_FltBack.j0 k a0 a1 t127 t128 true)) else ((flt_Less.f t127 0).bind fun t131 => (hyglaw6_FltBack.j0 k a0 a1 t127 t128 (t131 != (decide (a0 < 0)))))))) else (if a0 = a1 then (if t127 = t128 then ((flt_Less.f t127 0).bind fun t132 => (hyglaw6_FltBack.j0 k a0 a1 t127 t128 (t132 != (decide (a0 < 0))))) else (hyglaw6_FltBack.j0 k a0 a1 t127 t128 true)) else ((flt_Less.f t127 0).bind fun t133 => (hyglaw6_FltBack.j0 k a0 a1 t127 t128 (t133 != (decide (a0 < 0))))))) = some r := H
    have A6 := Aside0.mk A60
    clear A60
    have HC7 := Aside0.mk H
    clear H
    go_enter Try.func4, Try.ntmps4
    go_upto_region 4 with (first | ((with_reducible refine gate_callee (f := 14) rfl ?_); refine goesL_ (some 10) rfl rfl Try.func14 (by kernel_rfl) rfl #[] rfl (by (try simp only [List.map_toArray, List.map_cons, List.map_nil]); first | done | rfl | (simp only [List.length_drop, List.length_take]; rfl)) ?_; (with_reducible refine (hyglaw6_first.calls k  true _ A3.out).mono ?_); rintro e w' ⟨rfl, ⟨nd, rfl⟩⟩; refine ⟨_, rfl, ?_⟩) | ((with_reducible refine gate_callee (f := 17) rfl ?_); refine goesL_ (some 13) rfl rfl Try.func17 (by kernel_rfl) rfl #[.int .i64 a0] rfl (by (try simp only [List.map_toArray, List.map_cons, List.map_nil]); first | done | rfl | (simp only [List.length_drop, List.length_take]; rfl)) ?_; (with_reducible refine (flt_FromInt.calls k a0 t127 _ A5.out).mono ?_); rintro e w' ⟨rfl, ⟨nd, rfl⟩⟩; refine ⟨_, rfl, ?_⟩) | ((with_reducible refine gate_callee (f := 17) rfl ?_); refine goesL_ (some 15) rfl rfl Try.func17 (by kernel_rfl) rfl #[.int .i64 a1] rfl (by (try simp only [List.map_toArray, List.map_cons, List.map_nil]); first | done | rfl | (simp only [List.length_drop, List.length_take]; rfl)) ?_; (with_reducible refine (flt_FromInt.calls k a1 t128 _ A6.out).mono ?_); rintro e w' ⟨rfl, ⟨nd, rfl⟩⟩; refine ⟨_, rfl, ?_⟩))
    (try simp only [Act.put, List.setIfInBounds_toArray, List.set_cons_zero, List.set_cons_succ])
    go_cut [40] (fun v40 wc => ∃ (kq : Nat) (x40_6 : Bool), v40 = .bool x40_6 ∧ Aside0 (hyglaw6_FltBack.j0 kq a0 a1 t127 t128 x40_6 = some r) ∧ Aside0 (kq ≤ k) ∧ Drawn0 w wc)
    case first =>
      have H := HC7.out
      clear HC7
      by_cases c8 : a0 < a1
      · rw [if_pos c8] at H
        have c8b0 : decide (a0 < a1) = true := decide_eq_true c8
        clear c8
        (first | rw [c8b0] | (simp only [i64_w, i32_w]; rw [c8b0]) | skip)
        replace H := Option.bind_eq_some_iff.mp H
        obtain ⟨t129, A90, H⟩ := H
        replace H : (if t129 = true then (hyglaw6_FltBack.j0 k a0 a1 t127 t128 true) else (if a0 = a1 then (if t127 = t128 then ((flt_Less.f t127 0).bind fun t130 => (hyglaw6_FltBack.j0 k a0 a1 t127 t128 (t130 != (decide (a0 < 0))))) else (hyglaw6_FltBack.j0 k a0 a1 t127 t128 true)) else ((flt_Less.f t127 0).bind fun t131 => (hyglaw6_FltBack.j0 k a0 a1 t127 t128 (t131 != (decide (a0 < 0))))))) = some r := H
        have A9 := Aside0.mk A90
        clear A90
        by_cases c10 : t129 = true
        · subst c10
          have H1 : (hyglaw6_FltBack.j0 k a0 a1 t127 t128 true) = some r := by rw [if_pos rfl] at H; exact H
          clear H
          have H := H1
          clear H1
          have H' := Aside0.mk H
          clear H
          go_wp2_with (first | (go_at_call 19; (with_reducible refine (flt_Less.calls t128 t127 true _ A9.out).mono ?_); rintro e w' ⟨rfl, ⟨nd, rfl⟩⟩))
          go_meet
          case rel => exact ⟨_, (true), (by first | rfl | (simp; done) | (simp [*]; done)), H', ⟨by first | omega | exact Nat.le_refl _⟩, by repeat (first | exact Drawn0.refl _ | apply Drawn0.step)⟩
        · replace c10 := Bool.eq_false_iff.mpr c10
          subst c10
          have H1 : (if a0 = a1 then (if t127 = t128 then ((flt_Less.f t127 0).bind fun t130 => (hyglaw6_FltBack.j0 k a0 a1 t127 t128 (t130 != (decide (a0 < 0))))) else (hyglaw6_FltBack.j0 k a0 a1 t127 t128 true)) else ((flt_Less.f t127 0).bind fun t131 => (hyglaw6_FltBack.j0 k a0 a1 t127 t128 (t131 != (decide (a0 < 0)))))) = some r := by rw [if_neg (show ¬ (false = true) by decide)] at H; exact H
          clear H
          have H := H1
          clear H1
          by_cases c11 : a0 = a1
          · rw [if_pos c11] at H
            have c11b0 : (a0 == a1) = true := beq_iff_eq.mpr c11
            have c11b1 : (a0 != a1) = false := bne_eq_false_iff_eq.mpr c11
            clear c11
            by_cases c12 : t127 = t128
            · rw [if_pos c12] at H
              have c12b0 : (t127 == t128) = true := beq_iff_eq.mpr c12
              have c12b1 : (t127 != t128) = false := bne_eq_false_iff_eq.mpr c12
              clear c12
              replace H := Option.bind_eq_some_iff.mp H
              obtain ⟨t130, A130, H⟩ := H
              replace H : (hyglaw6_FltBack.j0 k a0 a1 t127 t128 (t130 != (decide (a0 < 0)))) = some r := H
              have A13 := Aside0.mk A130
              clear A130
              have H' := Aside0.mk H
              clear H
              go_wp2_with (first | (go_at_call 19; (with_reducible refine (flt_Less.calls t128 t127 false _ A9.out).mono ?_); rintro e w' ⟨rfl, ⟨nd, rfl⟩⟩) | (go_at_call 19; (with_reducible refine (flt_Less.calls t127 0 t130 _ A13.out).mono ?_); rintro e w' ⟨rfl, ⟨nd, rfl⟩⟩))
              go_meet
              case rel => exact ⟨_, ((t130 != (decide (a0 < 0)))), (by first | rfl | (simp; done) | (simp [*]; done)), H', ⟨by first | omega | exact Nat.le_refl _⟩, by repeat (first | exact Drawn0.refl _ | apply Drawn0.step)⟩
            · rw [if_neg c12] at H
              have c12b0 : (t127 == t128) = false := beq_eq_false_iff_ne.mpr c12
              have c12b1 : (t127 != t128) = true := bne_iff_ne.mpr c12
              have H' := Aside0.mk H
              clear H
              go_wp2_with (first | (go_at_call 19; (with_reducible refine (flt_Less.calls t128 t127 false _ A9.out).mono ?_); rintro e w' ⟨rfl, ⟨nd, rfl⟩⟩))
              go_meet
              case rel => exact ⟨_, (true), (by first | rfl | (simp; done) | (simp [*]; done)), H', ⟨by first | omega | exact Nat.le_refl _⟩, by repeat (first | exact Drawn0.refl _ | apply Drawn0.step)⟩
          · rw [if_neg c11] at H
            have c11b0 : (a0 == a1) = false := beq_eq_false_iff_ne.mpr c11
            have c11b1 : (a0 != a1) = true := bne_iff_ne.mpr c11
            replace H := Option.bind_eq_some_iff.mp H
            obtain ⟨t131, A140, H⟩ := H
            replace H : (hyglaw6_FltBack.j0 k a0 a1 t127 t128 (t131 != (decide (a0 < 0)))) = some r := H
            have A14 := Aside0.mk A140
            clear A140
            have H' := Aside0.mk H
            clear H
            go_wp2_with (first | (go_at_call 19; (with_reducible refine (flt_Less.calls t128 t127 false _ A9.out).mono ?_); rintro e w' ⟨rfl, ⟨nd, rfl⟩⟩) | (go_at_call 19; (with_reducible refine (flt_Less.calls t127 0 t131 _ A14.out).mono ?_); rintro e w' ⟨rfl, ⟨nd, rfl⟩⟩))
            go_meet
            case rel => exact ⟨_, ((t131 != (decide (a0 < 0)))), (by first | rfl | (simp; done) | (simp [*]; done)), H', ⟨by first | omega | exact Nat.le_refl _⟩, by repeat (first | exact Drawn0.refl _ | apply Drawn0.step)⟩
      · rw [if_neg c8] at H
        have c8b0 : decide (a0 < a1) = false := decide_eq_false c8
        clear c8
        (first | rw [c8b0] | (simp only [i64_w, i32_w]; rw [c8b0]) | skip)
        by_cases c15 : a0 = a1
        · rw [if_pos c15] at H
          have c15b0 : (a0 == a1) = true := beq_iff_eq.mpr c15
          have c15b1 : (a0 != a1) = false := bne_eq_false_iff_eq.mpr c15
          clear c15
          by_cases c16 : t127 = t128
          · rw [if_pos c16] at H
            have c16b0 : (t127 == t128) = true := beq_iff_eq.mpr c16
            have c16b1 : (t127 != t128) = false := bne_eq_false_iff_eq.mpr c16
            clear c16
            replace H := Option.bind_eq_some_iff.mp H
            obtain ⟨t132, A170, H⟩ := H
            replace H : (hyglaw6_FltBack.j0 k a0 a1 t127 t128 (t132 != (decide (a0 < 0)))) = some r := H
            have A17 := Aside0.mk A170
            clear A170
            have H' := Aside0.mk H
            clear H
            go_wp2_with (first | (go_at_call 19; (with_reducible refine (flt_Less.calls t127 0 t132 _ A17.out).mono ?_); rintro e w' ⟨rfl, ⟨nd, rfl⟩⟩))
            go_meet
            case rel => exact ⟨_, ((t132 != (decide (a0 < 0)))), (by first | rfl | (simp; done) | (simp [*]; done)), H', ⟨by first | omega | exact Nat.le_refl _⟩, by repeat (first | exact Drawn0.refl _ | apply Drawn0.step)⟩
          · rw [if_neg c16] at H
            have c16b0 : (t127 == t128) = false := beq_eq_false_iff_ne.mpr c16
            have c16b1 : (t127 != t128) = true := bne_iff_ne.mpr c16
            have H' := Aside0.mk H
            clear H
            go_wp2
            go_meet
            case rel => exact ⟨_, (true), (by first | rfl | (simp; done) | (simp [*]; done)), H', ⟨by first | omega | exact Nat.le_refl _⟩, by repeat (first | exact Drawn0.refl _ | apply Drawn0.step)⟩
        · rw [if_neg c15] at H
          have c15b0 : (a0 == a1) = false := beq_eq_false_iff_ne.mpr c15
          have c15b1 : (a0 != a1) = true := bne_iff_ne.mpr c15
          replace H := Option.bind_eq_some_iff.mp H
          obtain ⟨t133, A180, H⟩ := H
          replace H : (hyglaw6_FltBack.j0 k a0 a1 t127 t128 (t133 != (decide (a0 < 0)))) = some r := H
          have A18 := Aside0.mk A180
          clear A180
          have H' := Aside0.mk H
          clear H
          go_wp2_with (first | (go_at_call 19; (with_reducible refine (flt_Less.calls t127 0 t133 _ A18.out).mono ?_); rintro e w' ⟨rfl, ⟨nd, rfl⟩⟩))
          go_meet
          case rel => exact ⟨_, ((t133 != (decide (a0 < 0)))), (by first | rfl | (simp; done) | (simp [*]; done)), H', ⟨by first | omega | exact Nat.le_refl _⟩, by repeat (first | exact Drawn0.refl _ | apply Drawn0.step)⟩
    case rest =>
      clear HC7
      try clear c1
      try clear p2
      try clear c4
      try clear c8
      try clear c8b0
      try clear c10
      try clear c11
      try clear c11b0
      try clear c11b1
      try clear c12
      try clear c12b0
      try clear c12b1
      try clear c14
      try clear c15
      try clear c15b0
      try clear c15b1
      try clear c16
      try clear c16b0
      try clear c16b1
      try clear c17
      obtain ⟨kq, x40_6, rfl, HA, HJ6, ⟨mc6, rfl⟩⟩ := hcut
      cases kq with
      | zero => exact absurd HA.out (by simp [hyglaw6_FltBack.j0])
      | succ kj6 =>
        have H := HA.out
        clear HA
        simp only [hyglaw6_FltBack.j0] at H
        by_cases c19 : x40_6 = true
        · subst c19
          have H1 : (some false) = some r := by rw [if_pos rfl] at H; exact H
          clear H
          have H := H1
          clear H1
          obtain rfl := Option.some.inj H
          go_wp2
          go_ret
          exact ⟨by first | rfl | (simp; done) | (simp [*]; done), by repeat (first | exact Drawn0.refl _ | apply Drawn0.step)⟩
        · replace c19 := Bool.eq_false_iff.mpr c19
          subst c19
          have H1 : ((flt_ToInt.f kj6 t127).bind fun bt134 => (if a0 ≥ (-9007199254740992) then (hyglaw6_FltBack.j1 kj6 a0 a1 t127 t128 bt134.1 bt134.2 (decide (a0 ≤ 9007199254740992))) else (hyglaw6_FltBack.j1 kj6 a0 a1 t127 t128 bt134.1 bt134.2 false))) = some r := by rw [if_neg (show ¬ (false = true) by decide)] at H; exact H
          clear H
          have H := H1
          clear H1
          replace H := Option.bind_eq_some_iff.mp H
          obtain ⟨⟨t134, t135⟩, A200, H⟩ := H
          replace H : (if a0 ≥ (-9007199254740992) then (hyglaw6_FltBack.j1 kj6 a0 a1 t127 t128 t134 t135 (decide (a0 ≤ 9007199254740992))) else (hyglaw6_FltBack.j1 kj6 a0 a1 t127 t128 t134 t135 false)) = some r := H
          have A20 := Aside0.mk A200
          clear A200
          have HC21 := Aside0.mk H
          clear H
          go_upto_region 7 with (first | ((with_reducible refine gate_callee (f := 15) rfl ?_); refine goesL_ (some 43) rfl rfl Try.func15 (by kernel_rfl) rfl #[.int .u64 t127] rfl (by (try simp only [List.map_toArray, List.map_cons, List.map_nil]); first | done | rfl | (simp only [List.length_drop, List.length_take]; rfl)) ?_; (with_reducible refine (flt_ToInt.calls kj6 t127 t134 t135 _ A20.out).mono ?_); rintro e w' ⟨rfl, ⟨nd, rfl⟩⟩; refine ⟨_, rfl, ?_⟩))
          (try simp only [Act.put, List.setIfInBounds_toArray, List.set_cons_zero, List.set_cons_succ])
          go_cut [51] (fun v51 wc => ∃ (kq : Nat) (x51_20 : Bool), v51 = .bool x51_20 ∧ Aside0 (hyglaw6_FltBack.j1 kq a0 a1 t127 t128 t134 t135 x51_20 = some r) ∧ Aside0 (kq ≤ kj6) ∧ Drawn0 w wc)
          case first =>
            have H := HC21.out
            clear HC21
            by_cases c22 : a0 ≥ (-9007199254740992)
            · rw [if_pos c22] at H
              have c22b0 : decide ((-9007199254740992) ≤ a0) = true := decide_eq_true c22
              clear c22
              (first | rw [c22b0] | (simp only [i64_w, i32_w]; rw [c22b0]) | skip)
              have H' := Aside0.mk H
              clear H
              go_wp2
              go_meet
              case rel => exact ⟨_, (decide (a0 ≤ 9007199254740992)), (by first | rfl | (simp; done) | (simp [*]; done)), H', ⟨by have := HJ6.out; first | omega | exact Nat.le_refl _⟩, by repeat (first | exact Drawn0.refl _ | apply Drawn0.step)⟩
            · rw [if_neg c22] at H
              have c22b0 : decide ((-9007199254740992) ≤ a0) = false := decide_eq_false c22
              clear c22
              (first | rw [c22b0] | (simp only [i64_w, i32_w]; rw [c22b0]) | skip)
              have H' := Aside0.mk H
              clear H
              go_wp2
              go_meet
              case rel => exact ⟨_, (false), (by first | rfl | (simp; done) | (simp [*]; done)), H', ⟨by have := HJ6.out; first | omega | exact Nat.le_refl _⟩, by repeat (first | exact Drawn0.refl _ | apply Drawn0.step)⟩
          case rest =>
            clear HC21
            try clear c1
            try clear c2
            try clear p2
            try clear c4
            try clear c6
            try clear c8
            try clear c8b0
            try clear c10
            try clear c11
            try clear c11b0
            try clear c11b1
            try clear c12
            try clear c12b0
            try clear c12b1
            try clear c14
            try clear c15
            try clear c15b0
            try clear c15b1
            try clear c16
            try clear c16b0
            try clear c16b1
            try clear c17
            try clear c19
            try clear c22
            try clear c22b0
            try clear p2
            obtain ⟨kq, x51_20, rfl, HA, HJ20, ⟨mc20, rfl⟩⟩ := hcut
            cases kq with
            | zero => exact absurd HA.out (by simp [hyglaw6_FltBack.j1])
            | succ kj20 =>
              have H := HA.out
              clear HA
              simp only [hyglaw6_FltBack.j1] at H
              by_cases c23 : x51_20 = true
              · subst c23
                have H1 : ((hyglaw6_first.f kj20).bind fun t136 => (if t136 = true then (if t135 = true then (if t134 = a0 then (if a1 < (-9007199254740992) then (some true) else (if a1 > 9007199254740992 then (some true) else (some ((a0 == a1) == (t127 == t128))))) else (some false)) else (some false)) else (some false))) = some r := by rw [if_pos rfl] at H; exact H
                clear H
                have H := H1
                clear H1
                replace H := Option.bind_eq_some_iff.mp H
                obtain ⟨t136, A240, H⟩ := H
                replace H : (if t136 = true then (if t135 = true then (if t134 = a0 then (if a1 < (-9007199254740992) then (some true) else (if a1 > 9007199254740992 then (some true) else (some ((a0 == a1) == (t127 == t128))))) else (some false)) else (some false)) else (some false)) = some r := H
                have A24 := Aside0.mk A240
                clear A240
                by_cases c25 : t136 = true
                · subst c25
                  have H1 : (if t135 = true then (if t134 = a0 then (if a1 < (-9007199254740992) then (some true) else (if a1 > 9007199254740992 then (some true) else (some ((a0 == a1) == (t127 == t128))))) else (some false)) else (some false)) = some r := by rw [if_pos rfl] at H; exact H
                  clear H
                  have H := H1
                  clear H1
                  by_cases c26 : t135 = true
                  · subst c26
                    have H1 : (if t134 = a0 then (if a1 < (-9007199254740992) then (some true) else (if a1 > 9007199254740992 then (some true) else (some ((a0 == a1) == (t127 == t128))))) else (some false)) = some r := by rw [if_pos rfl] at H; exact H
                    clear H
                    have H := H1
                    clear H1
                    by_cases c27 : t134 = a0
                    · rw [if_pos c27] at H
                      have c27b0 : (t134 == a0) = true := beq_iff_eq.mpr c27
                      have c27b1 : (t134 != a0) = false := bne_eq_false_iff_eq.mpr c27
                      clear c27
                      by_cases c28 : a1 < (-9007199254740992)
                      · rw [if_pos c28] at H
                        have c28b0 : decide (a1 < (-9007199254740992)) = true := decide_eq_true c28
                        clear c28
                        obtain rfl := Option.some.inj H
                        go_wp2_with (first | ((with_reducible refine gate_callee (f := 14) rfl ?_); refine goesL_ (some 52) rfl rfl Try.func14 (by kernel_rfl) rfl #[] rfl (by (try simp only [List.map_toArray, List.map_cons, List.map_nil]); first | done | rfl | (simp only [List.length_drop, List.length_take]; rfl)) ?_; (with_reducible refine (hyglaw6_first.calls kj20  true _ A24.out).mono ?_); rintro e w' ⟨rfl, ⟨nd, rfl⟩⟩; refine ⟨_, rfl, ?_⟩))
                        go_ret
                        exact ⟨by first | rfl | (simp; done) | (simp [*]; done), by repeat (first | exact Drawn0.refl _ | apply Drawn0.step)⟩
                      · rw [if_neg c28] at H
                        have c28b0 : decide (a1 < (-9007199254740992)) = false := decide_eq_false c28
                        clear c28
                        by_cases c29 : a1 > 9007199254740992
                        · rw [if_pos c29] at H
                          have c29b0 : decide (9007199254740992 < a1) = true := decide_eq_true c29
                          clear c29
                          obtain rfl := Option.some.inj H
                          go_wp2_with (first | ((with_reducible refine gate_callee (f := 14) rfl ?_); refine goesL_ (some 52) rfl rfl Try.func14 (by kernel_rfl) rfl #[] rfl (by (try simp only [List.map_toArray, List.map_cons, List.map_nil]); first | done | rfl | (simp only [List.length_drop, List.length_take]; rfl)) ?_; (with_reducible refine (hyglaw6_first.calls kj20  true _ A24.out).mono ?_); rintro e w' ⟨rfl, ⟨nd, rfl⟩⟩; refine ⟨_, rfl, ?_⟩))
                          go_ret
                          exact ⟨by first | rfl | (simp; done) | (simp [*]; done), by repeat (first | exact Drawn0.refl _ | apply Drawn0.step)⟩
                        · rw [if_neg c29] at H
                          have c29b0 : decide (9007199254740992 < a1) = false := decide_eq_false c29
                          clear c29
                          obtain rfl := Option.some.inj H
                          go_wp2_with (first | ((with_reducible refine gate_callee (f := 14) rfl ?_); refine goesL_ (some 52) rfl rfl Try.func14 (by kernel_rfl) rfl #[] rfl (by (try simp only [List.map_toArray, List.map_cons, List.map_nil]); first | done | rfl | (simp only [List.length_drop, List.length_take]; rfl)) ?_; (with_reducible refine (hyglaw6_first.calls kj20  true _ A24.out).mono ?_); rintro e w' ⟨rfl, ⟨nd, rfl⟩⟩; refine ⟨_, rfl, ?_⟩))
                          go_ret
                          exact ⟨by first | rfl | (simp; done) | (simp [*]; done), by repeat (first | exact Drawn0.refl _ | apply Drawn0.step)⟩
                    · rw [if_neg c27] at H
                      have c27b0 : (t134 == a0) = false := beq_eq_false_iff_ne.mpr c27
                      have c27b1 : (t134 != a0) = true := bne_iff_ne.mpr c27
                      obtain rfl := Option.some.inj H
                      go_wp2_with (first | ((with_reducible refine gate_callee (f := 14) rfl ?_); refine goesL_ (some 52) rfl rfl Try.func14 (by kernel_rfl) rfl #[] rfl (by (try simp only [List.map_toArray, List.map_cons, List.map_nil]); first | done | rfl | (simp only [List.length_drop, List.length_take]; rfl)) ?_; (with_reducible refine (hyglaw6_first.calls kj20  true _ A24.out).mono ?_); rintro e w' ⟨rfl, ⟨nd, rfl⟩⟩; refine ⟨_, rfl, ?_⟩))
                      go_ret
                      exact ⟨by first | rfl | (simp; done) | (simp [*]; done), by repeat (first | exact Drawn0.refl _ | apply Drawn0.step)⟩
                  · replace c26 := Bool.eq_false_iff.mpr c26
                    subst c26
                    have H1 : (some false) = some r := by rw [if_neg (show ¬ (false = true) by decide)] at H; exact H
                    clear H
                    have H := H1
                    clear H1
                    obtain rfl := Option.some.inj H
                    go_wp2_with (first | ((with_reducible refine gate_callee (f := 14) rfl ?_); refine goesL_ (some 52) rfl rfl Try.func14 (by kernel_rfl) rfl #[] rfl (by (try simp only [List.map_toArray, List.map_cons, List.map_nil]); first | done | rfl | (simp only [List.length_drop, List.length_take]; rfl)) ?_; (with_reducible refine (hyglaw6_first.calls kj20  true _ A24.out).mono ?_); rintro e w' ⟨rfl, ⟨nd, rfl⟩⟩; refine ⟨_, rfl, ?_⟩))
                    go_ret
                    exact ⟨by first | rfl | (simp; done) | (simp [*]; done), by repeat (first | exact Drawn0.refl _ | apply Drawn0.step)⟩
                · replace c25 := Bool.eq_false_iff.mpr c25
                  subst c25
                  have H1 : (some false) = some r := by rw [if_neg (show ¬ (false = true) by decide)] at H; exact H
                  clear H
                  have H := H1
                  clear H1
                  obtain rfl := Option.some.inj H
                  go_wp2_with (first | ((with_reducible refine gate_callee (f := 14) rfl ?_); refine goesL_ (some 52) rfl rfl Try.func14 (by kernel_rfl) rfl #[] rfl (by (try simp only [List.map_toArray, List.map_cons, List.map_nil]); first | done | rfl | (simp only [List.length_drop, List.length_take]; rfl)) ?_; (with_reducible refine (hyglaw6_first.calls kj20  false _ A24.out).mono ?_); rintro e w' ⟨rfl, ⟨nd, rfl⟩⟩; refine ⟨_, rfl, ?_⟩))
                  go_ret
                  exact ⟨by first | rfl | (simp; done) | (simp [*]; done), by repeat (first | exact Drawn0.refl _ | apply Drawn0.step)⟩
              · replace c23 := Bool.eq_false_iff.mpr c23
                subst c23
                have H1 : (if t135 = true then (if t134 < a0 then ((hyglaw6_first.f kj20).bind fun t137 => (if t137 = true then (some (decide ((IntKind.u64.wrap ((IntKind.u64.wrap (a0)) - (IntKind.u64.wrap (t134)))) ≤ 512))) else (some false))) else ((hyglaw6_first.f kj20).bind fun t138 => (if t138 = true then (some (decide ((IntKind.u64.wrap ((IntKind.u64.wrap (t134)) - (IntKind.u64.wrap (a0)))) ≤ 512))) else (some false)))) else ((hyglaw6_first.f kj20).bind fun t139 => (if t139 = true then (some (t127 == 4890909195324358656)) else (some false)))) = some r := by rw [if_neg (show ¬ (false = true) by decide)] at H; exact H
                clear H
                have H := H1
                clear H1
                by_cases c30 : t135 = true
                · subst c30
                  have H1 : (if t134 < a0 then ((hyglaw6_first.f kj20).bind fun t137 => (if t137 = true then (some (decide ((IntKind.u64.wrap ((IntKind.u64.wrap (a0)) - (IntKind.u64.wrap (t134)))) ≤ 512))) else (some false))) else ((hyglaw6_first.f kj20).bind fun t138 => (if t138 = true then (some (decide ((IntKind.u64.wrap ((IntKind.u64.wrap (t134)) - (IntKind.u64.wrap (a0)))) ≤ 512))) else (some false)))) = some r := by rw [if_pos rfl] at H; exact H
                  clear H
                  have H := H1
                  clear H1
                  by_cases c31 : t134 < a0
                  · rw [if_pos c31] at H
                    have c31b0 : decide (t134 < a0) = true := decide_eq_true c31
                    clear c31
                    replace H := Option.bind_eq_some_iff.mp H
                    obtain ⟨t137, A320, H⟩ := H
                    replace H : (if t137 = true then (some (decide ((IntKind.u64.wrap ((IntKind.u64.wrap (a0)) - (IntKind.u64.wrap (t134)))) ≤ 512))) else (some false)) = some r := H
                    have A32 := Aside0.mk A320
                    clear A320
                    by_cases c33 : t137 = true
                    · subst c33
                      have H1 : (some (decide ((IntKind.u64.wrap ((IntKind.u64.wrap (a0)) - (IntKind.u64.wrap (t134)))) ≤ 512))) = some r := by rw [if_pos rfl] at H; exact H
                      clear H
                      have H := H1
                      clear H1
                      obtain rfl := Option.some.inj H
                      go_wp2_with (first | ((with_reducible refine gate_callee (f := 14) rfl ?_); refine goesL_ (some 98) rfl rfl Try.func14 (by kernel_rfl) rfl #[] rfl (by (try simp only [List.map_toArray, List.map_cons, List.map_nil]); first | done | rfl | (simp only [List.length_drop, List.length_take]; rfl)) ?_; (with_reducible refine (hyglaw6_first.calls kj20  true _ A32.out).mono ?_); rintro e w' ⟨rfl, ⟨nd, rfl⟩⟩; refine ⟨_, rfl, ?_⟩))
                      go_ret
                      exact ⟨by first | rfl | (simp; done) | (simp [*]; done), by repeat (first | exact Drawn0.refl _ | apply Drawn0.step)⟩
                    · replace c33 := Bool.eq_false_iff.mpr c33
                      subst c33
                      have H1 : (some false) = some r := by rw [if_neg (show ¬ (false = true) by decide)] at H; exact H
                      clear H
                      have H := H1
                      clear H1
                      obtain rfl := Option.some.inj H
                      go_wp2_with (first | ((with_reducible refine gate_callee (f := 14) rfl ?_); refine goesL_ (some 98) rfl rfl Try.func14 (by kernel_rfl) rfl #[] rfl (by (try simp only [List.map_toArray, List.map_cons, List.map_nil]); first | done | rfl | (simp only [List.length_drop, List.length_take]; rfl)) ?_; (with_reducible refine (hyglaw6_first.calls kj20  false _ A32.out).mono ?_); rintro e w' ⟨rfl, ⟨nd, rfl⟩⟩; refine ⟨_, rfl, ?_⟩))
                      go_ret
                      exact ⟨by first | rfl | (simp; done) | (simp [*]; done), by repeat (first | exact Drawn0.refl _ | apply Drawn0.step)⟩
                  · rw [if_neg c31] at H
                    have c31b0 : decide (t134 < a0) = false := decide_eq_false c31
                    clear c31
                    replace H := Option.bind_eq_some_iff.mp H
                    obtain ⟨t138, A340, H⟩ := H
                    replace H : (if t138 = true then (some (decide ((IntKind.u64.wrap ((IntKind.u64.wrap (t134)) - (IntKind.u64.wrap (a0)))) ≤ 512))) else (some false)) = some r := H
                    have A34 := Aside0.mk A340
                    clear A340
                    by_cases c35 : t138 = true
                    · subst c35
                      have H1 : (some (decide ((IntKind.u64.wrap ((IntKind.u64.wrap (t134)) - (IntKind.u64.wrap (a0)))) ≤ 512))) = some r := by rw [if_pos rfl] at H; exact H
                      clear H
                      have H := H1
                      clear H1
                      obtain rfl := Option.some.inj H
                      go_wp2_with (first | ((with_reducible refine gate_callee (f := 14) rfl ?_); refine goesL_ (some 98) rfl rfl Try.func14 (by kernel_rfl) rfl #[] rfl (by (try simp only [List.map_toArray, List.map_cons, List.map_nil]); first | done | rfl | (simp only [List.length_drop, List.length_take]; rfl)) ?_; (with_reducible refine (hyglaw6_first.calls kj20  true _ A34.out).mono ?_); rintro e w' ⟨rfl, ⟨nd, rfl⟩⟩; refine ⟨_, rfl, ?_⟩))
                      go_ret
                      exact ⟨by first | rfl | (simp; done) | (simp [*]; done), by repeat (first | exact Drawn0.refl _ | apply Drawn0.step)⟩
                    · replace c35 := Bool.eq_false_iff.mpr c35
                      subst c35
                      have H1 : (some false) = some r := by rw [if_neg (show ¬ (false = true) by decide)] at H; exact H
                      clear H
                      have H := H1
                      clear H1
                      obtain rfl := Option.some.inj H
                      go_wp2_with (first | ((with_reducible refine gate_callee (f := 14) rfl ?_); refine goesL_ (some 98) rfl rfl Try.func14 (by kernel_rfl) rfl #[] rfl (by (try simp only [List.map_toArray, List.map_cons, List.map_nil]); first | done | rfl | (simp only [List.length_drop, List.length_take]; rfl)) ?_; (with_reducible refine (hyglaw6_first.calls kj20  false _ A34.out).mono ?_); rintro e w' ⟨rfl, ⟨nd, rfl⟩⟩; refine ⟨_, rfl, ?_⟩))
                      go_ret
                      exact ⟨by first | rfl | (simp; done) | (simp [*]; done), by repeat (first | exact Drawn0.refl _ | apply Drawn0.step)⟩
                · replace c30 := Bool.eq_false_iff.mpr c30
                  subst c30
                  have H1 : ((hyglaw6_first.f kj20).bind fun t139 => (if t139 = true then (some (t127 == 4890909195324358656)) else (some false))) = some r := by rw [if_neg (show ¬ (false = true) by decide)] at H; exact H
                  clear H
                  have H := H1
                  clear H1
                  replace H := Option.bind_eq_some_iff.mp H
                  obtain ⟨t139, A360, H⟩ := H
                  replace H : (if t139 = true then (some (t127 == 4890909195324358656)) else (some false)) = some r := H
                  have A36 := Aside0.mk A360
                  clear A360
                  by_cases c37 : t139 = true
                  · subst c37
                    have H1 : (some (t127 == 4890909195324358656)) = some r := by rw [if_pos rfl] at H; exact H
                    clear H
                    have H := H1
                    clear H1
                    obtain rfl := Option.some.inj H
                    go_wp2_with (first | ((with_reducible refine gate_callee (f := 14) rfl ?_); refine goesL_ (some 80) rfl rfl Try.func14 (by kernel_rfl) rfl #[] rfl (by (try simp only [List.map_toArray, List.map_cons, List.map_nil]); first | done | rfl | (simp only [List.length_drop, List.length_take]; rfl)) ?_; (with_reducible refine (hyglaw6_first.calls kj20  true _ A36.out).mono ?_); rintro e w' ⟨rfl, ⟨nd, rfl⟩⟩; refine ⟨_, rfl, ?_⟩))
                    go_ret
                    exact ⟨by first | rfl | (simp; done) | (simp [*]; done), by repeat (first | exact Drawn0.refl _ | apply Drawn0.step)⟩
                  · replace c37 := Bool.eq_false_iff.mpr c37
                    subst c37
                    have H1 : (some false) = some r := by rw [if_neg (show ¬ (false = true) by decide)] at H; exact H
                    clear H
                    have H := H1
                    clear H1
                    obtain rfl := Option.some.inj H
                    go_wp2_with (first | ((with_reducible refine gate_callee (f := 14) rfl ?_); refine goesL_ (some 80) rfl rfl Try.func14 (by kernel_rfl) rfl #[] rfl (by (try simp only [List.map_toArray, List.map_cons, List.map_nil]); first | done | rfl | (simp only [List.length_drop, List.length_take]; rfl)) ?_; (with_reducible refine (hyglaw6_first.calls kj20  false _ A36.out).mono ?_); rintro e w' ⟨rfl, ⟨nd, rfl⟩⟩; refine ⟨_, rfl, ?_⟩))
                    go_ret
                    exact ⟨by first | rfl | (simp; done) | (simp [*]; done), by repeat (first | exact Drawn0.refl _ | apply Drawn0.step)⟩
  · replace c4 := Bool.eq_false_iff.mpr c4
    subst c4
    have H1 : (some false) = some r := by rw [if_neg (show ¬ (false = true) by decide)] at H; exact H
    clear H
    have H := H1
    clear H1
    obtain rfl := Option.some.inj H
    go_enter Try.func4, Try.ntmps4
    go_wp2_with (first | ((with_reducible refine gate_callee (f := 14) rfl ?_); refine goesL_ (some 10) rfl rfl Try.func14 (by kernel_rfl) rfl #[] rfl (by (try simp only [List.map_toArray, List.map_cons, List.map_nil]); first | done | rfl | (simp only [List.length_drop, List.length_take]; rfl)) ?_; (with_reducible refine (hyglaw6_first.calls k  false _ A3.out).mono ?_); rintro e w' ⟨rfl, ⟨nd, rfl⟩⟩; refine ⟨_, rfl, ?_⟩))
    go_ret
    exact ⟨by first | rfl | (simp; done) | (simp [*]; done), by repeat (first | exact Drawn0.refl _ | apply Drawn0.step)⟩

/-- THE ONE PURE STATEMENT of hyglaw6_FltBack: yours. -/
def hyglaw6_FltBack.Pure : Prop := ∀ (a0 : Int) (a1 : Int), (Lit.int .i64 a0).wf = true → (Lit.int .i64 a1).wf = true → ∃ k, hyglaw6_FltBack.f k a0 a1 = some true
theorem hyglaw6_FltBack.walk (P : hyglaw6_FltBack.Pure) (a0 : Int) (a1 : Int) (w : World) (w0 : (Lit.int .i64 a0).wf = true) (w1 : (Lit.int .i64 a1).wf = true) :
    Calls Try.prog 4 #[.int .i64 a0, .int .i64 a1] w fun e w' => e = .returned (.bool true) ∧ Below w.heap.size w w' := by
  obtain ⟨k, h⟩ := P a0 a1 w0 w1
  refine (hyglaw6_FltBack.calls k a0 a1 true w h).mono ?_
  rintro e w' ⟨rfl, hd⟩
  exact ⟨rfl, hd.below⟩

end Go.Proofs.Ytmljncgglpckcaa.PFltBack
