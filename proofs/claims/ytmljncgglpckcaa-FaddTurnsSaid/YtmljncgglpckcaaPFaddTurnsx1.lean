-- Made by a program of this session, after the guide's print, out of the translation. Lean checks it.
import Derived.Test.YtmljncgglpckcaaPFaddTurnsx0
namespace Go.Proofs.Ytmljncgglpckcaa.PFaddTurns
open Go.RowKit Go.Proofs.YtmljncgglpckcaaW.PrintWords Go.Proofs.YtmljncgglpckcaaW.PrintLast Go.Proofs.YtmljncgglpckcaaW.PrintMore
attribute [local go_sem] max2_int min2_int max_two min_two max_three min_three max_four min_four   -- for this text's walks alone
set_option linter.unusedVariables false
set_option linter.unusedSimpArgs false

/-! ### flt_size: function 42 -/
def flt_size.f (a0 : Int) : Option (Int) := some (Go.bits .andNot .u64 a0 9223372036854775808)
set_option maxHeartbeats 8000000 in
set_option maxRecDepth 100000 in
theorem flt_size.calls (a0 : Int) (r : Int) (w : World) (h : flt_size.f a0 = some r) :
    Calls Try.prog 42 #[.int .u64 a0] w fun e w' => e = .returned (.int .u64 r) ∧ Drawn0 w w' := by
  have H : (some (Go.bits .andNot .u64 a0 9223372036854775808)) = some r := h
  clear h
  obtain rfl := Option.some.inj H
  go_enter Try.func42, Try.ntmps42
  go_wp2
  go_ret
  exact ⟨by first | rfl | (simp; done) | (simp [*]; done), by repeat (first | exact Drawn0.refl _ | apply Drawn0.step)⟩

/-! ### flt_Class: function 22 -/
def flt_Class.f (a0 : Int) : Option (Int) := (flt_size.f a0).bind fun t101 => (if t101 > 9218868437227405312 then (some ((((0 + 1) + 1) + 1) + 1)) else (if t101 = 9218868437227405312 then (some (((0 + 1) + 1) + 1)) else (if t101 ≥ 4503599627370496 then (some ((0 + 1) + 1)) else (if t101 > 0 then (some (0 + 1)) else (some 0)))))
set_option maxHeartbeats 8000000 in
set_option maxRecDepth 100000 in
theorem flt_Class.calls (a0 : Int) (r : Int) (w : World) (h : flt_Class.f a0 = some r) :
    Calls Try.prog 22 #[.int .u64 a0] w fun e w' => e = .returned (.int .i64 r) ∧ Drawn0 w w' := by
  have H : ((flt_size.f a0).bind fun t101 => (if t101 > 9218868437227405312 then (some ((((0 + 1) + 1) + 1) + 1)) else (if t101 = 9218868437227405312 then (some (((0 + 1) + 1) + 1)) else (if t101 ≥ 4503599627370496 then (some ((0 + 1) + 1)) else (if t101 > 0 then (some (0 + 1)) else (some 0)))))) = some r := h
  clear h
  replace H := Option.bind_eq_some_iff.mp H
  obtain ⟨t101, A20, H⟩ := H
  replace H : (if t101 > 9218868437227405312 then (some ((((0 + 1) + 1) + 1) + 1)) else (if t101 = 9218868437227405312 then (some (((0 + 1) + 1) + 1)) else (if t101 ≥ 4503599627370496 then (some ((0 + 1) + 1)) else (if t101 > 0 then (some (0 + 1)) else (some 0))))) = some r := H
  have A2 := Aside0.mk A20
  clear A20
  by_cases c3 : t101 > 9218868437227405312
  · rw [if_pos c3] at H
    have c3b0 : decide (9218868437227405312 < t101) = true := decide_eq_true c3
    clear c3
    obtain rfl := Option.some.inj H
    go_enter Try.func22, Try.ntmps22
    go_wp2_with (first | ((with_reducible refine gate_callee (f := 42) rfl ?_); refine goesL_ (some 5) rfl rfl Try.func42 (by kernel_rfl) rfl #[.int .u64 a0] rfl (by (try simp only [List.map_toArray, List.map_cons, List.map_nil]); first | done | rfl | (simp only [List.length_drop, List.length_take]; rfl)) ?_; (with_reducible refine (flt_size.calls a0 t101 _ A2.out).mono ?_); rintro e w' ⟨rfl, ⟨nd, rfl⟩⟩; refine ⟨_, rfl, ?_⟩))
    go_ret
    exact ⟨by first | rfl | (simp; done) | (simp [*]; done), by repeat (first | exact Drawn0.refl _ | apply Drawn0.step)⟩
  · rw [if_neg c3] at H
    have c3b0 : decide (9218868437227405312 < t101) = false := decide_eq_false c3
    clear c3
    by_cases c4 : t101 = 9218868437227405312
    · rw [if_pos c4] at H
      have c4b0 : (t101 == 9218868437227405312) = true := beq_iff_eq.mpr c4
      have c4b1 : (t101 != 9218868437227405312) = false := bne_eq_false_iff_eq.mpr c4
      clear c4
      obtain rfl := Option.some.inj H
      go_enter Try.func22, Try.ntmps22
      go_wp2_with (first | ((with_reducible refine gate_callee (f := 42) rfl ?_); refine goesL_ (some 5) rfl rfl Try.func42 (by kernel_rfl) rfl #[.int .u64 a0] rfl (by (try simp only [List.map_toArray, List.map_cons, List.map_nil]); first | done | rfl | (simp only [List.length_drop, List.length_take]; rfl)) ?_; (with_reducible refine (flt_size.calls a0 t101 _ A2.out).mono ?_); rintro e w' ⟨rfl, ⟨nd, rfl⟩⟩; refine ⟨_, rfl, ?_⟩))
      go_ret
      exact ⟨by first | rfl | (simp; done) | (simp [*]; done), by repeat (first | exact Drawn0.refl _ | apply Drawn0.step)⟩
    · rw [if_neg c4] at H
      have c4b0 : (t101 == 9218868437227405312) = false := beq_eq_false_iff_ne.mpr c4
      have c4b1 : (t101 != 9218868437227405312) = true := bne_iff_ne.mpr c4
      by_cases c5 : t101 ≥ 4503599627370496
      · rw [if_pos c5] at H
        have c5b0 : decide (4503599627370496 ≤ t101) = true := decide_eq_true c5
        clear c5
        obtain rfl := Option.some.inj H
        go_enter Try.func22, Try.ntmps22
        go_wp2_with (first | ((with_reducible refine gate_callee (f := 42) rfl ?_); refine goesL_ (some 5) rfl rfl Try.func42 (by kernel_rfl) rfl #[.int .u64 a0] rfl (by (try simp only [List.map_toArray, List.map_cons, List.map_nil]); first | done | rfl | (simp only [List.length_drop, List.length_take]; rfl)) ?_; (with_reducible refine (flt_size.calls a0 t101 _ A2.out).mono ?_); rintro e w' ⟨rfl, ⟨nd, rfl⟩⟩; refine ⟨_, rfl, ?_⟩))
        go_ret
        exact ⟨by first | rfl | (simp; done) | (simp [*]; done), by repeat (first | exact Drawn0.refl _ | apply Drawn0.step)⟩
      · rw [if_neg c5] at H
        have c5b0 : decide (4503599627370496 ≤ t101) = false := decide_eq_false c5
        clear c5
        by_cases c6 : t101 > 0
        · rw [if_pos c6] at H
          have c6b0 : decide (0 < t101) = true := decide_eq_true c6
          clear c6
          obtain rfl := Option.some.inj H
          go_enter Try.func22, Try.ntmps22
          go_wp2_with (first | ((with_reducible refine gate_callee (f := 42) rfl ?_); refine goesL_ (some 5) rfl rfl Try.func42 (by kernel_rfl) rfl #[.int .u64 a0] rfl (by (try simp only [List.map_toArray, List.map_cons, List.map_nil]); first | done | rfl | (simp only [List.length_drop, List.length_take]; rfl)) ?_; (with_reducible refine (flt_size.calls a0 t101 _ A2.out).mono ?_); rintro e w' ⟨rfl, ⟨nd, rfl⟩⟩; refine ⟨_, rfl, ?_⟩))
          go_ret
          exact ⟨by first | rfl | (simp; done) | (simp [*]; done), by repeat (first | exact Drawn0.refl _ | apply Drawn0.step)⟩
        · rw [if_neg c6] at H
          have c6b0 : decide (0 < t101) = false := decide_eq_false c6
          clear c6
          obtain rfl := Option.some.inj H
          go_enter Try.func22, Try.ntmps22
          go_wp2_with (first | ((with_reducible refine gate_callee (f := 42) rfl ?_); refine goesL_ (some 5) rfl rfl Try.func42 (by kernel_rfl) rfl #[.int .u64 a0] rfl (by (try simp only [List.map_toArray, List.map_cons, List.map_nil]); first | done | rfl | (simp only [List.length_drop, List.length_take]; rfl)) ?_; (with_reducible refine (flt_size.calls a0 t101 _ A2.out).mono ?_); rintro e w' ⟨rfl, ⟨nd, rfl⟩⟩; refine ⟨_, rfl, ?_⟩))
          go_ret
          exact ⟨by first | rfl | (simp; done) | (simp [*]; done), by repeat (first | exact Drawn0.refl _ | apply Drawn0.step)⟩

/-! ### flt_Neg: function 23 -/
def flt_Neg.f (a0 : Int) : Option (Int) := some (Go.bits .xor .u64 a0 9223372036854775808)
set_option maxHeartbeats 8000000 in
set_option maxRecDepth 100000 in
theorem flt_Neg.calls (a0 : Int) (r : Int) (w : World) (h : flt_Neg.f a0 = some r) :
    Calls Try.prog 23 #[.int .u64 a0] w fun e w' => e = .returned (.int .u64 r) ∧ Drawn0 w w' := by
  have H : (some (Go.bits .xor .u64 a0 9223372036854775808)) = some r := h
  clear h
  obtain rfl := Option.some.inj H
  go_enter Try.func23, Try.ntmps23
  go_wp2
  go_ret
  exact ⟨by first | rfl | (simp; done) | (simp [*]; done), by repeat (first | exact Drawn0.refl _ | apply Drawn0.step)⟩

/-! ### fadd_Quiet: function 40 -/
def fadd_Quiet.f (a0 : Int) : Option (Int) := some (Go.bits .or .u64 a0 2251799813685248)
set_option maxHeartbeats 8000000 in
set_option maxRecDepth 100000 in
theorem fadd_Quiet.calls (a0 : Int) (r : Int) (w : World) (h : fadd_Quiet.f a0 = some r) :
    Calls Try.prog 40 #[.int .u64 a0] w fun e w' => e = .returned (.int .u64 r) ∧ Drawn0 w w' := by
  have H : (some (Go.bits .or .u64 a0 2251799813685248)) = some r := h
  clear h
  obtain rfl := Option.some.inj H
  go_enter Try.func40, Try.ntmps40
  go_wp2
  go_ret
  exact ⟨by first | rfl | (simp; done) | (simp [*]; done), by repeat (first | exact Drawn0.refl _ | apply Drawn0.step)⟩

/-! ### fadd_parted: function 54 -/
def fadd_parted.f (a0 : Int) : Option (Int × Int) := if (wrap64 ((Go.bits .andNot .u64 a0 9223372036854775808) / 4503599627370496)) > 0 then (some (mx (wrap64 ((Go.bits .andNot .u64 a0 9223372036854775808) / 4503599627370496)) 1, IntKind.u64.wrap ((Go.bits .or .u64 (Go.bits .and .u64 a0 4503599627370495) 4503599627370496) * 8))) else (some (mx (wrap64 ((Go.bits .andNot .u64 a0 9223372036854775808) / 4503599627370496)) 1, IntKind.u64.wrap ((Go.bits .and .u64 a0 4503599627370495) * 8)))
theorem setCell_drewN (w : World) (n : Nat) (a : Addr) (v : Value) : (w.drewN n).setCell a v = (w.setCell a v).drewN n := rfl
theorem alloc_drewN (w : World) (n : Nat) (o : Obj) : (w.drewN n).alloc o = (w.alloc o).drewN n := rfl
attribute [local go_sem] setCell_drewN alloc_drewN
set_option maxHeartbeats 8000000 in
set_option maxRecDepth 100000 in
theorem fadd_parted.calls (a0 : Int) (r1 : Int) (r2 : Int) (w : World) (h : fadd_parted.f a0 = some (r1, r2)) :
    Calls Try.prog 54 #[.int .u64 a0] w fun e w' => e = .returned (.agg #[.int .i64 r1, .int .u64 r2]) ∧ Below w.heap.size w w' := by
  have hu := Try.underlying47
  unfold fadd_parted.f at h
  by_cases c2 : (wrap64 ((Go.bits .andNot .u64 a0 9223372036854775808) / 4503599627370496)) > 0
  · rw [if_pos c2] at h
    have c2b0 : decide (0 < (wrap64 ((Go.bits .andNot .u64 a0 9223372036854775808) / 4503599627370496))) = true := decide_eq_true c2
    clear c2
    simp only [Option.some.injEq, Prod.mk.injEq] at h
    obtain ⟨rfl, rfl⟩ := h
    go_enter Try.func54, Try.ntmps54
    go_wp2
    all_goals (refine bodyPost_ret (v := .agg #[.int .i64 (mx (wrap64 ((Go.bits .andNot .u64 a0 9223372036854775808) / 4503599627370496)) 1), .int .u64 (IntKind.u64.wrap ((Go.bits .or .u64 (Go.bits .and .u64 a0 4503599627370495) 4503599627370496) * 8))]) (by simp [results, Try.results54, go_sem, mx, *] <;> omega) rfl ⟨rfl, ?_⟩)
    all_goals repeat (first | exact Below.refl _ _ | apply below_alloc | apply pw_below_drewN)
  · rw [if_neg c2] at h
    have c2b0 : decide (0 < (wrap64 ((Go.bits .andNot .u64 a0 9223372036854775808) / 4503599627370496))) = false := decide_eq_false c2
    clear c2
    simp only [Option.some.injEq, Prod.mk.injEq] at h
    obtain ⟨rfl, rfl⟩ := h
    go_enter Try.func54, Try.ntmps54
    go_wp2
    all_goals (refine bodyPost_ret (v := .agg #[.int .i64 (mx (wrap64 ((Go.bits .andNot .u64 a0 9223372036854775808) / 4503599627370496)) 1), .int .u64 (IntKind.u64.wrap ((Go.bits .and .u64 a0 4503599627370495) * 8))]) (by simp [results, Try.results54, go_sem, mx, *] <;> omega) rfl ⟨rfl, ?_⟩)
    all_goals repeat (first | exact Below.refl _ _ | apply below_alloc | apply pw_below_drewN)

/-! ### fadd_part_lower: function 55 -/
def fadd_part_lower.f (a0_0 : Int) (a0_1 : Int) (a1 : Int) : Option (Int × Int) := if a1 > 63 then (if (Go.bits .and .u64 a0_1 ((1 * 9223372036854775808) - 1)) > 0 then (some (wrap64 (a0_0 + 63), Go.bits .or .u64 (a0_1 / 9223372036854775808) 1)) else (some (wrap64 (a0_0 + 63), a0_1 / 9223372036854775808))) else (if 0 ≤ a1 then (if (Go.bits .and .u64 a0_1 (IntKind.u64.wrap ((shl .u64 1 a1) - 1))) > 0 then (some (wrap64 (a0_0 + a1), Go.bits .or .u64 (shr .u64 a0_1 a1) 1)) else (some (wrap64 (a0_0 + a1), shr .u64 a0_1 a1))) else (none))
set_option maxHeartbeats 8000000 in
set_option maxRecDepth 100000 in
theorem fadd_part_lower.calls (a0_0 : Int) (a0_1 : Int) (a1 : Int) (r1 : Int) (r2 : Int) (w : World) (h : fadd_part_lower.f a0_0 a0_1 a1 = some (r1, r2)) :
    Calls Try.prog 55 #[.agg #[.int .i64 a0_0, .int .u64 a0_1], .int .i64 a1] w fun e w' => e = .returned (.agg #[.int .i64 r1, .int .u64 r2]) ∧ Below w.heap.size w w' := by
  have hu := Try.underlying47
  unfold fadd_part_lower.f at h
  by_cases c2 : a1 > 63
  · rw [if_pos c2] at h
    have c2b : decide (63 < a1) = true := decide_eq_true c2
    clear c2
    by_cases c3 : (Go.bits .and .u64 a0_1 ((1 * 9223372036854775808) - 1)) > 0
    · rw [if_pos c3] at h
      have c3b : decide (0 < (Go.bits .and .u64 a0_1 9223372036854775807)) = true := decide_eq_true c3
      clear c3
      simp only [Option.some.injEq, Prod.mk.injEq] at h
      obtain ⟨rfl, rfl⟩ := h
      go_enter Try.func55, Try.ntmps55
      go_wp2
      go_quiet (fail)
      go_wp2
      all_goals (refine bodyPost_ret (v := .agg #[.int .i64 (wrap64 (a0_0 + 63)), .int .u64 (Go.bits .or .u64 (a0_1 / 9223372036854775808) 1)]) (by simp [results, Try.results55, go_sem, *]) rfl ⟨rfl, ?_⟩)
      all_goals repeat (first | exact Below.refl _ _ | apply below_alloc | apply pw_below_drewN)
    · rw [if_neg c3] at h
      have c3b : decide (0 < (Go.bits .and .u64 a0_1 9223372036854775807)) = false := decide_eq_false c3
      clear c3
      simp only [Option.some.injEq, Prod.mk.injEq] at h
      obtain ⟨rfl, rfl⟩ := h
      go_enter Try.func55, Try.ntmps55
      go_wp2
      go_quiet (fail)
      go_wp2
      all_goals (refine bodyPost_ret (v := .agg #[.int .i64 (wrap64 (a0_0 + 63)), .int .u64 (a0_1 / 9223372036854775808)]) (by simp [results, Try.results55, go_sem, *]) rfl ⟨rfl, ?_⟩)
      all_goals repeat (first | exact Below.refl _ _ | apply below_alloc | apply pw_below_drewN)
  · rw [if_neg c2] at h
    have c2b : decide (63 < a1) = false := decide_eq_false c2
    have c2m : a1 ≤ 63 := by omega
    clear c2
    by_cases c4 : 0 ≤ a1
    · rw [if_pos c4] at h
      have e1 : shl .u64 1 a1 = IntKind.u64.wrap (2 ^ a1.toNat) := by unfold shl; rw [Nat.min_eq_left (by have : IntKind.u64.bits = 64 := rfl; omega), Int.one_mul]
      have e2 : shr .u64 a0_1 a1 = a0_1 / 2 ^ a1.toNat := by unfold shr; rw [Nat.min_eq_left (by have : IntKind.u64.bits = 64 := rfl; omega)]
      rw [e1, e2] at h
      clear e1 e2
      by_cases c3 : (Go.bits .and .u64 a0_1 (IntKind.u64.wrap (IntKind.u64.wrap (2 ^ a1.toNat) - 1))) > 0
      · rw [if_pos c3] at h
        have c3b : decide (0 < (Go.bits .and .u64 a0_1 (IntKind.u64.wrap (IntKind.u64.wrap (2 ^ a1.toNat) - 1)))) = true := decide_eq_true c3
        clear c3
        simp only [Option.some.injEq, Prod.mk.injEq] at h
        obtain ⟨rfl, rfl⟩ := h
        go_enter Try.func55, Try.ntmps55
        go_wp2
        go_quiet (fail)
        go_wp2
        all_goals (refine bodyPost_ret (v := .agg #[.int .i64 (wrap64 (a0_0 + a1)), .int .u64 (Go.bits .or .u64 (a0_1 / 2 ^ a1.toNat) 1)]) (by simp [results, Try.results55, go_sem, *]) rfl ⟨rfl, ?_⟩)
        all_goals repeat (first | exact Below.refl _ _ | apply below_alloc | apply pw_below_drewN)
      · rw [if_neg c3] at h
        have c3b : decide (0 < (Go.bits .and .u64 a0_1 (IntKind.u64.wrap (IntKind.u64.wrap (2 ^ a1.toNat) - 1)))) = false := decide_eq_false c3
        clear c3
        simp only [Option.some.injEq, Prod.mk.injEq] at h
        obtain ⟨rfl, rfl⟩ := h
        go_enter Try.func55, Try.ntmps55
        go_wp2
        go_quiet (fail)
        go_wp2
        all_goals (refine bodyPost_ret (v := .agg #[.int .i64 (wrap64 (a0_0 + a1)), .int .u64 (a0_1 / 2 ^ a1.toNat)]) (by simp [results, Try.results55, go_sem, *]) rfl ⟨rfl, ?_⟩)
        all_goals repeat (first | exact Below.refl _ _ | apply below_alloc | apply pw_below_drewN)
    · rw [if_neg c4] at h
      exact absurd h (by simp)

/-! ### fadd_part_round: function 56 -/
def fadd_part_round.f (a0_0 : Int) (a0_1 : Int) : Option (Int) := if (Go.bits .and .u64 a0_1 7) > 4 then (some (mn (IntKind.u64.wrap ((IntKind.u64.wrap ((IntKind.u64.wrap ((IntKind.u64.wrap (wrap64 (a0_0 - 1))) * 4503599627370496)) + (a0_1 / 8))) + 1)) 9218868437227405312)) else (if (Go.bits .and .u64 a0_1 7) = 4 then (if (Go.bits .and .u64 (IntKind.u64.wrap ((IntKind.u64.wrap ((IntKind.u64.wrap (wrap64 (a0_0 - 1))) * 4503599627370496)) + (a0_1 / 8))) 1) = 1 then (some (mn (IntKind.u64.wrap ((IntKind.u64.wrap ((IntKind.u64.wrap ((IntKind.u64.wrap (wrap64 (a0_0 - 1))) * 4503599627370496)) + (a0_1 / 8))) + 1)) 9218868437227405312)) else (some (mn (IntKind.u64.wrap ((IntKind.u64.wrap ((IntKind.u64.wrap (wrap64 (a0_0 - 1))) * 4503599627370496)) + (a0_1 / 8))) 9218868437227405312))) else (some (mn (IntKind.u64.wrap ((IntKind.u64.wrap ((IntKind.u64.wrap (wrap64 (a0_0 - 1))) * 4503599627370496)) + (a0_1 / 8))) 9218868437227405312)))
set_option maxHeartbeats 8000000 in
set_option maxRecDepth 100000 in
theorem fadd_part_round.calls (a0_0 : Int) (a0_1 : Int) (r : Int) (w : World) (h : fadd_part_round.f a0_0 a0_1 = some r) :
    Calls Try.prog 56 #[.agg #[.int .i64 a0_0, .int .u64 a0_1]] w fun e w' => e = .returned (.int .u64 r) ∧ Below w.heap.size w w' := by
  have hu47 := Try.underlying47
  have HB := Aside0.mk (Below.refl w.heap.size w)
  have H : (if (Go.bits .and .u64 a0_1 7) > 4 then (some (mn (IntKind.u64.wrap ((IntKind.u64.wrap ((IntKind.u64.wrap ((IntKind.u64.wrap (wrap64 (a0_0 - 1))) * 4503599627370496)) + (a0_1 / 8))) + 1)) 9218868437227405312)) else (if (Go.bits .and .u64 a0_1 7) = 4 then (if (Go.bits .and .u64 (IntKind.u64.wrap ((IntKind.u64.wrap ((IntKind.u64.wrap (wrap64 (a0_0 - 1))) * 4503599627370496)) + (a0_1 / 8))) 1) = 1 then (some (mn (IntKind.u64.wrap ((IntKind.u64.wrap ((IntKind.u64.wrap ((IntKind.u64.wrap (wrap64 (a0_0 - 1))) * 4503599627370496)) + (a0_1 / 8))) + 1)) 9218868437227405312)) else (some (mn (IntKind.u64.wrap ((IntKind.u64.wrap ((IntKind.u64.wrap (wrap64 (a0_0 - 1))) * 4503599627370496)) + (a0_1 / 8))) 9218868437227405312))) else (some (mn (IntKind.u64.wrap ((IntKind.u64.wrap ((IntKind.u64.wrap (wrap64 (a0_0 - 1))) * 4503599627370496)) + (a0_1 / 8))) 9218868437227405312)))) = some r := h
  clear h
  by_cases c2 : (Go.bits .and .u64 a0_1 7) > 4
  · rw [if_pos c2] at H
    have c2b0 : decide (4 < (Go.bits .and .u64 a0_1 7)) = true := decide_eq_true c2
    clear c2
    obtain ⟨ji3, hji3⟩ : ∃ j_ : Int, (mn (IntKind.u64.wrap ((IntKind.u64.wrap ((IntKind.u64.wrap ((IntKind.u64.wrap (wrap64 (a0_0 - 1))) * 4503599627370496)) + (a0_1 / 8))) + 1)) 9218868437227405312) = j_ := ⟨_, rfl⟩
    replace H : (some ji3) = some r := by first | (rw [hji3] at H; exact H) | (simp only [hji3] at H ⊢; exact H)
    (try (have hji3h : ji3 ≤ 9218868437227405312 := by (rw [← hji3]; unfold mn; (repeat' split) <;> omega)))
    (try (have hji3g : ji3 ≤ 64 := by omega))
    have hji3_ : (if 9218868437227405312 < (IntKind.u64.wrap ((IntKind.u64.wrap ((IntKind.u64.wrap ((IntKind.u64.wrap (wrap64 (a0_0 - 1))) * 4503599627370496)) + (a0_1 / 8))) + 1)) then 9218868437227405312 else (IntKind.u64.wrap ((IntKind.u64.wrap ((IntKind.u64.wrap ((IntKind.u64.wrap (wrap64 (a0_0 - 1))) * 4503599627370496)) + (a0_1 / 8))) + 1))) = ji3 := hji3
    obtain rfl := Option.some.inj H
    go_enter Try.func56, Try.ntmps56
    go_wp2_with (first | ((with_reducible refine gate_dst (N := 1) rfl ?_); refine box_event ?hg (N := 1) ?hd (cs := #[.int .i64 a0_0, .int .u64 a0_1]) (t := 47) ?hr ?_; (case hd => rfl); (case hg => rfl); (case hr => first | (go_simp; done) | (go_simp; rfl)); intro gb106 hg w4 hbox hb; have n0_ := Aside0.mk (below_step (by repeat (first | (with_reducible first | exact HB.out | apply below_alloc | apply pw_below_drewN | apply below_drew1) | exact HB.out)) hb); have n1_ := Aside0.mk (hbox); have n2_ := Aside0.mk ((by rw [hg]; exact (below_size (by repeat (first | (with_reducible first | exact HB.out | apply below_alloc | apply pw_below_drewN | apply below_drew1) | exact HB.out))) : w.heap.size ≤ gb106)); have n3_ := Aside0.mk ((by rw [hg]; exact (below_size (by repeat (first | (with_reducible first | exact HB.out | apply below_alloc | apply pw_below_drewN | apply below_drew1) | exact HB.out))) : w.heap.size ≤ gb106)); clear HB; have HB := n0_; have BK106 := n1_; have GW106 := n2_; have GE106 := n3_; clear n0_ n1_ n2_ n3_; clear hb hbox hg; have hcz5_0 : w4.cell? ⟨gb106, 0, none⟩ = some (.int .i64 a0_0) := (blk_cell BK106.out 0).trans rfl; have hcz5_1 : w4.cell? ⟨gb106, 1, none⟩ = some (.int .u64 a0_1) := (blk_cell BK106.out 1).trans rfl; have hfz5_0 := blk_frozen BK106.out 0; have hfz5_1 := blk_frozen BK106.out 1))
    go_ret
    exact ⟨by first | rfl | (simp [errW_none, errW_some] <;> rfl) | (simp only [← hji3]; first | rfl | (simp [errW_none, errW_some] <;> rfl)) | (simp [*, errW_none, errW_some] <;> rfl), by repeat (first | (with_reducible first | exact HB.out | apply below_alloc | apply pw_below_drewN | apply below_drew1 | refine below_set ?_ GE106.out) | exact HB.out)⟩
  · rw [if_neg c2] at H
    have c2b0 : decide (4 < (Go.bits .and .u64 a0_1 7)) = false := decide_eq_false c2
    clear c2
    by_cases c6 : (Go.bits .and .u64 a0_1 7) = 4
    · rw [if_pos c6] at H
      have c6b0 : ((Go.bits .and .u64 a0_1 7) == 4) = true := beq_iff_eq.mpr c6
      have c6b1 : ((Go.bits .and .u64 a0_1 7) != 4) = false := bne_eq_false_iff_eq.mpr c6
      clear c6
      by_cases c7 : (Go.bits .and .u64 (IntKind.u64.wrap ((IntKind.u64.wrap ((IntKind.u64.wrap (wrap64 (a0_0 - 1))) * 4503599627370496)) + (a0_1 / 8))) 1) = 1
      · rw [if_pos c7] at H
        have c7b0 : ((Go.bits .and .u64 (IntKind.u64.wrap ((IntKind.u64.wrap ((IntKind.u64.wrap (wrap64 (a0_0 - 1))) * 4503599627370496)) + (a0_1 / 8))) 1) == 1) = true := beq_iff_eq.mpr c7
        have c7b1 : ((Go.bits .and .u64 (IntKind.u64.wrap ((IntKind.u64.wrap ((IntKind.u64.wrap (wrap64 (a0_0 - 1))) * 4503599627370496)) + (a0_1 / 8))) 1) != 1) = false := bne_eq_false_iff_eq.mpr c7
        clear c7
        obtain ⟨ji8, hji8⟩ : ∃ j_ : Int, (mn (IntKind.u64.wrap ((IntKind.u64.wrap ((IntKind.u64.wrap ((IntKind.u64.wrap (wrap64 (a0_0 - 1))) * 4503599627370496)) + (a0_1 / 8))) + 1)) 9218868437227405312) = j_ := ⟨_, rfl⟩
        replace H : (some ji8) = some r := by first | (rw [hji8] at H; exact H) | (simp only [hji8] at H ⊢; exact H)
        (try (have hji8h : ji8 ≤ 9218868437227405312 := by (rw [← hji8]; unfold mn; (repeat' split) <;> omega)))
        (try (have hji8g : ji8 ≤ 64 := by omega))
        have hji8_ : (if 9218868437227405312 < (IntKind.u64.wrap ((IntKind.u64.wrap ((IntKind.u64.wrap ((IntKind.u64.wrap (wrap64 (a0_0 - 1))) * 4503599627370496)) + (a0_1 / 8))) + 1)) then 9218868437227405312 else (IntKind.u64.wrap ((IntKind.u64.wrap ((IntKind.u64.wrap ((IntKind.u64.wrap (wrap64 (a0_0 - 1))) * 4503599627370496)) + (a0_1 / 8))) + 1))) = ji8 := hji8
        obtain rfl := Option.some.inj H
        go_enter Try.func56, Try.ntmps56
        go_wp2_with (first | ((with_reducible refine gate_dst (N := 1) rfl ?_); refine box_event ?hg (N := 1) ?hd (cs := #[.int .i64 a0_0, .int .u64 a0_1]) (t := 47) ?hr ?_; (case hd => rfl); (case hg => rfl); (case hr => first | (go_simp; done) | (go_simp; rfl)); intro gb106 hg w9 hbox hb; have n0_ := Aside0.mk (below_step (by repeat (first | (with_reducible first | exact HB.out | apply below_alloc | apply pw_below_drewN | apply below_drew1) | exact HB.out)) hb); have n1_ := Aside0.mk (hbox); have n2_ := Aside0.mk ((by rw [hg]; exact (below_size (by repeat (first | (with_reducible first | exact HB.out | apply below_alloc | apply pw_below_drewN | apply below_drew1) | exact HB.out))) : w.heap.size ≤ gb106)); have n3_ := Aside0.mk ((by rw [hg]; exact (below_size (by repeat (first | (with_reducible first | exact HB.out | apply below_alloc | apply pw_below_drewN | apply below_drew1) | exact HB.out))) : w.heap.size ≤ gb106)); clear HB; have HB := n0_; have BK106 := n1_; have GW106 := n2_; have GE106 := n3_; clear n0_ n1_ n2_ n3_; clear hb hbox hg; have hcz10_0 : w9.cell? ⟨gb106, 0, none⟩ = some (.int .i64 a0_0) := (blk_cell BK106.out 0).trans rfl; have hcz10_1 : w9.cell? ⟨gb106, 1, none⟩ = some (.int .u64 a0_1) := (blk_cell BK106.out 1).trans rfl; have hfz10_0 := blk_frozen BK106.out 0; have hfz10_1 := blk_frozen BK106.out 1))
        go_ret
        exact ⟨by first | rfl | (simp [errW_none, errW_some] <;> rfl) | (simp only [← hji8]; first | rfl | (simp [errW_none, errW_some] <;> rfl)) | (simp [*, errW_none, errW_some] <;> rfl), by repeat (first | (with_reducible first | exact HB.out | apply below_alloc | apply pw_below_drewN | apply below_drew1 | refine below_set ?_ GE106.out) | exact HB.out)⟩
      · rw [if_neg c7] at H
        have c7b0 : ((Go.bits .and .u64 (IntKind.u64.wrap ((IntKind.u64.wrap ((IntKind.u64.wrap (wrap64 (a0_0 - 1))) * 4503599627370496)) + (a0_1 / 8))) 1) == 1) = false := beq_eq_false_iff_ne.mpr c7
        have c7b1 : ((Go.bits .and .u64 (IntKind.u64.wrap ((IntKind.u64.wrap ((IntKind.u64.wrap (wrap64 (a0_0 - 1))) * 4503599627370496)) + (a0_1 / 8))) 1) != 1) = true := bne_iff_ne.mpr c7
        obtain ⟨ji11, hji11⟩ : ∃ j_ : Int, (mn (IntKind.u64.wrap ((IntKind.u64.wrap ((IntKind.u64.wrap (wrap64 (a0_0 - 1))) * 4503599627370496)) + (a0_1 / 8))) 9218868437227405312) = j_ := ⟨_, rfl⟩
        replace H : (some ji11) = some r := by first | (rw [hji11] at H; exact H) | (simp only [hji11] at H ⊢; exact H)
        (try (have hji11h : ji11 ≤ 9218868437227405312 := by (rw [← hji11]; unfold mn; (repeat' split) <;> omega)))
        (try (have hji11g : ji11 ≤ 64 := by omega))
        have hji11_ : (if 9218868437227405312 < (IntKind.u64.wrap ((IntKind.u64.wrap ((IntKind.u64.wrap (wrap64 (a0_0 - 1))) * 4503599627370496)) + (a0_1 / 8))) then 9218868437227405312 else (IntKind.u64.wrap ((IntKind.u64.wrap ((IntKind.u64.wrap (wrap64 (a0_0 - 1))) * 4503599627370496)) + (a0_1 / 8)))) = ji11 := hji11
        obtain rfl := Option.some.inj H
        go_enter Try.func56, Try.ntmps56
        go_wp2_with (first | ((with_reducible refine gate_dst (N := 1) rfl ?_); refine box_event ?hg (N := 1) ?hd (cs := #[.int .i64 a0_0, .int .u64 a0_1]) (t := 47) ?hr ?_; (case hd => rfl); (case hg => rfl); (case hr => first | (go_simp; done) | (go_simp; rfl)); intro gb106 hg w12 hbox hb; have n0_ := Aside0.mk (below_step (by repeat (first | (with_reducible first | exact HB.out | apply below_alloc | apply pw_below_drewN | apply below_drew1) | exact HB.out)) hb); have n1_ := Aside0.mk (hbox); have n2_ := Aside0.mk ((by rw [hg]; exact (below_size (by repeat (first | (with_reducible first | exact HB.out | apply below_alloc | apply pw_below_drewN | apply below_drew1) | exact HB.out))) : w.heap.size ≤ gb106)); have n3_ := Aside0.mk ((by rw [hg]; exact (below_size (by repeat (first | (with_reducible first | exact HB.out | apply below_alloc | apply pw_below_drewN | apply below_drew1) | exact HB.out))) : w.heap.size ≤ gb106)); clear HB; have HB := n0_; have BK106 := n1_; have GW106 := n2_; have GE106 := n3_; clear n0_ n1_ n2_ n3_; clear hb hbox hg; have hcz13_0 : w12.cell? ⟨gb106, 0, none⟩ = some (.int .i64 a0_0) := (blk_cell BK106.out 0).trans rfl; have hcz13_1 : w12.cell? ⟨gb106, 1, none⟩ = some (.int .u64 a0_1) := (blk_cell BK106.out 1).trans rfl; have hfz13_0 := blk_frozen BK106.out 0; have hfz13_1 := blk_frozen BK106.out 1))
        go_ret
        exact ⟨by first | rfl | (simp [errW_none, errW_some] <;> rfl) | (simp only [← hji11]; first | rfl | (simp [errW_none, errW_some] <;> rfl)) | (simp [*, errW_none, errW_some] <;> rfl), by repeat (first | (with_reducible first | exact HB.out | apply below_alloc | apply pw_below_drewN | apply below_drew1 | refine below_set ?_ GE106.out) | exact HB.out)⟩
    · rw [if_neg c6] at H
      have c6b0 : ((Go.bits .and .u64 a0_1 7) == 4) = false := beq_eq_false_iff_ne.mpr c6
      have c6b1 : ((Go.bits .and .u64 a0_1 7) != 4) = true := bne_iff_ne.mpr c6
      obtain ⟨ji14, hji14⟩ : ∃ j_ : Int, (mn (IntKind.u64.wrap ((IntKind.u64.wrap ((IntKind.u64.wrap (wrap64 (a0_0 - 1))) * 4503599627370496)) + (a0_1 / 8))) 9218868437227405312) = j_ := ⟨_, rfl⟩
      replace H : (some ji14) = some r := by first | (rw [hji14] at H; exact H) | (simp only [hji14] at H ⊢; exact H)
      (try (have hji14h : ji14 ≤ 9218868437227405312 := by (rw [← hji14]; unfold mn; (repeat' split) <;> omega)))
      (try (have hji14g : ji14 ≤ 64 := by omega))
      have hji14_ : (if 9218868437227405312 < (IntKind.u64.wrap ((IntKind.u64.wrap ((IntKind.u64.wrap (wrap64 (a0_0 - 1))) * 4503599627370496)) + (a0_1 / 8))) then 9218868437227405312 else (IntKind.u64.wrap ((IntKind.u64.wrap ((IntKind.u64.wrap (wrap64 (a0_0 - 1))) * 4503599627370496)) + (a0_1 / 8)))) = ji14 := hji14
      obtain rfl := Option.some.inj H
      go_enter Try.func56, Try.ntmps56
      go_wp2_with (first | ((with_reducible refine gate_dst (N := 1) rfl ?_); refine box_event ?hg (N := 1) ?hd (cs := #[.int .i64 a0_0, .int .u64 a0_1]) (t := 47) ?hr ?_; (case hd => rfl); (case hg => rfl); (case hr => first | (go_simp; done) | (go_simp; rfl)); intro gb106 hg w15 hbox hb; have n0_ := Aside0.mk (below_step (by repeat (first | (with_reducible first | exact HB.out | apply below_alloc | apply pw_below_drewN | apply below_drew1) | exact HB.out)) hb); have n1_ := Aside0.mk (hbox); have n2_ := Aside0.mk ((by rw [hg]; exact (below_size (by repeat (first | (with_reducible first | exact HB.out | apply below_alloc | apply pw_below_drewN | apply below_drew1) | exact HB.out))) : w.heap.size ≤ gb106)); have n3_ := Aside0.mk ((by rw [hg]; exact (below_size (by repeat (first | (with_reducible first | exact HB.out | apply below_alloc | apply pw_below_drewN | apply below_drew1) | exact HB.out))) : w.heap.size ≤ gb106)); clear HB; have HB := n0_; have BK106 := n1_; have GW106 := n2_; have GE106 := n3_; clear n0_ n1_ n2_ n3_; clear hb hbox hg; have hcz16_0 : w15.cell? ⟨gb106, 0, none⟩ = some (.int .i64 a0_0) := (blk_cell BK106.out 0).trans rfl; have hcz16_1 : w15.cell? ⟨gb106, 1, none⟩ = some (.int .u64 a0_1) := (blk_cell BK106.out 1).trans rfl; have hfz16_0 := blk_frozen BK106.out 0; have hfz16_1 := blk_frozen BK106.out 1))
      go_ret
      exact ⟨by first | rfl | (simp [errW_none, errW_some] <;> rfl) | (simp only [← hji14]; first | rfl | (simp [errW_none, errW_some] <;> rfl)) | (simp [*, errW_none, errW_some] <;> rfl), by repeat (first | (with_reducible first | exact HB.out | apply below_alloc | apply pw_below_drewN | apply below_drew1 | refine below_set ?_ GE106.out) | exact HB.out)⟩

/-! ### fadd_part_raise: function 57 -/
def fadd_part_raise.l0 : Nat → Int → Int → Option (Int × Int)
  | 0, _, _ => none
  | k + 1, x108000, x108001 => if x108001 < 36028797018963968 then (if x108000 > 1 then (fadd_part_raise.l0 k (wrap64 (x108000 - 1)) (IntKind.u64.wrap (x108001 * 2))) else (some (x108000, x108001))) else (some (x108000, x108001))
def fadd_part_raise.f (k : Nat) (a0_0 : Int) (a0_1 : Int) : Option (Int × Int) := fadd_part_raise.l0 k a0_0 a0_1
theorem fadd_part_raise.mono_l : ∀ k, (∀ y0 y1, LeO (fadd_part_raise.l0 k y0 y1) (fadd_part_raise.l0 (k + 1) y0 y1))
  | 0 => fun _ _ r h => by simp [fadd_part_raise.l0] at h
  | k + 1 => by
    have ih0 := fadd_part_raise.mono_l k
    · intro y0 y1
      unfold fadd_part_raise.l0
      repeat' first
      | (with_reducible exact ih0 _ _)
      | (with_reducible exact LeO.refl _)
      | (with_reducible exact LeO.none _)
      | (with_reducible refine LeO.ite ?_ ?_)
      | (with_reducible refine LeO.bind ?_ (fun _ => ?_))
      | exact ih0 _ _
      | exact LeO.none _
      | refine LeO.ite ?_ ?_
      | refine LeO.bind ?_ (fun _ => ?_)
theorem fadd_part_raise.mono : ∀ a0 a1 k, LeO (fadd_part_raise.f k a0 a1) (fadd_part_raise.f (k + 1) a0 a1) := by
  intro a0 a1 k
  have ih0 := fadd_part_raise.mono_l k
  unfold fadd_part_raise.f
  repeat' first
      | (with_reducible exact ih0 _ _)
      | (with_reducible exact LeO.refl _)
      | (with_reducible exact LeO.none _)
      | (with_reducible refine LeO.ite ?_ ?_)
      | (with_reducible refine LeO.bind ?_ (fun _ => ?_))
      | exact ih0 _ _
      | exact LeO.none _
      | refine LeO.ite ?_ ?_
      | refine LeO.bind ?_ (fun _ => ?_)
set_option maxHeartbeats 8000000 in
set_option maxRecDepth 100000 in
theorem fadd_part_raise.calls (k : Nat) (a0_0 : Int) (a0_1 : Int) (r1 : Int) (r2 : Int) (w : World) (h : fadd_part_raise.f k a0_0 a0_1 = some (r1, r2)) :
    Calls Try.prog 57 #[.agg #[.int .i64 a0_0, .int .u64 a0_1]] w fun e w' => e = .returned (.agg #[.int .i64 r1, .int .u64 r2]) ∧ Below w.heap.size w w' := by
  have hu := Try.underlying47
  unfold fadd_part_raise.f at h
  have H' := Aside0.mk h
  clear h
  go_enter Try.func57, Try.ntmps57
  go_wp2
  go_loopg [] k (fun kq w' => ∃ (x y : Int) (n : Nat), Aside0 (fadd_part_raise.l0 kq x y = some (r1, r2)) ∧ w' = ((w.alloc (.cells #[.int .i64 x, .int .u64 y] 47)).alloc (.cells #[.int .i64 0, .int .u64 0] 47)).drewN n)
  case atStart => exact ⟨a0_0, a0_1, 0, H', rfl⟩
  case round =>
    clear H'
    obtain ⟨x, y, n, HA, rfl⟩ := hrel
    cases gk with
    | zero => exact absurd HA.out (by simp [fadd_part_raise.l0])
    | succ k1 =>
      have H := HA.out
      clear HA
      simp only [fadd_part_raise.l0] at H
      by_cases c4 : y < 36028797018963968
      · rw [if_pos c4] at H
        have c4b0 : decide (y < 36028797018963968) = true := decide_eq_true c4
        clear c4
        by_cases c5 : x > 1
        · rw [if_pos c5] at H
          have c5b0 : decide (1 < x) = true := decide_eq_true c5
          clear c5
          have HA := Aside0.mk H
          clear H
          go_wp2
          go_roundg k1
          case measure => omega
          case rel => exact ⟨wrap64 (x - 1), IntKind.u64.wrap (y * 2), n, HA, rfl⟩
        · rw [if_neg c5] at H
          have c5b0 : decide (1 < x) = false := decide_eq_false c5
          clear c5
          simp only [Option.some.injEq, Prod.mk.injEq] at H
          obtain ⟨rfl, rfl⟩ := H
          go_wp2
          all_goals (refine bodyPost_ret (v := .agg #[.int .i64 x, .int .u64 y]) (by simp [results, Try.results57, go_sem, *]) rfl ⟨rfl, ?_⟩)
          all_goals repeat (first | exact Below.refl _ _ | apply below_alloc | apply pw_below_drewN)
      · rw [if_neg c4] at H
        have c4b0 : decide (y < 36028797018963968) = false := decide_eq_false c4
        clear c4
        simp only [Option.some.injEq, Prod.mk.injEq] at H
        obtain ⟨rfl, rfl⟩ := H
        go_wp2
        all_goals (refine bodyPost_ret (v := .agg #[.int .i64 x, .int .u64 y]) (by simp [results, Try.results57, go_sem, *]) rfl ⟨rfl, ?_⟩)
        all_goals repeat (first | exact Below.refl _ _ | apply below_alloc | apply pw_below_drewN)

/-! ### fadd_finite: function 50 -/
def fadd_finite.j0 : Nat → Int → Int → Option (Int)
  | 0, _, _ => none
  | k + 1, x0, x1 => (fadd_parted.f x0).bind fun bt109 => ((fadd_parted.f x1).bind fun bt112 => ((fadd_part_lower.f bt112.1 bt112.2 (wrap64 (bt109.1 - bt112.1))).bind fun bt115 => (if (Go.bits .and .u64 x0 9223372036854775808) = (Go.bits .and .u64 x1 9223372036854775808) then (if (IntKind.u64.wrap (bt109.2 + bt115.2)) ≥ 72057594037927936 then ((fadd_part_lower.f bt109.1 (IntKind.u64.wrap (bt109.2 + bt115.2)) 1).bind fun bt117 => ((fadd_part_round.f bt117.1 bt117.2).bind fun t119 => (some (Go.bits .or .u64 (Go.bits .and .u64 x0 9223372036854775808) t119)))) else ((fadd_part_round.f bt109.1 (IntKind.u64.wrap (bt109.2 + bt115.2))).bind fun t120 => (some (Go.bits .or .u64 (Go.bits .and .u64 x0 9223372036854775808) t120)))) else (if (IntKind.u64.wrap (bt109.2 - bt115.2)) = 0 then (some 0) else ((fadd_part_raise.f k bt109.1 (IntKind.u64.wrap (bt109.2 - bt115.2))).bind fun bt121 => ((fadd_part_round.f bt121.1 bt121.2).bind fun t123 => (some (Go.bits .or .u64 (Go.bits .and .u64 x0 9223372036854775808) t123))))))))
def fadd_finite.f (k : Nat) (a0 : Int) (a1 : Int) : Option (Int) := if (Go.bits .andNot .u64 a0 9223372036854775808) < (Go.bits .andNot .u64 a1 9223372036854775808) then (fadd_finite.j0 k a1 a0) else (fadd_finite.j0 k a0 a1)
theorem fadd_finite.mono_l : ∀ k, (∀ y0 y1, LeO (fadd_finite.j0 k y0 y1) (fadd_finite.j0 (k + 1) y0 y1))
  | 0 => fun _ _ r h => by simp [fadd_finite.j0] at h
  | k + 1 => by
    have ih0 := fadd_finite.mono_l k
    · intro y0 y1
      unfold fadd_finite.j0
      repeat' first
      | (with_reducible exact ih0 _ _)
      | (with_reducible exact fadd_part_raise.mono _ _ _)
      | (with_reducible exact LeO.refl _)
      | (with_reducible exact LeO.none _)
      | (with_reducible refine LeO.ite ?_ ?_)
      | (with_reducible refine LeO.bind ?_ (fun _ => ?_))
      | exact ih0 _ _
      | exact fadd_part_raise.mono _ _ _
      | exact LeO.none _
      | refine LeO.ite ?_ ?_
      | refine LeO.bind ?_ (fun _ => ?_)
theorem fadd_finite.mono : ∀ a0 a1 k, LeO (fadd_finite.f k a0 a1) (fadd_finite.f (k + 1) a0 a1) := by
  intro a0 a1 k
  have ih0 := fadd_finite.mono_l k
  unfold fadd_finite.f
  repeat' first
      | (with_reducible exact ih0 _ _)
      | (with_reducible exact fadd_part_raise.mono _ _ _)
      | (with_reducible exact LeO.refl _)
      | (with_reducible exact LeO.none _)
      | (with_reducible refine LeO.ite ?_ ?_)
      | (with_reducible refine LeO.bind ?_ (fun _ => ?_))
      | exact ih0 _ _
      | exact fadd_part_raise.mono _ _ _
      | exact LeO.none _
      | refine LeO.ite ?_ ?_
      | refine LeO.bind ?_ (fun _ => ?_)
set_option maxHeartbeats 8000000 in
set_option maxRecDepth 100000 in
theorem fadd_finite.calls (k : Nat) (a0 : Int) (a1 : Int) (r : Int) (w : World) (h : fadd_finite.f k a0 a1 = some r) :
    Calls Try.prog 50 #[.int .u64 a0, .int .u64 a1] w fun e w' => e = .returned (.int .u64 r) ∧ Below w.heap.size w w' := by
  have hu47 := Try.underlying47
  have HB := Aside0.mk (Below.refl w.heap.size w)
  have H : (if (Go.bits .andNot .u64 a0 9223372036854775808) < (Go.bits .andNot .u64 a1 9223372036854775808) then (fadd_finite.j0 k a1 a0) else (fadd_finite.j0 k a0 a1)) = some r := h
  clear h
  have HC3 := Aside0.mk H
  clear H
  go_enter Try.func50, Try.ntmps50
  go_upto_if 12 with (fail)
  go_cut [0, 1] (fun v0 v1 wc => ∃ (kq : Nat) (x0_2 : Int) (x1_2 : Int), v0 = .int .u64 x0_2 ∧ v1 = .int .u64 x1_2 ∧ Aside0 (fadd_finite.j0 kq x0_2 x1_2 = some r) ∧ Aside0 (kq ≤ k) ∧ Aside0 (Below w.heap.size w wc))
  case first =>
    have H := HC3.out
    clear HC3
    by_cases c4 : (Go.bits .andNot .u64 a0 9223372036854775808) < (Go.bits .andNot .u64 a1 9223372036854775808)
    · rw [if_pos c4] at H
      have c4b0 : decide ((Go.bits .andNot .u64 a0 9223372036854775808) < (Go.bits .andNot .u64 a1 9223372036854775808)) = true := decide_eq_true c4
      clear c4
      (first | rw [c4b0] | (simp only [i64_w, i32_w]; rw [c4b0]) | skip)
      have H' := Aside0.mk H
      clear H
      go_wp2
      go_meet
      case rel => exact ⟨_, (a1), (a0), (by first | rfl | (simp; done) | (simp [*]; done)), (by first | rfl | (simp; done) | (simp [*]; done)), H', ⟨by first | omega | exact Nat.le_refl _⟩, ⟨by repeat (first | (with_reducible first | exact HB.out | apply below_alloc | apply pw_below_drewN | apply below_drew1) | exact HB.out)⟩⟩
    · rw [if_neg c4] at H
      have c4b0 : decide ((Go.bits .andNot .u64 a0 9223372036854775808) < (Go.bits .andNot .u64 a1 9223372036854775808)) = false := decide_eq_false c4
      clear c4
      (first | rw [c4b0] | (simp only [i64_w, i32_w]; rw [c4b0]) | skip)
      have H' := Aside0.mk H
      clear H
      go_wp2
      go_meet
      case rel => exact ⟨_, (a0), (a1), (by first | rfl | (simp; done) | (simp [*]; done)), (by first | rfl | (simp; done) | (simp [*]; done)), H', ⟨by first | omega | exact Nat.le_refl _⟩, ⟨by repeat (first | (with_reducible first | exact HB.out | apply below_alloc | apply pw_below_drewN | apply below_drew1) | exact HB.out)⟩⟩
  case rest =>
    clear HC3
    try clear p2
    try clear c4
    try clear c4b0
    obtain ⟨kq, x0_2, x1_2, rfl, rfl, HA, HJ2, HB⟩ := hcut
    cases kq with
    | zero => exact absurd HA.out (by simp [fadd_finite.j0])
    | succ kj2 =>
      have H := HA.out
      clear HA
      simp only [fadd_finite.j0] at H
      replace H := Option.bind_eq_some_iff.mp H
      obtain ⟨⟨t109, t110⟩, A50, H⟩ := H
      replace H : ((fadd_parted.f x1_2).bind fun bt112 => ((fadd_part_lower.f bt112.1 bt112.2 (wrap64 (t109 - bt112.1))).bind fun bt115 => (if (Go.bits .and .u64 x0_2 9223372036854775808) = (Go.bits .and .u64 x1_2 9223372036854775808) then (if (IntKind.u64.wrap (t110 + bt115.2)) ≥ 72057594037927936 then ((fadd_part_lower.f t109 (IntKind.u64.wrap (t110 + bt115.2)) 1).bind fun bt117 => ((fadd_part_round.f bt117.1 bt117.2).bind fun t119 => (some (Go.bits .or .u64 (Go.bits .and .u64 x0_2 9223372036854775808) t119)))) else ((fadd_part_round.f t109 (IntKind.u64.wrap (t110 + bt115.2))).bind fun t120 => (some (Go.bits .or .u64 (Go.bits .and .u64 x0_2 9223372036854775808) t120)))) else (if (IntKind.u64.wrap (t110 - bt115.2)) = 0 then (some 0) else ((fadd_part_raise.f kj2 t109 (IntKind.u64.wrap (t110 - bt115.2))).bind fun bt121 => ((fadd_part_round.f bt121.1 bt121.2).bind fun t123 => (some (Go.bits .or .u64 (Go.bits .and .u64 x0_2 9223372036854775808) t123)))))))) = some r := H
      have A5 := Aside0.mk A50
      clear A50
      replace H := Option.bind_eq_some_iff.mp H
      obtain ⟨⟨t112, t113⟩, A60, H⟩ := H
      replace H : ((fadd_part_lower.f t112 t113 (wrap64 (t109 - t112))).bind fun bt115 => (if (Go.bits .and .u64 x0_2 9223372036854775808) = (Go.bits .and .u64 x1_2 9223372036854775808) then (if (IntKind.u64.wrap (t110 + bt115.2)) ≥ 72057594037927936 then ((fadd_part_lower.f t109 (IntKind.u64.wrap (t110 + bt115.2)) 1).bind fun bt117 => ((fadd_part_round.f bt117.1 bt117.2).bind fun t119 => (some (Go.bits .or .u64 (Go.bits .and .u64 x0_2 9223372036854775808) t119)))) else ((fadd_part_round.f t109 (IntKind.u64.wrap (t110 + bt115.2))).bind fun t120 => (some (Go.bits .or .u64 (Go.bits .and .u64 x0_2 9223372036854775808) t120)))) else (if (IntKind.u64.wrap (t110 - bt115.2)) = 0 then (some 0) else ((fadd_part_raise.f kj2 t109 (IntKind.u64.wrap (t110 - bt115.2))).bind fun bt121 => ((fadd_part_round.f bt121.1 bt121.2).bind fun t123 => (some (Go.bits .or .u64 (Go.bits .and .u64 x0_2 9223372036854775808) t123))))))) = some r := H
      have A6 := Aside0.mk A60
      clear A60
      replace H := Option.bind_eq_some_iff.mp H
      obtain ⟨⟨t115, t116⟩, A70, H⟩ := H
      replace H : (if (Go.bits .and .u64 x0_2 9223372036854775808) = (Go.bits .and .u64 x1_2 9223372036854775808) then (if (IntKind.u64.wrap (t110 + t116)) ≥ 72057594037927936 then ((fadd_part_lower.f t109 (IntKind.u64.wrap (t110 + t116)) 1).bind fun bt117 => ((fadd_part_round.f bt117.1 bt117.2).bind fun t119 => (some (Go.bits .or .u64 (Go.bits .and .u64 x0_2 9223372036854775808) t119)))) else ((fadd_part_round.f t109 (IntKind.u64.wrap (t110 + t116))).bind fun t120 => (some (Go.bits .or .u64 (Go.bits .and .u64 x0_2 9223372036854775808) t120)))) else (if (IntKind.u64.wrap (t110 - t116)) = 0 then (some 0) else ((fadd_part_raise.f kj2 t109 (IntKind.u64.wrap (t110 - t116))).bind fun bt121 => ((fadd_part_round.f bt121.1 bt121.2).bind fun t123 => (some (Go.bits .or .u64 (Go.bits .and .u64 x0_2 9223372036854775808) t123)))))) = some r := H
      have A7 := Aside0.mk A70
      clear A70
      by_cases c8 : (Go.bits .and .u64 x0_2 9223372036854775808) = (Go.bits .and .u64 x1_2 9223372036854775808)
      · rw [if_pos c8] at H
        have c8b0 : ((Go.bits .and .u64 x0_2 9223372036854775808) == (Go.bits .and .u64 x1_2 9223372036854775808)) = true := beq_iff_eq.mpr c8
        have c8b1 : ((Go.bits .and .u64 x0_2 9223372036854775808) != (Go.bits .and .u64 x1_2 9223372036854775808)) = false := bne_eq_false_iff_eq.mpr c8
        clear c8
        by_cases c9 : (IntKind.u64.wrap (t110 + t116)) ≥ 72057594037927936
        · rw [if_pos c9] at H
          have c9b0 : decide (72057594037927936 ≤ (IntKind.u64.wrap (t110 + t116))) = true := decide_eq_true c9
          clear c9
          replace H := Option.bind_eq_some_iff.mp H
          obtain ⟨⟨t117, t118⟩, A100, H⟩ := H
          replace H : ((fadd_part_round.f t117 t118).bind fun t119 => (some (Go.bits .or .u64 (Go.bits .and .u64 x0_2 9223372036854775808) t119))) = some r := H
          have A10 := Aside0.mk A100
          clear A100
          replace H := Option.bind_eq_some_iff.mp H
          obtain ⟨t119, A110, H⟩ := H
          replace H : (some (Go.bits .or .u64 (Go.bits .and .u64 x0_2 9223372036854775808) t119)) = some r := H
          have A11 := Aside0.mk A110
          clear A110
          obtain rfl := Option.some.inj H
          go_wp2_with (first | ((with_reducible refine gate_callee (f := 54) rfl ?_); refine goesL_ (some 18) rfl rfl Try.func54 (by kernel_rfl) rfl #[.int .u64 x0_2] rfl (by (try simp only [List.map_toArray, List.map_cons, List.map_nil]); first | done | rfl | (simp only [List.length_drop, List.length_take]; rfl)) ?_; (with_reducible refine (fadd_parted.calls x0_2 t109 t110 _ A5.out).mono ?_); rintro e w12 ⟨rfl, hb⟩; refine ⟨_, rfl, ?_⟩; have n0_ := Aside0.mk (below_step (by repeat (first | (with_reducible first | exact HB.out | apply below_alloc | apply pw_below_drewN | apply below_drew1) | exact HB.out)) hb); clear HB; have HB := n0_; clear n0_; (try clear hb); (try clear hb2); (try clear hk); (try clear hi)) | ((with_reducible refine gate_dst (N := 6) rfl ?_); refine box_event ?hg (N := 6) ?hd (cs := #[.int .i64 0, .int .u64 0]) (t := 47) ?hr ?_; (case hd => rfl); (case hg => rfl); (case hr => first | (go_simp; done) | (go_simp; rfl)); intro gb111 hg w13 hbox hb; have n0_ := Aside0.mk (below_step (by repeat (first | (with_reducible first | exact HB.out | apply below_alloc | apply pw_below_drewN | apply below_drew1) | exact HB.out)) hb); have n1_ := Aside0.mk (hbox); have n2_ := Aside0.mk ((by rw [hg]; exact (below_size (by repeat (first | (with_reducible first | exact HB.out | apply below_alloc | apply pw_below_drewN | apply below_drew1) | exact HB.out))) : w.heap.size ≤ gb111)); have n3_ := Aside0.mk ((by rw [hg]; exact (below_size (by repeat (first | (with_reducible first | exact HB.out | apply below_alloc | apply pw_below_drewN | apply below_drew1) | exact HB.out))) : w.heap.size ≤ gb111)); clear HB; have HB := n0_; have BK111 := n1_; have GW111 := n2_; have GE111 := n3_; clear n0_ n1_ n2_ n3_; clear hb hbox hg; have hcz14_0 : w13.cell? ⟨gb111, 0, none⟩ = some (.int .i64 0) := (blk_cell BK111.out 0).trans rfl; have hcz14_1 : w13.cell? ⟨gb111, 1, none⟩ = some (.int .u64 0) := (blk_cell BK111.out 1).trans rfl; have hfz14_0 := blk_frozen BK111.out 0; have hfz14_1 := blk_frozen BK111.out 1) | ((with_reducible refine gate_callee (f := 54) rfl ?_); refine goesL_ (some 20) rfl rfl Try.func54 (by kernel_rfl) rfl #[.int .u64 x1_2] rfl (by (try simp only [List.map_toArray, List.map_cons, List.map_nil]); first | done | rfl | (simp only [List.length_drop, List.length_take]; rfl)) ?_; (with_reducible refine (fadd_parted.calls x1_2 t112 t113 _ A6.out).mono ?_); rintro e w15 ⟨rfl, hb⟩; refine ⟨_, rfl, ?_⟩; have n0_ := Aside0.mk (blk_below (g := gb111) (o := .cells #[.int .i64 t109, .int .u64 t110] 47 (0, 0)) (by (with_reducible repeat (first | refine blk_drewN ?_ _ | refine blk_drew ?_ | refine blk_alloc ?_ _)); refine blk_put (cs := #[.int .i64 t109, .int .u64 0]) ?_ 1 _ rfl; (with_reducible repeat (first | refine blk_drewN ?_ _ | refine blk_drew ?_ | refine blk_alloc ?_ _)); refine blk_put (cs := #[.int .i64 0, .int .u64 0]) ?_ 0 _ rfl; (with_reducible repeat (first | refine blk_drewN ?_ _ | refine blk_drew ?_ | refine blk_alloc ?_ _)); exact BK111.out) hb); have n1_ := Aside0.mk (below_step (by repeat (first | (with_reducible first | exact HB.out | apply below_alloc | apply pw_below_drewN | apply below_drew1 | refine below_set ?_ GE111.out) | exact HB.out)) hb); clear BK111; clear HB; have BK111 := n0_; have HB := n1_; clear n0_ n1_; (try clear hb); (try clear hb2); (try clear hk); (try clear hi)) | ((with_reducible refine gate_dst (N := 7) rfl ?_); refine box_event ?hg (N := 7) ?hd (cs := #[.int .i64 0, .int .u64 0]) (t := 47) ?hr ?_; (case hd => rfl); (case hg => rfl); (case hr => first | (go_simp; done) | (go_simp; rfl)); intro gb114 hg w16 hbox hb; have n0_ := Aside0.mk (blk_below (g := gb111) (o := .cells #[.int .i64 t109, .int .u64 t110] 47 (0, 0)) (by (with_reducible repeat (first | refine blk_drewN ?_ _ | refine blk_drew ?_ | refine blk_alloc ?_ _)); exact BK111.out) hb); have n1_ := Aside0.mk (below_step (by repeat (first | (with_reducible first | exact HB.out | apply below_alloc | apply pw_below_drewN | apply below_drew1 | refine below_set ?_ GE111.out) | exact HB.out)) hb); have n2_ := Aside0.mk (hbox); have n3_ := Aside0.mk ((by rw [hg]; exact (below_size (by repeat (first | (with_reducible first | exact HB.out | apply below_alloc | apply pw_below_drewN | apply below_drew1 | refine below_set ?_ GE111.out) | exact HB.out))) : w.heap.size ≤ gb114)); have n4_ := Aside0.mk ((by rw [hg]; exact (below_size (by repeat (first | (with_reducible first | exact HB.out | apply below_alloc | apply pw_below_drewN | apply below_drew1 | refine below_set ?_ GE111.out) | exact HB.out))) : w.heap.size ≤ gb114)); have n5_ := Aside0.mk ((by rw [hg]; exact Nat.ne_of_lt (blk_lt (g := gb111) (o := .cells #[.int .i64 t109, .int .u64 t110] 47 (0, 0)) (by (with_reducible repeat (first | refine blk_drewN ?_ _ | refine blk_drew ?_ | refine blk_alloc ?_ _)); exact BK111.out)) : gb111 ≠ gb114)); have n6_ := Aside0.mk ((by rw [hg]; exact Nat.ne_of_gt (blk_lt (g := gb111) (o := .cells #[.int .i64 t109, .int .u64 t110] 47 (0, 0)) (by (with_reducible repeat (first | refine blk_drewN ?_ _ | refine blk_drew ?_ | refine blk_alloc ?_ _)); exact BK111.out)) : gb114 ≠ gb111)); clear BK111; clear HB; have BK111 := n0_; have HB := n1_; have BK114 := n2_; have GW114 := n3_; have GE114 := n4_; have NB111_114 := n5_; have NB114_111 := n6_; clear n0_ n1_ n2_ n3_ n4_ n5_ n6_; clear hb hbox hg; have hnb17 := NB114_111.out; have hnc17 := NB111_114.out; have hcz18_0 : w16.cell? ⟨gb114, 0, none⟩ = some (.int .i64 0) := (blk_cell BK114.out 0).trans rfl; have hcz18_1 : w16.cell? ⟨gb114, 1, none⟩ = some (.int .u64 0) := (blk_cell BK114.out 1).trans rfl; have hfz18_0 := blk_frozen BK114.out 0; have hfz18_1 := blk_frozen BK114.out 1; have hcz19_0 : w16.cell? ⟨gb111, 0, none⟩ = some (.int .i64 t109) := (blk_cell BK111.out 0).trans rfl; have hcz19_1 : w16.cell? ⟨gb111, 1, none⟩ = some (.int .u64 t110) := (blk_cell BK111.out 1).trans rfl; have hfz19_0 := blk_frozen BK111.out 0; have hfz19_1 := blk_frozen BK111.out 1) | ((with_reducible refine gate_callee (f := 55) rfl ?_); refine goesL_ (some 27) rfl rfl Try.func55 (by kernel_rfl) rfl #[.agg #[.int .i64 t112, .int .u64 t113], .int .i64 (wrap64 (t109 - t112))] rfl (by (try simp only [List.map_toArray, List.map_cons, List.map_nil]); first | done | rfl | (simp only [List.length_drop, List.length_take]; rfl)) ?_; (with_reducible refine (fadd_part_lower.calls t112 t113 (wrap64 (t109 - t112)) t115 t116 _ A7.out).mono ?_); rintro e w20 ⟨rfl, hb⟩; refine ⟨_, rfl, ?_⟩; have n0_ := Aside0.mk (blk_below (g := gb111) (o := .cells #[.int .i64 t109, .int .u64 t110] 47 (0, 0)) (by (with_reducible repeat (first | refine blk_drewN ?_ _ | refine blk_drew ?_ | refine blk_alloc ?_ _)); refine blk_far ?_ NB111_114.out _; (with_reducible repeat (first | refine blk_drewN ?_ _ | refine blk_drew ?_ | refine blk_alloc ?_ _)); refine blk_far ?_ NB111_114.out _; (with_reducible repeat (first | refine blk_drewN ?_ _ | refine blk_drew ?_ | refine blk_alloc ?_ _)); exact BK111.out) hb); have n1_ := Aside0.mk (blk_below (g := gb114) (o := .cells #[.int .i64 t112, .int .u64 t113] 47 (0, 0)) (by (with_reducible repeat (first | refine blk_drewN ?_ _ | refine blk_drew ?_ | refine blk_alloc ?_ _)); refine blk_put (cs := #[.int .i64 t112, .int .u64 0]) ?_ 1 _ rfl; (with_reducible repeat (first | refine blk_drewN ?_ _ | refine blk_drew ?_ | refine blk_alloc ?_ _)); refine blk_put (cs := #[.int .i64 0, .int .u64 0]) ?_ 0 _ rfl; (with_reducible repeat (first | refine blk_drewN ?_ _ | refine blk_drew ?_ | refine blk_alloc ?_ _)); exact BK114.out) hb); have n2_ := Aside0.mk (below_step (by repeat (first | (with_reducible first | exact HB.out | apply below_alloc | apply pw_below_drewN | apply below_drew1 | refine below_set ?_ GE111.out | refine below_set ?_ GE114.out) | exact HB.out)) hb); clear BK111; clear BK114; clear HB; have BK111 := n0_; have BK114 := n1_; have HB := n2_; clear n0_ n1_ n2_; (try clear hb); (try clear hb2); (try clear hk); (try clear hi); have hcz21_0 : w20.cell? ⟨gb114, 0, none⟩ = some (.int .i64 t112) := (blk_cell BK114.out 0).trans rfl; have hcz21_1 : w20.cell? ⟨gb114, 1, none⟩ = some (.int .u64 t113) := (blk_cell BK114.out 1).trans rfl; have hfz21_0 := blk_frozen BK114.out 0; have hfz21_1 := blk_frozen BK114.out 1; have hcz22_0 : w20.cell? ⟨gb111, 0, none⟩ = some (.int .i64 t109) := (blk_cell BK111.out 0).trans rfl; have hcz22_1 : w20.cell? ⟨gb111, 1, none⟩ = some (.int .u64 t110) := (blk_cell BK111.out 1).trans rfl; have hfz22_0 := blk_frozen BK111.out 0; have hfz22_1 := blk_frozen BK111.out 1) | ((with_reducible refine gate_callee (f := 55) rfl ?_); refine goesL_ (some 42) rfl rfl Try.func55 (by kernel_rfl) rfl #[.agg #[.int .i64 t109, .int .u64 (IntKind.u64.wrap (t110 + t116))], .int .i64 1] rfl (by (try simp only [List.map_toArray, List.map_cons, List.map_nil]); first | done | rfl | (simp only [List.length_drop, List.length_take]; rfl)) ?_; (with_reducible refine (fadd_part_lower.calls t109 (IntKind.u64.wrap (t110 + t116)) 1 t117 t118 _ A10.out).mono ?_); rintro e w23 ⟨rfl, hb⟩; refine ⟨_, rfl, ?_⟩; have n0_ := Aside0.mk (blk_below (g := gb111) (o := .cells #[.int .i64 t109, .int .u64 (IntKind.u64.wrap (t110 + t116))] 47 (0, 0)) (by (with_reducible repeat (first | refine blk_drewN ?_ _ | refine blk_drew ?_ | refine blk_alloc ?_ _)); refine blk_put (cs := #[.int .i64 t109, .int .u64 t110]) ?_ 1 _ rfl; (with_reducible repeat (first | refine blk_drewN ?_ _ | refine blk_drew ?_ | refine blk_alloc ?_ _)); refine blk_far ?_ NB111_114.out _; (with_reducible repeat (first | refine blk_drewN ?_ _ | refine blk_drew ?_ | refine blk_alloc ?_ _)); refine blk_far ?_ NB111_114.out _; (with_reducible repeat (first | refine blk_drewN ?_ _ | refine blk_drew ?_ | refine blk_alloc ?_ _)); exact BK111.out) hb); have n1_ := Aside0.mk (blk_below (g := gb114) (o := .cells #[.int .i64 t115, .int .u64 t116] 47 (0, 0)) (by (with_reducible repeat (first | refine blk_drewN ?_ _ | refine blk_drew ?_ | refine blk_alloc ?_ _)); refine blk_far ?_ NB114_111.out _; (with_reducible repeat (first | refine blk_drewN ?_ _ | refine blk_drew ?_ | refine blk_alloc ?_ _)); refine blk_put (cs := #[.int .i64 t115, .int .u64 t113]) ?_ 1 _ rfl; (with_reducible repeat (first | refine blk_drewN ?_ _ | refine blk_drew ?_ | refine blk_alloc ?_ _)); refine blk_put (cs := #[.int .i64 t112, .int .u64 t113]) ?_ 0 _ rfl; (with_reducible repeat (first | refine blk_drewN ?_ _ | refine blk_drew ?_ | refine blk_alloc ?_ _)); exact BK114.out) hb); have n2_ := Aside0.mk (below_step (by repeat (first | (with_reducible first | exact HB.out | apply below_alloc | apply pw_below_drewN | apply below_drew1 | refine below_set ?_ GE111.out | refine below_set ?_ GE114.out) | exact HB.out)) hb); clear BK111; clear BK114; clear HB; have BK111 := n0_; have BK114 := n1_; have HB := n2_; clear n0_ n1_ n2_; (try clear hb); (try clear hb2); (try clear hk); (try clear hi); have hcz24_0 : w23.cell? ⟨gb111, 0, none⟩ = some (.int .i64 t109) := (blk_cell BK111.out 0).trans rfl; have hcz24_1 : w23.cell? ⟨gb111, 1, none⟩ = some (.int .u64 (IntKind.u64.wrap (t110 + t116))) := (blk_cell BK111.out 1).trans rfl; have hfz24_0 := blk_frozen BK111.out 0; have hfz24_1 := blk_frozen BK111.out 1) | ((with_reducible refine gate_callee (f := 56) rfl ?_); refine goesL_ (some 45) rfl rfl Try.func56 (by kernel_rfl) rfl #[.agg #[.int .i64 t117, .int .u64 t118]] rfl (by (try simp only [List.map_toArray, List.map_cons, List.map_nil]); first | done | rfl | (simp only [List.length_drop, List.length_take]; rfl)) ?_; (with_reducible refine (fadd_part_round.calls t117 t118 t119 _ A11.out).mono ?_); rintro e w25 ⟨rfl, hb⟩; refine ⟨_, rfl, ?_⟩; have n0_ := Aside0.mk (blk_below (g := gb111) (o := .cells #[.int .i64 t117, .int .u64 t118] 47 (0, 0)) (by (with_reducible repeat (first | refine blk_drewN ?_ _ | refine blk_drew ?_ | refine blk_alloc ?_ _)); refine blk_put (cs := #[.int .i64 t117, .int .u64 (IntKind.u64.wrap (t110 + t116))]) ?_ 1 _ rfl; (with_reducible repeat (first | refine blk_drewN ?_ _ | refine blk_drew ?_ | refine blk_alloc ?_ _)); refine blk_put (cs := #[.int .i64 t109, .int .u64 (IntKind.u64.wrap (t110 + t116))]) ?_ 0 _ rfl; (with_reducible repeat (first | refine blk_drewN ?_ _ | refine blk_drew ?_ | refine blk_alloc ?_ _)); exact BK111.out) hb); have n1_ := Aside0.mk (blk_below (g := gb114) (o := .cells #[.int .i64 t115, .int .u64 t116] 47 (0, 0)) (by (with_reducible repeat (first | refine blk_drewN ?_ _ | refine blk_drew ?_ | refine blk_alloc ?_ _)); refine blk_far ?_ NB114_111.out _; (with_reducible repeat (first | refine blk_drewN ?_ _ | refine blk_drew ?_ | refine blk_alloc ?_ _)); refine blk_far ?_ NB114_111.out _; (with_reducible repeat (first | refine blk_drewN ?_ _ | refine blk_drew ?_ | refine blk_alloc ?_ _)); exact BK114.out) hb); have n2_ := Aside0.mk (below_step (by repeat (first | (with_reducible first | exact HB.out | apply below_alloc | apply pw_below_drewN | apply below_drew1 | refine below_set ?_ GE111.out | refine below_set ?_ GE114.out) | exact HB.out)) hb); clear BK111; clear BK114; clear HB; have BK111 := n0_; have BK114 := n1_; have HB := n2_; clear n0_ n1_ n2_; (try clear hb); (try clear hb2); (try clear hk); (try clear hi)))
          go_ret
          exact ⟨by first | rfl | (simp [errW_none, errW_some] <;> rfl) | (simp [*, errW_none, errW_some] <;> rfl), by repeat (first | (with_reducible first | exact HB.out | apply below_alloc | apply pw_below_drewN | apply below_drew1 | refine below_set ?_ GE111.out | refine below_set ?_ GE114.out) | exact HB.out)⟩
        · rw [if_neg c9] at H
          have c9b0 : decide (72057594037927936 ≤ (IntKind.u64.wrap (t110 + t116))) = false := decide_eq_false c9
          clear c9
          replace H := Option.bind_eq_some_iff.mp H
          obtain ⟨t120, A260, H⟩ := H
          replace H : (some (Go.bits .or .u64 (Go.bits .and .u64 x0_2 9223372036854775808) t120)) = some r := H
          have A26 := Aside0.mk A260
          clear A260
          obtain rfl := Option.some.inj H
          go_wp2_with (first | ((with_reducible refine gate_callee (f := 54) rfl ?_); refine goesL_ (some 18) rfl rfl Try.func54 (by kernel_rfl) rfl #[.int .u64 x0_2] rfl (by (try simp only [List.map_toArray, List.map_cons, List.map_nil]); first | done | rfl | (simp only [List.length_drop, List.length_take]; rfl)) ?_; (with_reducible refine (fadd_parted.calls x0_2 t109 t110 _ A5.out).mono ?_); rintro e w27 ⟨rfl, hb⟩; refine ⟨_, rfl, ?_⟩; have n0_ := Aside0.mk (below_step (by repeat (first | (with_reducible first | exact HB.out | apply below_alloc | apply pw_below_drewN | apply below_drew1) | exact HB.out)) hb); clear HB; have HB := n0_; clear n0_; (try clear hb); (try clear hb2); (try clear hk); (try clear hi)) | ((with_reducible refine gate_dst (N := 6) rfl ?_); refine box_event ?hg (N := 6) ?hd (cs := #[.int .i64 0, .int .u64 0]) (t := 47) ?hr ?_; (case hd => rfl); (case hg => rfl); (case hr => first | (go_simp; done) | (go_simp; rfl)); intro gb111 hg w28 hbox hb; have n0_ := Aside0.mk (below_step (by repeat (first | (with_reducible first | exact HB.out | apply below_alloc | apply pw_below_drewN | apply below_drew1) | exact HB.out)) hb); have n1_ := Aside0.mk (hbox); have n2_ := Aside0.mk ((by rw [hg]; exact (below_size (by repeat (first | (with_reducible first | exact HB.out | apply below_alloc | apply pw_below_drewN | apply below_drew1) | exact HB.out))) : w.heap.size ≤ gb111)); have n3_ := Aside0.mk ((by rw [hg]; exact (below_size (by repeat (first | (with_reducible first | exact HB.out | apply below_alloc | apply pw_below_drewN | apply below_drew1) | exact HB.out))) : w.heap.size ≤ gb111)); clear HB; have HB := n0_; have BK111 := n1_; have GW111 := n2_; have GE111 := n3_; clear n0_ n1_ n2_ n3_; clear hb hbox hg; have hcz29_0 : w28.cell? ⟨gb111, 0, none⟩ = some (.int .i64 0) := (blk_cell BK111.out 0).trans rfl; have hcz29_1 : w28.cell? ⟨gb111, 1, none⟩ = some (.int .u64 0) := (blk_cell BK111.out 1).trans rfl; have hfz29_0 := blk_frozen BK111.out 0; have hfz29_1 := blk_frozen BK111.out 1) | ((with_reducible refine gate_callee (f := 54) rfl ?_); refine goesL_ (some 20) rfl rfl Try.func54 (by kernel_rfl) rfl #[.int .u64 x1_2] rfl (by (try simp only [List.map_toArray, List.map_cons, List.map_nil]); first | done | rfl | (simp only [List.length_drop, List.length_take]; rfl)) ?_; (with_reducible refine (fadd_parted.calls x1_2 t112 t113 _ A6.out).mono ?_); rintro e w30 ⟨rfl, hb⟩; refine ⟨_, rfl, ?_⟩; have n0_ := Aside0.mk (blk_below (g := gb111) (o := .cells #[.int .i64 t109, .int .u64 t110] 47 (0, 0)) (by (with_reducible repeat (first | refine blk_drewN ?_ _ | refine blk_drew ?_ | refine blk_alloc ?_ _)); refine blk_put (cs := #[.int .i64 t109, .int .u64 0]) ?_ 1 _ rfl; (with_reducible repeat (first | refine blk_drewN ?_ _ | refine blk_drew ?_ | refine blk_alloc ?_ _)); refine blk_put (cs := #[.int .i64 0, .int .u64 0]) ?_ 0 _ rfl; (with_reducible repeat (first | refine blk_drewN ?_ _ | refine blk_drew ?_ | refine blk_alloc ?_ _)); exact BK111.out) hb); have n1_ := Aside0.mk (below_step (by repeat (first | (with_reducible first | exact HB.out | apply below_alloc | apply pw_below_drewN | apply below_drew1 | refine below_set ?_ GE111.out) | exact HB.out)) hb); clear BK111; clear HB; have BK111 := n0_; have HB := n1_; clear n0_ n1_; (try clear hb); (try clear hb2); (try clear hk); (try clear hi)) | ((with_reducible refine gate_dst (N := 7) rfl ?_); refine box_event ?hg (N := 7) ?hd (cs := #[.int .i64 0, .int .u64 0]) (t := 47) ?hr ?_; (case hd => rfl); (case hg => rfl); (case hr => first | (go_simp; done) | (go_simp; rfl)); intro gb114 hg w31 hbox hb; have n0_ := Aside0.mk (blk_below (g := gb111) (o := .cells #[.int .i64 t109, .int .u64 t110] 47 (0, 0)) (by (with_reducible repeat (first | refine blk_drewN ?_ _ | refine blk_drew ?_ | refine blk_alloc ?_ _)); exact BK111.out) hb); have n1_ := Aside0.mk (below_step (by repeat (first | (with_reducible first | exact HB.out | apply below_alloc | apply pw_below_drewN | apply below_drew1 | refine below_set ?_ GE111.out) | exact HB.out)) hb); have n2_ := Aside0.mk (hbox); have n3_ := Aside0.mk ((by rw [hg]; exact (below_size (by repeat (first | (with_reducible first | exact HB.out | apply below_alloc | apply pw_below_drewN | apply below_drew1 | refine below_set ?_ GE111.out) | exact HB.out))) : w.heap.size ≤ gb114)); have n4_ := Aside0.mk ((by rw [hg]; exact (below_size (by repeat (first | (with_reducible first | exact HB.out | apply below_alloc | apply pw_below_drewN | apply below_drew1 | refine below_set ?_ GE111.out) | exact HB.out))) : w.heap.size ≤ gb114)); have n5_ := Aside0.mk ((by rw [hg]; exact Nat.ne_of_lt (blk_lt (g := gb111) (o := .cells #[.int .i64 t109, .int .u64 t110] 47 (0, 0)) (by (with_reducible repeat (first | refine blk_drewN ?_ _ | refine blk_drew ?_ | refine blk_alloc ?_ _)); exact BK111.out)) : gb111 ≠ gb114)); have n6_ := Aside0.mk ((by rw [hg]; exact Nat.ne_of_gt (blk_lt (g := gb111) (o := .cells #[.int .i64 t109, .int .u64 t110] 47 (0, 0)) (by (with_reducible repeat (first | refine blk_drewN ?_ _ | refine blk_drew ?_ | refine blk_alloc ?_ _)); exact BK111.out)) : gb114 ≠ gb111)); clear BK111; clear HB; have BK111 := n0_; have HB := n1_; have BK114 := n2_; have GW114 := n3_; have GE114 := n4_; have NB111_114 := n5_; have NB114_111 := n6_; clear n0_ n1_ n2_ n3_ n4_ n5_ n6_; clear hb hbox hg; have hnb32 := NB114_111.out; have hnc32 := NB111_114.out; have hcz33_0 : w31.cell? ⟨gb114, 0, none⟩ = some (.int .i64 0) := (blk_cell BK114.out 0).trans rfl; have hcz33_1 : w31.cell? ⟨gb114, 1, none⟩ = some (.int .u64 0) := (blk_cell BK114.out 1).trans rfl; have hfz33_0 := blk_frozen BK114.out 0; have hfz33_1 := blk_frozen BK114.out 1; have hcz34_0 : w31.cell? ⟨gb111, 0, none⟩ = some (.int .i64 t109) := (blk_cell BK111.out 0).trans rfl; have hcz34_1 : w31.cell? ⟨gb111, 1, none⟩ = some (.int .u64 t110) := (blk_cell BK111.out 1).trans rfl; have hfz34_0 := blk_frozen BK111.out 0; have hfz34_1 := blk_frozen BK111.out 1) | ((with_reducible refine gate_callee (f := 55) rfl ?_); refine goesL_ (some 27) rfl rfl Try.func55 (by kernel_rfl) rfl #[.agg #[.int .i64 t112, .int .u64 t113], .int .i64 (wrap64 (t109 - t112))] rfl (by (try simp only [List.map_toArray, List.map_cons, List.map_nil]); first | done | rfl | (simp only [List.length_drop, List.length_take]; rfl)) ?_; (with_reducible refine (fadd_part_lower.calls t112 t113 (wrap64 (t109 - t112)) t115 t116 _ A7.out).mono ?_); rintro e w35 ⟨rfl, hb⟩; refine ⟨_, rfl, ?_⟩; have n0_ := Aside0.mk (blk_below (g := gb111) (o := .cells #[.int .i64 t109, .int .u64 t110] 47 (0, 0)) (by (with_reducible repeat (first | refine blk_drewN ?_ _ | refine blk_drew ?_ | refine blk_alloc ?_ _)); refine blk_far ?_ NB111_114.out _; (with_reducible repeat (first | refine blk_drewN ?_ _ | refine blk_drew ?_ | refine blk_alloc ?_ _)); refine blk_far ?_ NB111_114.out _; (with_reducible repeat (first | refine blk_drewN ?_ _ | refine blk_drew ?_ | refine blk_alloc ?_ _)); exact BK111.out) hb); have n1_ := Aside0.mk (blk_below (g := gb114) (o := .cells #[.int .i64 t112, .int .u64 t113] 47 (0, 0)) (by (with_reducible repeat (first | refine blk_drewN ?_ _ | refine blk_drew ?_ | refine blk_alloc ?_ _)); refine blk_put (cs := #[.int .i64 t112, .int .u64 0]) ?_ 1 _ rfl; (with_reducible repeat (first | refine blk_drewN ?_ _ | refine blk_drew ?_ | refine blk_alloc ?_ _)); refine blk_put (cs := #[.int .i64 0, .int .u64 0]) ?_ 0 _ rfl; (with_reducible repeat (first | refine blk_drewN ?_ _ | refine blk_drew ?_ | refine blk_alloc ?_ _)); exact BK114.out) hb); have n2_ := Aside0.mk (below_step (by repeat (first | (with_reducible first | exact HB.out | apply below_alloc | apply pw_below_drewN | apply below_drew1 | refine below_set ?_ GE111.out | refine below_set ?_ GE114.out) | exact HB.out)) hb); clear BK111; clear BK114; clear HB; have BK111 := n0_; have BK114 := n1_; have HB := n2_; clear n0_ n1_ n2_; (try clear hb); (try clear hb2); (try clear hk); (try clear hi); have hcz36_0 : w35.cell? ⟨gb114, 0, none⟩ = some (.int .i64 t112) := (blk_cell BK114.out 0).trans rfl; have hcz36_1 : w35.cell? ⟨gb114, 1, none⟩ = some (.int .u64 t113) := (blk_cell BK114.out 1).trans rfl; have hfz36_0 := blk_frozen BK114.out 0; have hfz36_1 := blk_frozen BK114.out 1; have hcz37_0 : w35.cell? ⟨gb111, 0, none⟩ = some (.int .i64 t109) := (blk_cell BK111.out 0).trans rfl; have hcz37_1 : w35.cell? ⟨gb111, 1, none⟩ = some (.int .u64 t110) := (blk_cell BK111.out 1).trans rfl; have hfz37_0 := blk_frozen BK111.out 0; have hfz37_1 := blk_frozen BK111.out 1) | ((with_reducible refine gate_callee (f := 56) rfl ?_); refine goesL_ (some 45) rfl rfl Try.func56 (by kernel_rfl) rfl #[.agg #[.int .i64 t109, .int .u64 (IntKind.u64.wrap (t110 + t116))]] rfl (by (try simp only [List.map_toArray, List.map_cons, List.map_nil]); first | done | rfl | (simp only [List.length_drop, List.length_take]; rfl)) ?_; (with_reducible refine (fadd_part_round.calls t109 (IntKind.u64.wrap (t110 + t116)) t120 _ A26.out).mono ?_); rintro e w38 ⟨rfl, hb⟩; refine ⟨_, rfl, ?_⟩; have n0_ := Aside0.mk (blk_below (g := gb111) (o := .cells #[.int .i64 t109, .int .u64 (IntKind.u64.wrap (t110 + t116))] 47 (0, 0)) (by (with_reducible repeat (first | refine blk_drewN ?_ _ | refine blk_drew ?_ | refine blk_alloc ?_ _)); refine blk_put (cs := #[.int .i64 t109, .int .u64 t110]) ?_ 1 _ rfl; (with_reducible repeat (first | refine blk_drewN ?_ _ | refine blk_drew ?_ | refine blk_alloc ?_ _)); refine blk_far ?_ NB111_114.out _; (with_reducible repeat (first | refine blk_drewN ?_ _ | refine blk_drew ?_ | refine blk_alloc ?_ _)); refine blk_far ?_ NB111_114.out _; (with_reducible repeat (first | refine blk_drewN ?_ _ | refine blk_drew ?_ | refine blk_alloc ?_ _)); exact BK111.out) hb); have n1_ := Aside0.mk (blk_below (g := gb114) (o := .cells #[.int .i64 t115, .int .u64 t116] 47 (0, 0)) (by (with_reducible repeat (first | refine blk_drewN ?_ _ | refine blk_drew ?_ | refine blk_alloc ?_ _)); refine blk_far ?_ NB114_111.out _; (with_reducible repeat (first | refine blk_drewN ?_ _ | refine blk_drew ?_ | refine blk_alloc ?_ _)); refine blk_put (cs := #[.int .i64 t115, .int .u64 t113]) ?_ 1 _ rfl; (with_reducible repeat (first | refine blk_drewN ?_ _ | refine blk_drew ?_ | refine blk_alloc ?_ _)); refine blk_put (cs := #[.int .i64 t112, .int .u64 t113]) ?_ 0 _ rfl; (with_reducible repeat (first | refine blk_drewN ?_ _ | refine blk_drew ?_ | refine blk_alloc ?_ _)); exact BK114.out) hb); have n2_ := Aside0.mk (below_step (by repeat (first | (with_reducible first | exact HB.out | apply below_alloc | apply pw_below_drewN | apply below_drew1 | refine below_set ?_ GE111.out | refine below_set ?_ GE114.out) | exact HB.out)) hb); clear BK111; clear BK114; clear HB; have BK111 := n0_; have BK114 := n1_; have HB := n2_; clear n0_ n1_ n2_; (try clear hb); (try clear hb2); (try clear hk); (try clear hi)))
          go_ret
          exact ⟨by first | rfl | (simp [errW_none, errW_some] <;> rfl) | (simp [*, errW_none, errW_some] <;> rfl), by repeat (first | (with_reducible first | exact HB.out | apply below_alloc | apply pw_below_drewN | apply below_drew1 | refine below_set ?_ GE111.out | refine below_set ?_ GE114.out) | exact HB.out)⟩
      · rw [if_neg c8] at H
        have c8b0 : ((Go.bits .and .u64 x0_2 9223372036854775808) == (Go.bits .and .u64 x1_2 9223372036854775808)) = false := beq_eq_false_iff_ne.mpr c8
        have c8b1 : ((Go.bits .and .u64 x0_2 9223372036854775808) != (Go.bits .and .u64 x1_2 9223372036854775808)) = true := bne_iff_ne.mpr c8
        by_cases c39 : (IntKind.u64.wrap (t110 - t116)) = 0
        · rw [if_pos c39] at H
          have c39b0 : ((IntKind.u64.wrap (t110 - t116)) == 0) = true := beq_iff_eq.mpr c39
          have c39b1 : ((IntKind.u64.wrap (t110 - t116)) != 0) = false := bne_eq_false_iff_eq.mpr c39
          clear c39
          obtain rfl := Option.some.inj H
          go_wp2_with (first | ((with_reducible refine gate_callee (f := 54) rfl ?_); refine goesL_ (some 18) rfl rfl Try.func54 (by kernel_rfl) rfl #[.int .u64 x0_2] rfl (by (try simp only [List.map_toArray, List.map_cons, List.map_nil]); first | done | rfl | (simp only [List.length_drop, List.length_take]; rfl)) ?_; (with_reducible refine (fadd_parted.calls x0_2 t109 t110 _ A5.out).mono ?_); rintro e w40 ⟨rfl, hb⟩; refine ⟨_, rfl, ?_⟩; have n0_ := Aside0.mk (below_step (by repeat (first | (with_reducible first | exact HB.out | apply below_alloc | apply pw_below_drewN | apply below_drew1) | exact HB.out)) hb); clear HB; have HB := n0_; clear n0_; (try clear hb); (try clear hb2); (try clear hk); (try clear hi)) | ((with_reducible refine gate_dst (N := 6) rfl ?_); refine box_event ?hg (N := 6) ?hd (cs := #[.int .i64 0, .int .u64 0]) (t := 47) ?hr ?_; (case hd => rfl); (case hg => rfl); (case hr => first | (go_simp; done) | (go_simp; rfl)); intro gb111 hg w41 hbox hb; have n0_ := Aside0.mk (below_step (by repeat (first | (with_reducible first | exact HB.out | apply below_alloc | apply pw_below_drewN | apply below_drew1) | exact HB.out)) hb); have n1_ := Aside0.mk (hbox); have n2_ := Aside0.mk ((by rw [hg]; exact (below_size (by repeat (first | (with_reducible first | exact HB.out | apply below_alloc | apply pw_below_drewN | apply below_drew1) | exact HB.out))) : w.heap.size ≤ gb111)); have n3_ := Aside0.mk ((by rw [hg]; exact (below_size (by repeat (first | (with_reducible first | exact HB.out | apply below_alloc | apply pw_below_drewN | apply below_drew1) | exact HB.out))) : w.heap.size ≤ gb111)); clear HB; have HB := n0_; have BK111 := n1_; have GW111 := n2_; have GE111 := n3_; clear n0_ n1_ n2_ n3_; clear hb hbox hg; have hcz42_0 : w41.cell? ⟨gb111, 0, none⟩ = some (.int .i64 0) := (blk_cell BK111.out 0).trans rfl; have hcz42_1 : w41.cell? ⟨gb111, 1, none⟩ = some (.int .u64 0) := (blk_cell BK111.out 1).trans rfl; have hfz42_0 := blk_frozen BK111.out 0; have hfz42_1 := blk_frozen BK111.out 1) | ((with_reducible refine gate_callee (f := 54) rfl ?_); refine goesL_ (some 20) rfl rfl Try.func54 (by kernel_rfl) rfl #[.int .u64 x1_2] rfl (by (try simp only [List.map_toArray, List.map_cons, List.map_nil]); first | done | rfl | (simp only [List.length_drop, List.length_take]; rfl)) ?_; (with_reducible refine (fadd_parted.calls x1_2 t112 t113 _ A6.out).mono ?_); rintro e w43 ⟨rfl, hb⟩; refine ⟨_, rfl, ?_⟩; have n0_ := Aside0.mk (blk_below (g := gb111) (o := .cells #[.int .i64 t109, .int .u64 t110] 47 (0, 0)) (by (with_reducible repeat (first | refine blk_drewN ?_ _ | refine blk_drew ?_ | refine blk_alloc ?_ _)); refine blk_put (cs := #[.int .i64 t109, .int .u64 0]) ?_ 1 _ rfl; (with_reducible repeat (first | refine blk_drewN ?_ _ | refine blk_drew ?_ | refine blk_alloc ?_ _)); refine blk_put (cs := #[.int .i64 0, .int .u64 0]) ?_ 0 _ rfl; (with_reducible repeat (first | refine blk_drewN ?_ _ | refine blk_drew ?_ | refine blk_alloc ?_ _)); exact BK111.out) hb); have n1_ := Aside0.mk (below_step (by repeat (first | (with_reducible first | exact HB.out | apply below_alloc | apply pw_below_drewN | apply below_drew1 | refine below_set ?_ GE111.out) | exact HB.out)) hb); clear BK111; clear HB; have BK111 := n0_; have HB := n1_; clear n0_ n1_; (try clear hb); (try clear hb2); (try clear hk); (try clear hi)) | ((with_reducible refine gate_dst (N := 7) rfl ?_); refine box_event ?hg (N := 7) ?hd (cs := #[.int .i64 0, .int .u64 0]) (t := 47) ?hr ?_; (case hd => rfl); (case hg => rfl); (case hr => first | (go_simp; done) | (go_simp; rfl)); intro gb114 hg w44 hbox hb; have n0_ := Aside0.mk (blk_below (g := gb111) (o := .cells #[.int .i64 t109, .int .u64 t110] 47 (0, 0)) (by (with_reducible repeat (first | refine blk_drewN ?_ _ | refine blk_drew ?_ | refine blk_alloc ?_ _)); exact BK111.out) hb); have n1_ := Aside0.mk (below_step (by repeat (first | (with_reducible first | exact HB.out | apply below_alloc | apply pw_below_drewN | apply below_drew1 | refine below_set ?_ GE111.out) | exact HB.out)) hb); have n2_ := Aside0.mk (hbox); have n3_ := Aside0.mk ((by rw [hg]; exact (below_size (by repeat (first | (with_reducible first | exact HB.out | apply below_alloc | apply pw_below_drewN | apply below_drew1 | refine below_set ?_ GE111.out) | exact HB.out))) : w.heap.size ≤ gb114)); have n4_ := Aside0.mk ((by rw [hg]; exact (below_size (by repeat (first | (with_reducible first | exact HB.out | apply below_alloc | apply pw_below_drewN | apply below_drew1 | refine below_set ?_ GE111.out) | exact HB.out))) : w.heap.size ≤ gb114)); have n5_ := Aside0.mk ((by rw [hg]; exact Nat.ne_of_lt (blk_lt (g := gb111) (o := .cells #[.int .i64 t109, .int .u64 t110] 47 (0, 0)) (by (with_reducible repeat (first | refine blk_drewN ?_ _ | refine blk_drew ?_ | refine blk_alloc ?_ _)); exact BK111.out)) : gb111 ≠ gb114)); have n6_ := Aside0.mk ((by rw [hg]; exact Nat.ne_of_gt (blk_lt (g := gb111) (o := .cells #[.int .i64 t109, .int .u64 t110] 47 (0, 0)) (by (with_reducible repeat (first | refine blk_drewN ?_ _ | refine blk_drew ?_ | refine blk_alloc ?_ _)); exact BK111.out)) : gb114 ≠ gb111)); clear BK111; clear HB; have BK111 := n0_; have HB := n1_; have BK114 := n2_; have GW114 := n3_; have GE114 := n4_; have NB111_114 := n5_; have NB114_111 := n6_; clear n0_ n1_ n2_ n3_ n4_ n5_ n6_; clear hb hbox hg; have hnb45 := NB114_111.out; have hnc45 := NB111_114.out; have hcz46_0 : w44.cell? ⟨gb114, 0, none⟩ = some (.int .i64 0) := (blk_cell BK114.out 0).trans rfl; have hcz46_1 : w44.cell? ⟨gb114, 1, none⟩ = some (.int .u64 0) := (blk_cell BK114.out 1).trans rfl; have hfz46_0 := blk_frozen BK114.out 0; have hfz46_1 := blk_frozen BK114.out 1; have hcz47_0 : w44.cell? ⟨gb111, 0, none⟩ = some (.int .i64 t109) := (blk_cell BK111.out 0).trans rfl; have hcz47_1 : w44.cell? ⟨gb111, 1, none⟩ = some (.int .u64 t110) := (blk_cell BK111.out 1).trans rfl; have hfz47_0 := blk_frozen BK111.out 0; have hfz47_1 := blk_frozen BK111.out 1) | ((with_reducible refine gate_callee (f := 55) rfl ?_); refine goesL_ (some 27) rfl rfl Try.func55 (by kernel_rfl) rfl #[.agg #[.int .i64 t112, .int .u64 t113], .int .i64 (wrap64 (t109 - t112))] rfl (by (try simp only [List.map_toArray, List.map_cons, List.map_nil]); first | done | rfl | (simp only [List.length_drop, List.length_take]; rfl)) ?_; (with_reducible refine (fadd_part_lower.calls t112 t113 (wrap64 (t109 - t112)) t115 t116 _ A7.out).mono ?_); rintro e w48 ⟨rfl, hb⟩; refine ⟨_, rfl, ?_⟩; have n0_ := Aside0.mk (blk_below (g := gb111) (o := .cells #[.int .i64 t109, .int .u64 t110] 47 (0, 0)) (by (with_reducible repeat (first | refine blk_drewN ?_ _ | refine blk_drew ?_ | refine blk_alloc ?_ _)); refine blk_far ?_ NB111_114.out _; (with_reducible repeat (first | refine blk_drewN ?_ _ | refine blk_drew ?_ | refine blk_alloc ?_ _)); refine blk_far ?_ NB111_114.out _; (with_reducible repeat (first | refine blk_drewN ?_ _ | refine blk_drew ?_ | refine blk_alloc ?_ _)); exact BK111.out) hb); have n1_ := Aside0.mk (blk_below (g := gb114) (o := .cells #[.int .i64 t112, .int .u64 t113] 47 (0, 0)) (by (with_reducible repeat (first | refine blk_drewN ?_ _ | refine blk_drew ?_ | refine blk_alloc ?_ _)); refine blk_put (cs := #[.int .i64 t112, .int .u64 0]) ?_ 1 _ rfl; (with_reducible repeat (first | refine blk_drewN ?_ _ | refine blk_drew ?_ | refine blk_alloc ?_ _)); refine blk_put (cs := #[.int .i64 0, .int .u64 0]) ?_ 0 _ rfl; (with_reducible repeat (first | refine blk_drewN ?_ _ | refine blk_drew ?_ | refine blk_alloc ?_ _)); exact BK114.out) hb); have n2_ := Aside0.mk (below_step (by repeat (first | (with_reducible first | exact HB.out | apply below_alloc | apply pw_below_drewN | apply below_drew1 | refine below_set ?_ GE111.out | refine below_set ?_ GE114.out) | exact HB.out)) hb); clear BK111; clear BK114; clear HB; have BK111 := n0_; have BK114 := n1_; have HB := n2_; clear n0_ n1_ n2_; (try clear hb); (try clear hb2); (try clear hk); (try clear hi); have hcz49_0 : w48.cell? ⟨gb114, 0, none⟩ = some (.int .i64 t112) := (blk_cell BK114.out 0).trans rfl; have hcz49_1 : w48.cell? ⟨gb114, 1, none⟩ = some (.int .u64 t113) := (blk_cell BK114.out 1).trans rfl; have hfz49_0 := blk_frozen BK114.out 0; have hfz49_1 := blk_frozen BK114.out 1; have hcz50_0 : w48.cell? ⟨gb111, 0, none⟩ = some (.int .i64 t109) := (blk_cell BK111.out 0).trans rfl; have hcz50_1 : w48.cell? ⟨gb111, 1, none⟩ = some (.int .u64 t110) := (blk_cell BK111.out 1).trans rfl; have hfz50_0 := blk_frozen BK111.out 0; have hfz50_1 := blk_frozen BK111.out 1))
          go_ret
          exact ⟨by first | rfl | (simp [errW_none, errW_some] <;> rfl) | (simp [*, errW_none, errW_some] <;> rfl), by repeat (first | (with_reducible first | exact HB.out | apply below_alloc | apply pw_below_drewN | apply below_drew1 | refine below_set ?_ GE111.out | refine below_set ?_ GE114.out) | exact HB.out)⟩
        · rw [if_neg c39] at H
          have c39b0 : ((IntKind.u64.wrap (t110 - t116)) == 0) = false := beq_eq_false_iff_ne.mpr c39
          have c39b1 : ((IntKind.u64.wrap (t110 - t116)) != 0) = true := bne_iff_ne.mpr c39
          replace H := Option.bind_eq_some_iff.mp H
          obtain ⟨⟨t121, t122⟩, A510, H⟩ := H
          replace H : ((fadd_part_round.f t121 t122).bind fun t123 => (some (Go.bits .or .u64 (Go.bits .and .u64 x0_2 9223372036854775808) t123))) = some r := H
          have A51 := Aside0.mk A510
          clear A510
          replace H := Option.bind_eq_some_iff.mp H
          obtain ⟨t123, A520, H⟩ := H
          replace H : (some (Go.bits .or .u64 (Go.bits .and .u64 x0_2 9223372036854775808) t123)) = some r := H
          have A52 := Aside0.mk A520
          clear A520
          obtain rfl := Option.some.inj H
          go_wp2_with (first | ((with_reducible refine gate_callee (f := 54) rfl ?_); refine goesL_ (some 18) rfl rfl Try.func54 (by kernel_rfl) rfl #[.int .u64 x0_2] rfl (by (try simp only [List.map_toArray, List.map_cons, List.map_nil]); first | done | rfl | (simp only [List.length_drop, List.length_take]; rfl)) ?_; (with_reducible refine (fadd_parted.calls x0_2 t109 t110 _ A5.out).mono ?_); rintro e w53 ⟨rfl, hb⟩; refine ⟨_, rfl, ?_⟩; have n0_ := Aside0.mk (below_step (by repeat (first | (with_reducible first | exact HB.out | apply below_alloc | apply pw_below_drewN | apply below_drew1) | exact HB.out)) hb); clear HB; have HB := n0_; clear n0_; (try clear hb); (try clear hb2); (try clear hk); (try clear hi)) | ((with_reducible refine gate_dst (N := 6) rfl ?_); refine box_event ?hg (N := 6) ?hd (cs := #[.int .i64 0, .int .u64 0]) (t := 47) ?hr ?_; (case hd => rfl); (case hg => rfl); (case hr => first | (go_simp; done) | (go_simp; rfl)); intro gb111 hg w54 hbox hb; have n0_ := Aside0.mk (below_step (by repeat (first | (with_reducible first | exact HB.out | apply below_alloc | apply pw_below_drewN | apply below_drew1) | exact HB.out)) hb); have n1_ := Aside0.mk (hbox); have n2_ := Aside0.mk ((by rw [hg]; exact (below_size (by repeat (first | (with_reducible first | exact HB.out | apply below_alloc | apply pw_below_drewN | apply below_drew1) | exact HB.out))) : w.heap.size ≤ gb111)); have n3_ := Aside0.mk ((by rw [hg]; exact (below_size (by repeat (first | (with_reducible first | exact HB.out | apply below_alloc | apply pw_below_drewN | apply below_drew1) | exact HB.out))) : w.heap.size ≤ gb111)); clear HB; have HB := n0_; have BK111 := n1_; have GW111 := n2_; have GE111 := n3_; clear n0_ n1_ n2_ n3_; clear hb hbox hg; have hcz55_0 : w54.cell? ⟨gb111, 0, none⟩ = some (.int .i64 0) := (blk_cell BK111.out 0).trans rfl; have hcz55_1 : w54.cell? ⟨gb111, 1, none⟩ = some (.int .u64 0) := (blk_cell BK111.out 1).trans rfl; have hfz55_0 := blk_frozen BK111.out 0; have hfz55_1 := blk_frozen BK111.out 1) | ((with_reducible refine gate_callee (f := 54) rfl ?_); refine goesL_ (some 20) rfl rfl Try.func54 (by kernel_rfl) rfl #[.int .u64 x1_2] rfl (by (try simp only [List.map_toArray, List.map_cons, List.map_nil]); first | done | rfl | (simp only [List.length_drop, List.length_take]; rfl)) ?_; (with_reducible refine (fadd_parted.calls x1_2 t112 t113 _ A6.out).mono ?_); rintro e w56 ⟨rfl, hb⟩; refine ⟨_, rfl, ?_⟩; have n0_ := Aside0.mk (blk_below (g := gb111) (o := .cells #[.int .i64 t109, .int .u64 t110] 47 (0, 0)) (by (with_reducible repeat (first | refine blk_drewN ?_ _ | refine blk_drew ?_ | refine blk_alloc ?_ _)); refine blk_put (cs := #[.int .i64 t109, .int .u64 0]) ?_ 1 _ rfl; (with_reducible repeat (first | refine blk_drewN ?_ _ | refine blk_drew ?_ | refine blk_alloc ?_ _)); refine blk_put (cs := #[.int .i64 0, .int .u64 0]) ?_ 0 _ rfl; (with_reducible repeat (first | refine blk_drewN ?_ _ | refine blk_drew ?_ | refine blk_alloc ?_ _)); exact BK111.out) hb); have n1_ := Aside0.mk (below_step (by repeat (first | (with_reducible first | exact HB.out | apply below_alloc | apply pw_below_drewN | apply below_drew1 | refine below_set ?_ GE111.out) | exact HB.out)) hb); clear BK111; clear HB; have BK111 := n0_; have HB := n1_; clear n0_ n1_; (try clear hb); (try clear hb2); (try clear hk); (try clear hi)) | ((with_reducible refine gate_dst (N := 7) rfl ?_); refine box_event ?hg (N := 7) ?hd (cs := #[.int .i64 0, .int .u64 0]) (t := 47) ?hr ?_; (case hd => rfl); (case hg => rfl); (case hr => first | (go_simp; done) | (go_simp; rfl)); intro gb114 hg w57 hbox hb; have n0_ := Aside0.mk (blk_below (g := gb111) (o := .cells #[.int .i64 t109, .int .u64 t110] 47 (0, 0)) (by (with_reducible repeat (first | refine blk_drewN ?_ _ | refine blk_drew ?_ | refine blk_alloc ?_ _)); exact BK111.out) hb); have n1_ := Aside0.mk (below_step (by repeat (first | (with_reducible first | exact HB.out | apply below_alloc | apply pw_below_drewN | apply below_drew1 | refine below_set ?_ GE111.out) | exact HB.out)) hb); have n2_ := Aside0.mk (hbox); have n3_ := Aside0.mk ((by rw [hg]; exact (below_size (by repeat (first | (with_reducible first | exact HB.out | apply below_alloc | apply pw_below_drewN | apply below_drew1 | refine below_set ?_ GE111.out) | exact HB.out))) : w.heap.size ≤ gb114)); have n4_ := Aside0.mk ((by rw [hg]; exact (below_size (by repeat (first | (with_reducible first | exact HB.out | apply below_alloc | apply pw_below_drewN | apply below_drew1 | refine below_set ?_ GE111.out) | exact HB.out))) : w.heap.size ≤ gb114)); have n5_ := Aside0.mk ((by rw [hg]; exact Nat.ne_of_lt (blk_lt (g := gb111) (o := .cells #[.int .i64 t109, .int .u64 t110] 47 (0, 0)) (by (with_reducible repeat (first | refine blk_drewN ?_ _ | refine blk_drew ?_ | refine blk_alloc ?_ _)); exact BK111.out)) : gb111 ≠ gb114)); have n6_ := Aside0.mk ((by rw [hg]; exact Nat.ne_of_gt (blk_lt (g := gb111) (o := .cells #[.int .i64 t109, .int .u64 t110] 47 (0, 0)) (by (with_reducible repeat (first | refine blk_drewN ?_ _ | refine blk_drew ?_ | refine blk_alloc ?_ _)); exact BK111.out)) : gb114 ≠ gb111)); clear BK111; clear HB; have BK111 := n0_; have HB := n1_; have BK114 := n2_; have GW114 := n3_; have GE114 := n4_; have NB111_114 := n5_; have NB114_111 := n6_; clear n0_ n1_ n2_ n3_ n4_ n5_ n6_; clear hb hbox hg; have hnb58 := NB114_111.out; have hnc58 := NB111_114.out; have hcz59_0 : w57.cell? ⟨gb114, 0, none⟩ = some (.int .i64 0) := (blk_cell BK114.out 0).trans rfl; have hcz59_1 : w57.cell? ⟨gb114, 1, none⟩ = some (.int .u64 0) := (blk_cell BK114.out 1).trans rfl; have hfz59_0 := blk_frozen BK114.out 0; have hfz59_1 := blk_frozen BK114.out 1; have hcz60_0 : w57.cell? ⟨gb111, 0, none⟩ = some (.int .i64 t109) := (blk_cell BK111.out 0).trans rfl; have hcz60_1 : w57.cell? ⟨gb111, 1, none⟩ = some (.int .u64 t110) := (blk_cell BK111.out 1).trans rfl; have hfz60_0 := blk_frozen BK111.out 0; have hfz60_1 := blk_frozen BK111.out 1) | ((with_reducible refine gate_callee (f := 55) rfl ?_); refine goesL_ (some 27) rfl rfl Try.func55 (by kernel_rfl) rfl #[.agg #[.int .i64 t112, .int .u64 t113], .int .i64 (wrap64 (t109 - t112))] rfl (by (try simp only [List.map_toArray, List.map_cons, List.map_nil]); first | done | rfl | (simp only [List.length_drop, List.length_take]; rfl)) ?_; (with_reducible refine (fadd_part_lower.calls t112 t113 (wrap64 (t109 - t112)) t115 t116 _ A7.out).mono ?_); rintro e w61 ⟨rfl, hb⟩; refine ⟨_, rfl, ?_⟩; have n0_ := Aside0.mk (blk_below (g := gb111) (o := .cells #[.int .i64 t109, .int .u64 t110] 47 (0, 0)) (by (with_reducible repeat (first | refine blk_drewN ?_ _ | refine blk_drew ?_ | refine blk_alloc ?_ _)); refine blk_far ?_ NB111_114.out _; (with_reducible repeat (first | refine blk_drewN ?_ _ | refine blk_drew ?_ | refine blk_alloc ?_ _)); refine blk_far ?_ NB111_114.out _; (with_reducible repeat (first | refine blk_drewN ?_ _ | refine blk_drew ?_ | refine blk_alloc ?_ _)); exact BK111.out) hb); have n1_ := Aside0.mk (blk_below (g := gb114) (o := .cells #[.int .i64 t112, .int .u64 t113] 47 (0, 0)) (by (with_reducible repeat (first | refine blk_drewN ?_ _ | refine blk_drew ?_ | refine blk_alloc ?_ _)); refine blk_put (cs := #[.int .i64 t112, .int .u64 0]) ?_ 1 _ rfl; (with_reducible repeat (first | refine blk_drewN ?_ _ | refine blk_drew ?_ | refine blk_alloc ?_ _)); refine blk_put (cs := #[.int .i64 0, .int .u64 0]) ?_ 0 _ rfl; (with_reducible repeat (first | refine blk_drewN ?_ _ | refine blk_drew ?_ | refine blk_alloc ?_ _)); exact BK114.out) hb); have n2_ := Aside0.mk (below_step (by repeat (first | (with_reducible first | exact HB.out | apply below_alloc | apply pw_below_drewN | apply below_drew1 | refine below_set ?_ GE111.out | refine below_set ?_ GE114.out) | exact HB.out)) hb); clear BK111; clear BK114; clear HB; have BK111 := n0_; have BK114 := n1_; have HB := n2_; clear n0_ n1_ n2_; (try clear hb); (try clear hb2); (try clear hk); (try clear hi); have hcz62_0 : w61.cell? ⟨gb114, 0, none⟩ = some (.int .i64 t112) := (blk_cell BK114.out 0).trans rfl; have hcz62_1 : w61.cell? ⟨gb114, 1, none⟩ = some (.int .u64 t113) := (blk_cell BK114.out 1).trans rfl; have hfz62_0 := blk_frozen BK114.out 0; have hfz62_1 := blk_frozen BK114.out 1; have hcz63_0 : w61.cell? ⟨gb111, 0, none⟩ = some (.int .i64 t109) := (blk_cell BK111.out 0).trans rfl; have hcz63_1 : w61.cell? ⟨gb111, 1, none⟩ = some (.int .u64 t110) := (blk_cell BK111.out 1).trans rfl; have hfz63_0 := blk_frozen BK111.out 0; have hfz63_1 := blk_frozen BK111.out 1) | ((with_reducible refine gate_callee (f := 57) rfl ?_); refine goesL_ (some 58) rfl rfl Try.func57 (by kernel_rfl) rfl #[.agg #[.int .i64 t109, .int .u64 (IntKind.u64.wrap (t110 - t116))]] rfl (by (try simp only [List.map_toArray, List.map_cons, List.map_nil]); first | done | rfl | (simp only [List.length_drop, List.length_take]; rfl)) ?_; (with_reducible refine (fadd_part_raise.calls kj2 t109 (IntKind.u64.wrap (t110 - t116)) t121 t122 _ A51.out).mono ?_); rintro e w64 ⟨rfl, hb⟩; refine ⟨_, rfl, ?_⟩; have n0_ := Aside0.mk (blk_below (g := gb111) (o := .cells #[.int .i64 t109, .int .u64 (IntKind.u64.wrap (t110 - t116))] 47 (0, 0)) (by (with_reducible repeat (first | refine blk_drewN ?_ _ | refine blk_drew ?_ | refine blk_alloc ?_ _)); refine blk_put (cs := #[.int .i64 t109, .int .u64 t110]) ?_ 1 _ rfl; (with_reducible repeat (first | refine blk_drewN ?_ _ | refine blk_drew ?_ | refine blk_alloc ?_ _)); refine blk_far ?_ NB111_114.out _; (with_reducible repeat (first | refine blk_drewN ?_ _ | refine blk_drew ?_ | refine blk_alloc ?_ _)); refine blk_far ?_ NB111_114.out _; (with_reducible repeat (first | refine blk_drewN ?_ _ | refine blk_drew ?_ | refine blk_alloc ?_ _)); exact BK111.out) hb); have n1_ := Aside0.mk (blk_below (g := gb114) (o := .cells #[.int .i64 t115, .int .u64 t116] 47 (0, 0)) (by (with_reducible repeat (first | refine blk_drewN ?_ _ | refine blk_drew ?_ | refine blk_alloc ?_ _)); refine blk_far ?_ NB114_111.out _; (with_reducible repeat (first | refine blk_drewN ?_ _ | refine blk_drew ?_ | refine blk_alloc ?_ _)); refine blk_put (cs := #[.int .i64 t115, .int .u64 t113]) ?_ 1 _ rfl; (with_reducible repeat (first | refine blk_drewN ?_ _ | refine blk_drew ?_ | refine blk_alloc ?_ _)); refine blk_put (cs := #[.int .i64 t112, .int .u64 t113]) ?_ 0 _ rfl; (with_reducible repeat (first | refine blk_drewN ?_ _ | refine blk_drew ?_ | refine blk_alloc ?_ _)); exact BK114.out) hb); have n2_ := Aside0.mk (below_step (by repeat (first | (with_reducible first | exact HB.out | apply below_alloc | apply pw_below_drewN | apply below_drew1 | refine below_set ?_ GE111.out | refine below_set ?_ GE114.out) | exact HB.out)) hb); clear BK111; clear BK114; clear HB; have BK111 := n0_; have BK114 := n1_; have HB := n2_; clear n0_ n1_ n2_; (try clear hb); (try clear hb2); (try clear hk); (try clear hi)) | ((with_reducible refine gate_callee (f := 56) rfl ?_); refine goesL_ (some 59) rfl rfl Try.func56 (by kernel_rfl) rfl #[.agg #[.int .i64 t121, .int .u64 t122]] rfl (by (try simp only [List.map_toArray, List.map_cons, List.map_nil]); first | done | rfl | (simp only [List.length_drop, List.length_take]; rfl)) ?_; (with_reducible refine (fadd_part_round.calls t121 t122 t123 _ A52.out).mono ?_); rintro e w65 ⟨rfl, hb⟩; refine ⟨_, rfl, ?_⟩; have n0_ := Aside0.mk (blk_below (g := gb111) (o := .cells #[.int .i64 t109, .int .u64 (IntKind.u64.wrap (t110 - t116))] 47 (0, 0)) (by (with_reducible repeat (first | refine blk_drewN ?_ _ | refine blk_drew ?_ | refine blk_alloc ?_ _)); exact BK111.out) hb); have n1_ := Aside0.mk (blk_below (g := gb114) (o := .cells #[.int .i64 t115, .int .u64 t116] 47 (0, 0)) (by (with_reducible repeat (first | refine blk_drewN ?_ _ | refine blk_drew ?_ | refine blk_alloc ?_ _)); exact BK114.out) hb); have n2_ := Aside0.mk (below_step (by repeat (first | (with_reducible first | exact HB.out | apply below_alloc | apply pw_below_drewN | apply below_drew1 | refine below_set ?_ GE111.out | refine below_set ?_ GE114.out) | exact HB.out)) hb); clear BK111; clear BK114; clear HB; have BK111 := n0_; have BK114 := n1_; have HB := n2_; clear n0_ n1_ n2_; (try clear hb); (try clear hb2); (try clear hk); (try clear hi)))
          go_ret
          exact ⟨by first | rfl | (simp [errW_none, errW_some] <;> rfl) | (simp [*, errW_none, errW_some] <;> rfl), by repeat (first | (with_reducible first | exact HB.out | apply below_alloc | apply pw_below_drewN | apply below_drew1 | refine below_set ?_ GE111.out | refine below_set ?_ GE114.out) | exact HB.out)⟩

/-! ### fadd_Add: function 27 -/
mutual
def fadd_Add.j1 : Nat → Int → Int → Int → Option (Int)
  | 0, _, _, _ => none
  | k + 1, x0, x1, x5 => if x5 = 4 then ((fadd_Quiet.f x0).bind fun t127 => (some t127)) else (if x5 = 3 then (some x0) else ((fadd_finite.f k x0 x1).bind fun t128 => (some t128)))
def fadd_Add.j0 : Nat → Int → Int → Int → Option (Int)
  | 0, _, _, _ => none
  | k + 1, x0, x1, x5 => if x5 < 3 then (some x1) else (if x5 = 3 then (if x0 = x1 then (fadd_Add.j1 k x0 x1 x5) else (some 9221120237041090560)) else (fadd_Add.j1 k x0 x1 x5))
end
def fadd_Add.f (k : Nat) (a0 : Int) (a1 : Int) : Option (Int) := (flt_Class.f a0).bind fun t124 => ((flt_Class.f a1).bind fun t125 => (if t125 = 4 then (if t124 < 4 then ((fadd_Quiet.f a1).bind fun t126 => (some t126)) else (fadd_Add.j0 k a0 a1 t124)) else (if t125 = 3 then (fadd_Add.j0 k a0 a1 t124) else (fadd_Add.j1 k a0 a1 t124))))
theorem fadd_Add.mono_l : ∀ k, (∀ y0 y1 y2, LeO (fadd_Add.j1 k y0 y1 y2) (fadd_Add.j1 (k + 1) y0 y1 y2)) ∧ (∀ y0 y1 y2, LeO (fadd_Add.j0 k y0 y1 y2) (fadd_Add.j0 (k + 1) y0 y1 y2))
  | 0 => ⟨fun _ _ _ r h => by simp [fadd_Add.j1] at h, fun _ _ _ r h => by simp [fadd_Add.j0] at h⟩
  | k + 1 => by
    obtain ⟨ih0, ih1⟩ := fadd_Add.mono_l k
    refine ⟨?_, ?_⟩
    · intro y0 y1 y2
      unfold fadd_Add.j1
      repeat' first
      | (with_reducible exact ih0 _ _ _)
      | (with_reducible exact ih1 _ _ _)
      | (with_reducible exact fadd_finite.mono _ _ _)
      | (with_reducible exact LeO.refl _)
      | (with_reducible exact LeO.none _)
      | (with_reducible refine LeO.ite ?_ ?_)
      | (with_reducible refine LeO.bind ?_ (fun _ => ?_))
      | exact ih0 _ _ _
      | exact ih1 _ _ _
      | exact fadd_finite.mono _ _ _
      | exact LeO.none _
      | refine LeO.ite ?_ ?_
      | refine LeO.bind ?_ (fun _ => ?_)
    · intro y0 y1 y2
      unfold fadd_Add.j0
      repeat' first
      | (with_reducible exact ih0 _ _ _)
      | (with_reducible exact ih1 _ _ _)
      | (with_reducible exact fadd_finite.mono _ _ _)
      | (with_reducible exact LeO.refl _)
      | (with_reducible exact LeO.none _)
      | (with_reducible refine LeO.ite ?_ ?_)
      | (with_reducible refine LeO.bind ?_ (fun _ => ?_))
      | exact ih0 _ _ _
      | exact ih1 _ _ _
      | exact fadd_finite.mono _ _ _
      | exact LeO.none _
      | refine LeO.ite ?_ ?_
      | refine LeO.bind ?_ (fun _ => ?_)
theorem fadd_Add.mono : ∀ a0 a1 k, LeO (fadd_Add.f k a0 a1) (fadd_Add.f (k + 1) a0 a1) := by
  intro a0 a1 k
  obtain ⟨ih0, ih1⟩ := fadd_Add.mono_l k
  unfold fadd_Add.f
  repeat' first
      | (with_reducible exact ih0 _ _ _)
      | (with_reducible exact ih1 _ _ _)
      | (with_reducible exact fadd_finite.mono _ _ _)
      | (with_reducible exact LeO.refl _)
      | (with_reducible exact LeO.none _)
      | (with_reducible refine LeO.ite ?_ ?_)
      | (with_reducible refine LeO.bind ?_ (fun _ => ?_))
      | exact ih0 _ _ _
      | exact ih1 _ _ _
      | exact fadd_finite.mono _ _ _
      | exact LeO.none _
      | refine LeO.ite ?_ ?_
      | refine LeO.bind ?_ (fun _ => ?_)
set_option maxHeartbeats 8000000 in
set_option maxRecDepth 100000 in
theorem fadd_Add.calls (k : Nat) (a0 : Int) (a1 : Int) (r : Int) (w : World) (h : fadd_Add.f k a0 a1 = some r) :
    Calls Try.prog 27 #[.int .u64 a0, .int .u64 a1] w fun e w' => e = .returned (.int .u64 r) ∧ Below w.heap.size w w' := by
  have HB := Aside0.mk (Below.refl w.heap.size w)
  have H : ((flt_Class.f a0).bind fun t124 => ((flt_Class.f a1).bind fun t125 => (if t125 = 4 then (if t124 < 4 then ((fadd_Quiet.f a1).bind fun t126 => (some t126)) else (fadd_Add.j0 k a0 a1 t124)) else (if t125 = 3 then (fadd_Add.j0 k a0 a1 t124) else (fadd_Add.j1 k a0 a1 t124))))) = some r := h
  clear h
  replace H := Option.bind_eq_some_iff.mp H
  obtain ⟨t124, A30, H⟩ := H
  replace H : ((flt_Class.f a1).bind fun t125 => (if t125 = 4 then (if t124 < 4 then ((fadd_Quiet.f a1).bind fun t126 => (some t126)) else (fadd_Add.j0 k a0 a1 t124)) else (if t125 = 3 then (fadd_Add.j0 k a0 a1 t124) else (fadd_Add.j1 k a0 a1 t124)))) = some r := H
  have A3 := Aside0.mk A30
  clear A30
  replace H := Option.bind_eq_some_iff.mp H
  obtain ⟨t125, A40, H⟩ := H
  replace H : (if t125 = 4 then (if t124 < 4 then ((fadd_Quiet.f a1).bind fun t126 => (some t126)) else (fadd_Add.j0 k a0 a1 t124)) else (if t125 = 3 then (fadd_Add.j0 k a0 a1 t124) else (fadd_Add.j1 k a0 a1 t124))) = some r := H
  have A4 := Aside0.mk A40
  clear A40
  have HC5 := Aside0.mk H
  clear H
  go_enter Try.func27, Try.ntmps27
  go_upto_block 3 with (first | ((with_reducible refine gate_callee (f := 22) rfl ?_); refine goesL_ (some 7) rfl rfl Try.func22 (by kernel_rfl) rfl #[.int .u64 a0] rfl (by (try simp only [List.map_toArray, List.map_cons, List.map_nil]); first | done | rfl | (simp only [List.length_drop, List.length_take]; rfl)) ?_; (with_reducible refine (flt_Class.calls a0 t124 _ A3.out).mono ?_); rintro e w' ⟨rfl, ⟨nd, rfl⟩⟩; refine ⟨_, rfl, ?_⟩) | ((with_reducible refine gate_callee (f := 22) rfl ?_); refine goesL_ (some 9) rfl rfl Try.func22 (by kernel_rfl) rfl #[.int .u64 a1] rfl (by (try simp only [List.map_toArray, List.map_cons, List.map_nil]); first | done | rfl | (simp only [List.length_drop, List.length_take]; rfl)) ?_; (with_reducible refine (flt_Class.calls a1 t125 _ A4.out).mono ?_); rintro e w' ⟨rfl, ⟨nd, rfl⟩⟩; refine ⟨_, rfl, ?_⟩))
  (try simp only [Act.put, List.setIfInBounds_toArray, List.set_cons_zero, List.set_cons_succ])
  go_cut [] (fun wc => ∃ (kq : Nat), Aside0 (fadd_Add.j1 kq a0 a1 t124 = some r) ∧ Aside0 (kq ≤ k) ∧ Aside0 (Below w.heap.size w wc))
  case first =>
    have H := HC5.out
    clear HC5
    have HC6 := Aside0.mk H
    clear H
    go_upto_block 2 with (fail)
    go_cut [] (fun wc => ∃ (kq : Nat), Aside0 (fadd_Add.j0 kq a0 a1 t124 = some r) ∧ Aside0 (kq ≤ k) ∧ Aside0 (Below w.heap.size w wc))
    case first =>
      have H := HC6.out
      clear HC6
      by_cases c7 : t125 = 4
      · rw [if_pos c7] at H
        have c7b0 : (t125 == 4) = true := beq_iff_eq.mpr c7
        have c7b1 : (t125 != 4) = false := bne_eq_false_iff_eq.mpr c7
        clear c7
        (first | rw [c7b0] | (simp only [i64_w, i32_w]; rw [c7b0]) | skip)
        by_cases c8 : t124 < 4
        · rw [if_pos c8] at H
          have c8b0 : decide (t124 < 4) = true := decide_eq_true c8
          clear c8
          replace H := Option.bind_eq_some_iff.mp H
          obtain ⟨t126, A90, H⟩ := H
          replace H : (some t126) = some r := H
          have A9 := Aside0.mk A90
          clear A90
          obtain rfl := Option.some.inj H
          go_wp2_with (first | ((with_reducible refine gate_callee (f := 40) rfl ?_); refine goesL_ (some 17) rfl rfl Try.func40 (by kernel_rfl) rfl #[.int .u64 a1] rfl (by (try simp only [List.map_toArray, List.map_cons, List.map_nil]); first | done | rfl | (simp only [List.length_drop, List.length_take]; rfl)) ?_; (with_reducible refine (fadd_Quiet.calls a1 t126 _ A9.out).mono ?_); rintro e w' ⟨rfl, ⟨nd, rfl⟩⟩; refine ⟨_, rfl, ?_⟩))
          go_ret
          exact ⟨by first | rfl | (simp [errW_none, errW_some] <;> rfl) | (simp [*, errW_none, errW_some] <;> rfl), by repeat (first | (with_reducible first | exact HB.out | apply below_alloc | apply pw_below_drewN | apply below_drew1) | exact HB.out)⟩
        · rw [if_neg c8] at H
          have c8b0 : decide (t124 < 4) = false := decide_eq_false c8
          clear c8
          have H' := Aside0.mk H
          clear H
          go_wp2
          go_meet
          case rel => exact ⟨_, H', ⟨by first | omega | exact Nat.le_refl _⟩, ⟨by repeat (first | (with_reducible first | exact HB.out | apply below_alloc | apply pw_below_drewN | apply below_drew1) | exact HB.out)⟩⟩
      · rw [if_neg c7] at H
        have c7b0 : (t125 == 4) = false := beq_eq_false_iff_ne.mpr c7
        have c7b1 : (t125 != 4) = true := bne_iff_ne.mpr c7
        (first | rw [c7b0] | (simp only [i64_w, i32_w]; rw [c7b0]) | skip)
        by_cases c10 : t125 = 3
        · rw [if_pos c10] at H
          have c10b0 : (t125 == 3) = true := beq_iff_eq.mpr c10
          have c10b1 : (t125 != 3) = false := bne_eq_false_iff_eq.mpr c10
          clear c10
          have H' := Aside0.mk H
          clear H
          go_wp2
          go_meet
          case rel => exact ⟨_, H', ⟨by first | omega | exact Nat.le_refl _⟩, ⟨by repeat (first | (with_reducible first | exact HB.out | apply below_alloc | apply pw_below_drewN | apply below_drew1) | exact HB.out)⟩⟩
        · rw [if_neg c10] at H
          have c10b0 : (t125 == 3) = false := beq_eq_false_iff_ne.mpr c10
          have c10b1 : (t125 != 3) = true := bne_iff_ne.mpr c10
          have H' := Aside0.mk H
          clear H
          go_wp2
          go_meet
          case rel => exact ⟨_, H', ⟨by first | omega | exact Nat.le_refl _⟩, ⟨by repeat (first | (with_reducible first | exact HB.out | apply below_alloc | apply pw_below_drewN | apply below_drew1) | exact HB.out)⟩⟩
    case rest =>
      clear HC6
      try clear c1
      try clear c2
      try clear p2
      try clear c4
      try clear c7
      try clear c7b0
      try clear c7b1
      try clear c8
      try clear c8b0
      try clear c10
      try clear c10b0
      try clear c10b1
      obtain ⟨kq, HA, HJ5, HB⟩ := hcut
      cases kq with
      | zero => exact absurd HA.out (by simp [fadd_Add.j0])
      | succ kj5 =>
        have H := HA.out
        clear HA
        simp only [fadd_Add.j0] at H
        by_cases c11 : t124 < 3
        · rw [if_pos c11] at H
          have c11b0 : decide (t124 < 3) = true := decide_eq_true c11
          clear c11
          obtain rfl := Option.some.inj H
          go_wp2
          go_ret
          exact ⟨by first | rfl | (simp [errW_none, errW_some] <;> rfl) | (simp [*, errW_none, errW_some] <;> rfl), by repeat (first | (with_reducible first | exact HB.out | apply below_alloc | apply pw_below_drewN | apply below_drew1) | exact HB.out)⟩
        · rw [if_neg c11] at H
          have c11b0 : decide (t124 < 3) = false := decide_eq_false c11
          clear c11
          by_cases c12 : t124 = 3
          · rw [if_pos c12] at H
            have c12b0 : (t124 == 3) = true := beq_iff_eq.mpr c12
            have c12b1 : (t124 != 3) = false := bne_eq_false_iff_eq.mpr c12
            clear c12
            by_cases c13 : a0 = a1
            · rw [if_pos c13] at H
              have c13b0 : (a0 == a1) = true := beq_iff_eq.mpr c13
              have c13b1 : (a0 != a1) = false := bne_eq_false_iff_eq.mpr c13
              clear c13
              have H' := Aside0.mk H
              clear H
              go_wp2
              go_meet
              case rel => exact ⟨_, H', ⟨by have := HJ5.out; first | omega | exact Nat.le_refl _⟩, ⟨by repeat (first | (with_reducible first | exact HB.out | apply below_alloc | apply pw_below_drewN | apply below_drew1) | exact HB.out)⟩⟩
            · rw [if_neg c13] at H
              have c13b0 : (a0 == a1) = false := beq_eq_false_iff_ne.mpr c13
              have c13b1 : (a0 != a1) = true := bne_iff_ne.mpr c13
              obtain rfl := Option.some.inj H
              go_wp2
              go_ret
              exact ⟨by first | rfl | (simp [errW_none, errW_some] <;> rfl) | (simp [*, errW_none, errW_some] <;> rfl), by repeat (first | (with_reducible first | exact HB.out | apply below_alloc | apply pw_below_drewN | apply below_drew1) | exact HB.out)⟩
          · rw [if_neg c12] at H
            have c12b0 : (t124 == 3) = false := beq_eq_false_iff_ne.mpr c12
            have c12b1 : (t124 != 3) = true := bne_iff_ne.mpr c12
            have H' := Aside0.mk H
            clear H
            go_wp2
            go_meet
            case rel => exact ⟨_, H', ⟨by have := HJ5.out; first | omega | exact Nat.le_refl _⟩, ⟨by repeat (first | (with_reducible first | exact HB.out | apply below_alloc | apply pw_below_drewN | apply below_drew1) | exact HB.out)⟩⟩
  case rest =>
    clear HC5
    try clear c1
    try clear c2
    try clear p2
    try clear c4
    try clear c7
    try clear c7b0
    try clear c7b1
    try clear c8
    try clear c8b0
    try clear c10
    try clear c10b0
    try clear c10b1
    try clear c11
    try clear c11b0
    try clear c12
    try clear c12b0
    try clear c12b1
    try clear c13
    try clear c13b0
    try clear c13b1
    try clear p2
    obtain ⟨kq, HA, HJ4, HB⟩ := hcut
    cases kq with
    | zero => exact absurd HA.out (by simp [fadd_Add.j1])
    | succ kj4 =>
      have H := HA.out
      clear HA
      simp only [fadd_Add.j1] at H
      by_cases c14 : t124 = 4
      · rw [if_pos c14] at H
        have c14b0 : (t124 == 4) = true := beq_iff_eq.mpr c14
        have c14b1 : (t124 != 4) = false := bne_eq_false_iff_eq.mpr c14
        clear c14
        replace H := Option.bind_eq_some_iff.mp H
        obtain ⟨t127, A150, H⟩ := H
        replace H : (some t127) = some r := H
        have A15 := Aside0.mk A150
        clear A150
        obtain rfl := Option.some.inj H
        go_wp2_with (first | ((with_reducible refine gate_callee (f := 40) rfl ?_); refine goesL_ (some 32) rfl rfl Try.func40 (by kernel_rfl) rfl #[.int .u64 a0] rfl (by (try simp only [List.map_toArray, List.map_cons, List.map_nil]); first | done | rfl | (simp only [List.length_drop, List.length_take]; rfl)) ?_; (with_reducible refine (fadd_Quiet.calls a0 t127 _ A15.out).mono ?_); rintro e w' ⟨rfl, ⟨nd, rfl⟩⟩; refine ⟨_, rfl, ?_⟩))
        go_ret
        exact ⟨by first | rfl | (simp [errW_none, errW_some] <;> rfl) | (simp [*, errW_none, errW_some] <;> rfl), by repeat (first | (with_reducible first | exact HB.out | apply below_alloc | apply pw_below_drewN | apply below_drew1) | exact HB.out)⟩
      · rw [if_neg c14] at H
        have c14b0 : (t124 == 4) = false := beq_eq_false_iff_ne.mpr c14
        have c14b1 : (t124 != 4) = true := bne_iff_ne.mpr c14
        by_cases c16 : t124 = 3
        · rw [if_pos c16] at H
          have c16b0 : (t124 == 3) = true := beq_iff_eq.mpr c16
          have c16b1 : (t124 != 3) = false := bne_eq_false_iff_eq.mpr c16
          clear c16
          obtain rfl := Option.some.inj H
          go_wp2
          go_ret
          exact ⟨by first | rfl | (simp [errW_none, errW_some] <;> rfl) | (simp [*, errW_none, errW_some] <;> rfl), by repeat (first | (with_reducible first | exact HB.out | apply below_alloc | apply pw_below_drewN | apply below_drew1) | exact HB.out)⟩
        · rw [if_neg c16] at H
          have c16b0 : (t124 == 3) = false := beq_eq_false_iff_ne.mpr c16
          have c16b1 : (t124 != 3) = true := bne_iff_ne.mpr c16
          replace H := Option.bind_eq_some_iff.mp H
          obtain ⟨t128, A170, H⟩ := H
          replace H : (some t128) = some r := H
          have A17 := Aside0.mk A170
          clear A170
          obtain rfl := Option.some.inj H
          go_wp2_with (first | ((with_reducible refine gate_callee (f := 50) rfl ?_); refine goesL_ (some 38) rfl rfl Try.func50 (by kernel_rfl) rfl #[.int .u64 a0, .int .u64 a1] rfl (by (try simp only [List.map_toArray, List.map_cons, List.map_nil]); first | done | rfl | (simp only [List.length_drop, List.length_take]; rfl)) ?_; (with_reducible refine (fadd_finite.calls kj4 a0 a1 t128 _ A17.out).mono ?_); rintro e w18 ⟨rfl, hb⟩; refine ⟨_, rfl, ?_⟩; have n0_ := Aside0.mk (below_step (by repeat (first | (with_reducible first | exact HB.out | apply below_alloc | apply pw_below_drewN | apply below_drew1) | exact HB.out)) hb); clear HB; have HB := n0_; clear n0_; (try clear hb); (try clear hb2); (try clear hk); (try clear hi)))
          go_ret
          exact ⟨by first | rfl | (simp [errW_none, errW_some] <;> rfl) | (simp [*, errW_none, errW_some] <;> rfl), by repeat (first | (with_reducible first | exact HB.out | apply below_alloc | apply pw_below_drewN | apply below_drew1) | exact HB.out)⟩

end Go.Proofs.Ytmljncgglpckcaa.PFaddTurns
