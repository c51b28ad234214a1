-- Made by a program of this session, after the guide's print, out of the translation. Lean checks it.
import Derived.Test.YtmljncgglpckcaaPFltLeastx0
namespace Go.Proofs.Ytmljncgglpckcaa.PFltLeast
open Go.RowKit Go.Proofs.YtmljncgglpckcaaW.PrintWords Go.Proofs.YtmljncgglpckcaaW.PrintLast Go.Proofs.YtmljncgglpckcaaW.PrintMore
attribute [local go_sem] max2_int min2_int max_two min_two max_three min_three max_four min_four   -- for this text's walks alone
set_option linter.unusedVariables false
set_option linter.unusedSimpArgs false

/-! ### flt_size: function 42 -/
def flt_size.f (a0 : Int) : Option (Int) := some (Go.bits .andNot .u64 a0 9223372036854775808)
set_option maxHeartbeats 8000000 in
set_option maxRecDepth 100000 in
theorem flt_size.calls (a0 : Int) (r : Int) (w : World) (h : flt_size.f a0 = some r) :
    Calls Try.prog 42 #[.int .u64 a0] w fun e w' => e = .returned (.int .u64 r) ∧ Drawn0 w w' := by
  have H : (some (Go.bits .andNot .u64 a0 9223372036854775808)) = some r := h
  clear h
  obtain rfl := Option.some.inj H
  go_enter Try.func42, Try.ntmps42
  go_wp2
  go_ret
  exact ⟨by first | rfl | (simp; done) | (simp [*]; done), by repeat (first | exact Drawn0.refl _ | apply Drawn0.step)⟩

/-! ### flt_ToInt: function 15 -/
mutual
def flt_ToInt.j1 : Nat → Int → Int → Option (Int × Bool)
  | 0, _, _ => none
  | k + 1, x0, x5 => if (Go.bits .and .u64 x0 9223372036854775808) > 0 then (flt_ToInt.j2 k x0 x5 (decide (x5 ≤ 9223372036854775808))) else (flt_ToInt.j2 k x0 x5 false)
def flt_ToInt.j2 : Nat → Int → Int → Bool → Option (Int × Bool)
  | 0, _, _, _ => none
  | k + 1, x0, x5, x43 => if x43 = true then (some (wrap64 (-(wrap64 (x5))), true)) else (if (Go.bits .and .u64 x0 9223372036854775808) = 0 then (if x5 < 9223372036854775808 then (some (wrap64 (x5), true)) else (some (0, false))) else (some (0, false)))
def flt_ToInt.j0 : Nat → Int → Int → Int → Bool → Option (Int × Bool)
  | 0, _, _, _, _ => none
  | k + 1, x0, x4, x5, x22 => if x22 = true then (some (0, false)) else (if x4 ≥ 0 then (if 0 ≤ x4 then (flt_ToInt.j1 k x0 (shl .u64 x5 x4)) else (none)) else (if 0 ≤ (wrap64 (-x4)) then (if (Go.bits .and .u64 x5 (IntKind.u64.wrap ((shl .u64 1 (wrap64 (-x4))) - 1))) > 0 then (some (0, false)) else (flt_ToInt.j1 k x0 (shr .u64 x5 (wrap64 (-x4))))) else (none)))
end
def flt_ToInt.f (k : Nat) (a0 : Int) : Option (Int × Bool) := (flt_size.f a0).bind fun t101 => ((flt_size.f a0).bind fun t102 => (if t102 = 0 then (some (0, true)) else (if (wrap64 ((wrap64 (t101 / 4503599627370496)) - 1075)) > 11 then (flt_ToInt.j0 k a0 (wrap64 ((wrap64 (t101 / 4503599627370496)) - 1075)) (Go.bits .or .u64 (Go.bits .and .u64 a0 4503599627370495) 4503599627370496) true) else (flt_ToInt.j0 k a0 (wrap64 ((wrap64 (t101 / 4503599627370496)) - 1075)) (Go.bits .or .u64 (Go.bits .and .u64 a0 4503599627370495) 4503599627370496) (decide ((wrap64 ((wrap64 (t101 / 4503599627370496)) - 1075)) < (-52)))))))
theorem flt_ToInt.mono_l : ∀ k, (∀ y0 y1, LeO (flt_ToInt.j1 k y0 y1) (flt_ToInt.j1 (k + 1) y0 y1)) ∧ (∀ y0 y1 y2, LeO (flt_ToInt.j2 k y0 y1 y2) (flt_ToInt.j2 (k + 1) y0 y1 y2)) ∧ (∀ y0 y1 y2 y3, LeO (flt_ToInt.j0 k y0 y1 y2 y3) (flt_ToInt.j0 (k + 1) y0 y1 y2 y3))
  | 0 => ⟨fun _ _ r h => by simp [flt_ToInt.j1] at h, fun _ _ _ r h => by simp [flt_ToInt.j2] at h, fun _ _ _ _ r h => by simp [flt_ToInt.j0] at h⟩
  | k + 1 => by
    obtain ⟨ih0, ih1, ih2⟩ := flt_ToInt.mono_l k
    refine ⟨?_, ?_, ?_⟩
    · intro y0 y1
      unfold flt_ToInt.j1
      repeat' first
      | (with_reducible exact ih0 _ _)
      | (with_reducible exact ih1 _ _ _)
      | (with_reducible exact ih2 _ _ _ _)
      | (with_reducible exact LeO.refl _)
      | (with_reducible exact LeO.none _)
      | (with_reducible refine LeO.ite ?_ ?_)
      | (with_reducible refine LeO.bind ?_ (fun _ => ?_))
      | exact ih0 _ _
      | exact ih1 _ _ _
      | exact ih2 _ _ _ _
      | exact LeO.none _
      | refine LeO.ite ?_ ?_
      | refine LeO.bind ?_ (fun _ => ?_)
    · intro y0 y1 y2
      unfold flt_ToInt.j2
      repeat' first
      | (with_reducible exact ih0 _ _)
      | (with_reducible exact ih1 _ _ _)
      | (with_reducible exact ih2 _ _ _ _)
      | (with_reducible exact LeO.refl _)
      | (with_reducible exact LeO.none _)
      | (with_reducible refine LeO.ite ?_ ?_)
      | (with_reducible refine LeO.bind ?_ (fun _ => ?_))
      | exact ih0 _ _
      | exact ih1 _ _ _
      | exact ih2 _ _ _ _
      | exact LeO.none _
      | refine LeO.ite ?_ ?_
      | refine LeO.bind ?_ (fun _ => ?_)
    · intro y0 y1 y2 y3
      unfold flt_ToInt.j0
      repeat' first
      | (with_reducible exact ih0 _ _)
      | (with_reducible exact ih1 _ _ _)
      | (with_reducible exact ih2 _ _ _ _)
      | (with_reducible exact LeO.refl _)
      | (with_reducible exact LeO.none _)
      | (with_reducible refine LeO.ite ?_ ?_)
      | (with_reducible refine LeO.bind ?_ (fun _ => ?_))
      | exact ih0 _ _
      | exact ih1 _ _ _
      | exact ih2 _ _ _ _
      | exact LeO.none _
      | refine LeO.ite ?_ ?_
      | refine LeO.bind ?_ (fun _ => ?_)
theorem flt_ToInt.mono : ∀ a0 k, LeO (flt_ToInt.f k a0) (flt_ToInt.f (k + 1) a0) := by
  intro a0 k
  obtain ⟨ih0, ih1, ih2⟩ := flt_ToInt.mono_l k
  unfold flt_ToInt.f
  repeat' first
      | (with_reducible exact ih0 _ _)
      | (with_reducible exact ih1 _ _ _)
      | (with_reducible exact ih2 _ _ _ _)
      | (with_reducible exact LeO.refl _)
      | (with_reducible exact LeO.none _)
      | (with_reducible refine LeO.ite ?_ ?_)
      | (with_reducible refine LeO.bind ?_ (fun _ => ?_))
      | exact ih0 _ _
      | exact ih1 _ _ _
      | exact ih2 _ _ _ _
      | exact LeO.none _
      | refine LeO.ite ?_ ?_
      | refine LeO.bind ?_ (fun _ => ?_)
set_option maxHeartbeats 8000000 in
set_option maxRecDepth 100000 in
theorem flt_ToInt.calls (k : Nat) (a0 : Int) (r1 : Int) (r2 : Bool) (w : World) (h : flt_ToInt.f k a0 = some (r1, r2)) :
    Calls Try.prog 15 #[.int .u64 a0] w fun e w' => e = .returned (.tuple #[.int .i64 r1, .bool r2]) ∧ Drawn0 w w' := by
  have H : ((flt_size.f a0).bind fun t101 => ((flt_size.f a0).bind fun t102 => (if t102 = 0 then (some (0, true)) else (if (wrap64 ((wrap64 (t101 / 4503599627370496)) - 1075)) > 11 then (flt_ToInt.j0 k a0 (wrap64 ((wrap64 (t101 / 4503599627370496)) - 1075)) (Go.bits .or .u64 (Go.bits .and .u64 a0 4503599627370495) 4503599627370496) true) else (flt_ToInt.j0 k a0 (wrap64 ((wrap64 (t101 / 4503599627370496)) - 1075)) (Go.bits .or .u64 (Go.bits .and .u64 a0 4503599627370495) 4503599627370496) (decide ((wrap64 ((wrap64 (t101 / 4503599627370496)) - 1075)) < (-52)))))))) = some (r1, r2) := h
  clear h
  replace H := Option.bind_eq_some_iff.mp H
  obtain ⟨t101, A20, H⟩ := H
  replace H : ((flt_size.f a0).bind fun t102 => (if t102 = 0 then (some (0, true)) else (if (wrap64 ((wrap64 (t101 / 4503599627370496)) - 1075)) > 11 then (flt_ToInt.j0 k a0 (wrap64 ((wrap64 (t101 / 4503599627370496)) - 1075)) (Go.bits .or .u64 (Go.bits .and .u64 a0 4503599627370495) 4503599627370496) true) else (flt_ToInt.j0 k a0 (wrap64 ((wrap64 (t101 / 4503599627370496)) - 1075)) (Go.bits .or .u64 (Go.bits .and .u64 a0 4503599627370495) 4503599627370496) (decide ((wrap64 ((wrap64 (t101 / 4503599627370496)) - 1075)) < (-52))))))) = some (r1, r2) := H
  have A2 := Aside0.mk A20
  clear A20
  have HC3 := Aside0.mk H
  clear H
  go_enter Try.func15, Try.ntmps15
  go_upto_block 0 with (first | ((with_reducible refine gate_callee (f := 42) rfl ?_); refine goesL_ (some 7) rfl rfl Try.func42 (by kernel_rfl) rfl #[.int .u64 a0] rfl (by (try simp only [List.map_toArray, List.map_cons, List.map_nil]); first | done | rfl | (simp only [List.length_drop, List.length_take]; rfl)) ?_; (with_reducible refine (flt_size.calls a0 t101 _ A2.out).mono ?_); rintro e w' ⟨rfl, ⟨nd, rfl⟩⟩; refine ⟨_, rfl, ?_⟩))
  (try simp only [Act.put, List.setIfInBounds_toArray, List.set_cons_zero, List.set_cons_succ])
  go_cut [5] (fun v5 wc => ∃ (kq : Nat) (x5_2 : Int), v5 = .int .u64 x5_2 ∧ Aside0 (flt_ToInt.j1 kq a0 x5_2 = some (r1, r2)) ∧ Aside0 (kq ≤ k) ∧ Drawn0 w wc)
  case first =>
    have H := HC3.out
    clear HC3
    replace H := Option.bind_eq_some_iff.mp H
    obtain ⟨t102, A40, H⟩ := H
    replace H : (if t102 = 0 then (some (0, true)) else (if (wrap64 ((wrap64 (t101 / 4503599627370496)) - 1075)) > 11 then (flt_ToInt.j0 k a0 (wrap64 ((wrap64 (t101 / 4503599627370496)) - 1075)) (Go.bits .or .u64 (Go.bits .and .u64 a0 4503599627370495) 4503599627370496) true) else (flt_ToInt.j0 k a0 (wrap64 ((wrap64 (t101 / 4503599627370496)) - 1075)) (Go.bits .or .u64 (Go.bits .and .u64 a0 4503599627370495) 4503599627370496) (decide ((wrap64 ((wrap64 (t101 / 4503599627370496)) - 1075)) < (-52)))))) = some (r1, r2) := H
    have A4 := Aside0.mk A40
    clear A40
    by_cases c5 : t102 = 0
    · rw [if_pos c5] at H
      have c5b0 : (t102 == 0) = true := beq_iff_eq.mpr c5
      have c5b1 : (t102 != 0) = false := bne_eq_false_iff_eq.mpr c5
      clear c5
      (first | rw [c5b0] | (simp only [i64_w, i32_w]; rw [c5b0]) | skip)
      simp only [Option.some.injEq, Prod.mk.injEq] at H
      obtain ⟨rfl, rfl⟩ := H
      go_wp2_with (first | ((with_reducible refine gate_callee (f := 42) rfl ?_); refine goesL_ (some 20) rfl rfl Try.func42 (by kernel_rfl) rfl #[.int .u64 a0] rfl (by (try simp only [List.map_toArray, List.map_cons, List.map_nil]); first | done | rfl | (simp only [List.length_drop, List.length_take]; rfl)) ?_; (with_reducible refine (flt_size.calls a0 t102 _ A4.out).mono ?_); rintro e w' ⟨rfl, ⟨nd, rfl⟩⟩; refine ⟨_, rfl, ?_⟩))
      go_ret2
      exact ⟨by first | rfl | (simp; done) | (simp [*]; done), by repeat (first | exact Drawn0.refl _ | apply Drawn0.step)⟩
    · rw [if_neg c5] at H
      have c5b0 : (t102 == 0) = false := beq_eq_false_iff_ne.mpr c5
      have c5b1 : (t102 != 0) = true := bne_iff_ne.mpr c5
      (first | rw [c5b0] | (simp only [i64_w, i32_w]; rw [c5b0]) | skip)
      have HC6 := Aside0.mk H
      clear H
      go_upto_region 6 with (first | ((with_reducible refine gate_callee (f := 42) rfl ?_); refine goesL_ (some 20) rfl rfl Try.func42 (by kernel_rfl) rfl #[.int .u64 a0] rfl (by (try simp only [List.map_toArray, List.map_cons, List.map_nil]); first | done | rfl | (simp only [List.length_drop, List.length_take]; rfl)) ?_; (with_reducible refine (flt_size.calls a0 t102 _ A4.out).mono ?_); rintro e w' ⟨rfl, ⟨nd, rfl⟩⟩; refine ⟨_, rfl, ?_⟩))
      (try simp only [Act.put, List.setIfInBounds_toArray, List.set_cons_zero, List.set_cons_succ])
      go_cut [22] (fun v22 wc => ∃ (kq : Nat) (x22_5 : Bool), v22 = .bool x22_5 ∧ Aside0 (flt_ToInt.j0 kq a0 (wrap64 ((wrap64 (t101 / 4503599627370496)) - 1075)) (Go.bits .or .u64 (Go.bits .and .u64 a0 4503599627370495) 4503599627370496) x22_5 = some (r1, r2)) ∧ Aside0 (kq ≤ k) ∧ Drawn0 w wc)
      case first =>
        have H := HC6.out
        clear HC6
        by_cases c7 : (wrap64 ((wrap64 (t101 / 4503599627370496)) - 1075)) > 11
        · rw [if_pos c7] at H
          have c7b0 : decide (11 < (wrap64 ((wrap64 (t101 / 4503599627370496)) - 1075))) = true := decide_eq_true c7
          clear c7
          (first | rw [c7b0] | (simp only [i64_w, i32_w]; rw [c7b0]) | skip)
          have H' := Aside0.mk H
          clear H
          go_wp2
          go_meet
          case rel => exact ⟨_, (true), (by first | rfl | (simp; done) | (simp [*]; done)), H', ⟨by first | omega | exact Nat.le_refl _⟩, by repeat (first | exact Drawn0.refl _ | apply Drawn0.step)⟩
        · rw [if_neg c7] at H
          have c7b0 : decide (11 < (wrap64 ((wrap64 (t101 / 4503599627370496)) - 1075))) = false := decide_eq_false c7
          clear c7
          (first | rw [c7b0] | (simp only [i64_w, i32_w]; rw [c7b0]) | skip)
          have H' := Aside0.mk H
          clear H
          go_wp2
          go_meet
          case rel => exact ⟨_, (decide ((wrap64 ((wrap64 (t101 / 4503599627370496)) - 1075)) < (-52))), (by first | rfl | (simp; done) | (simp [*]; done)), H', ⟨by first | omega | exact Nat.le_refl _⟩, by repeat (first | exact Drawn0.refl _ | apply Drawn0.step)⟩
      case rest =>
        clear HC6
        try clear c1
        try clear p2
        try clear c4
        try clear c5
        try clear c5b0
        try clear c5b1
        try clear p6
        try clear c7
        try clear c7b0
        obtain ⟨kq, x22_5, rfl, HA, HJ5, ⟨mc5, rfl⟩⟩ := hcut
        cases kq with
        | zero => exact absurd HA.out (by simp [flt_ToInt.j0])
        | succ kj5 =>
          have H := HA.out
          clear HA
          simp only [flt_ToInt.j0] at H
          by_cases c8 : x22_5 = true
          · subst c8
            have H1 : (some (0, false)) = some (r1, r2) := by rw [if_pos rfl] at H; exact H
            clear H
            have H := H1
            clear H1
            simp only [Option.some.injEq, Prod.mk.injEq] at H
            obtain ⟨rfl, rfl⟩ := H
            go_wp2
            go_ret2
            exact ⟨by first | rfl | (simp; done) | (simp [*]; done), by repeat (first | exact Drawn0.refl _ | apply Drawn0.step)⟩
          · replace c8 := Bool.eq_false_iff.mpr c8
            subst c8
            have H1 : (if (wrap64 ((wrap64 (t101 / 4503599627370496)) - 1075)) ≥ 0 then (if 0 ≤ (wrap64 ((wrap64 (t101 / 4503599627370496)) - 1075)) then (flt_ToInt.j1 kj5 a0 (shl .u64 (Go.bits .or .u64 (Go.bits .and .u64 a0 4503599627370495) 4503599627370496) (wrap64 ((wrap64 (t101 / 4503599627370496)) - 1075)))) else (none)) else (if 0 ≤ (wrap64 (-(wrap64 ((wrap64 (t101 / 4503599627370496)) - 1075)))) then (if (Go.bits .and .u64 (Go.bits .or .u64 (Go.bits .and .u64 a0 4503599627370495) 4503599627370496) (IntKind.u64.wrap ((shl .u64 1 (wrap64 (-(wrap64 ((wrap64 (t101 / 4503599627370496)) - 1075))))) - 1))) > 0 then (some (0, false)) else (flt_ToInt.j1 kj5 a0 (shr .u64 (Go.bits .or .u64 (Go.bits .and .u64 a0 4503599627370495) 4503599627370496) (wrap64 (-(wrap64 ((wrap64 (t101 / 4503599627370496)) - 1075))))))) else (none))) = some (r1, r2) := by rw [if_neg (show ¬ (false = true) by decide)] at H; exact H
            clear H
            have H := H1
            clear H1
            by_cases c9 : (wrap64 ((wrap64 (t101 / 4503599627370496)) - 1075)) ≥ 0
            · rw [if_pos c9] at H
              have c9b0 : decide (0 ≤ (wrap64 ((wrap64 (t101 / 4503599627370496)) - 1075))) = true := decide_eq_true c9
              clear c9
              obtain ⟨ji10, hji10⟩ : ∃ j_ : Int, (wrap64 ((wrap64 (t101 / 4503599627370496)) - 1075)) = j_ := ⟨_, rfl⟩
              replace H : (if 0 ≤ (ji10) then (flt_ToInt.j1 kj5 a0 (shl .u64 (Go.bits .or .u64 (Go.bits .and .u64 a0 4503599627370495) 4503599627370496) (ji10))) else (none)) = some (r1, r2) := by first | (rw [hji10] at H; exact H) | (simp only [hji10] at H ⊢; exact H)
              (try rw [hji10] at c9b0)
              have hji10w : (IntKind.i64.wrap ((wrap64 (t101 / 4503599627370496)) - 1075)) = ji10 := (i64_w _).trans hji10
              by_cases c11 : 0 ≤ (ji10)
              · rw [if_pos c11] at H
                have c11b0 := eq_true c11
                have c11b1 : decide (0 ≤ (ji10)) = true := decide_eq_true c11
                clear c11
                obtain ⟨ji12, hji12⟩ : ∃ j_ : Int, (shl .u64 (Go.bits .or .u64 (Go.bits .and .u64 a0 4503599627370495) 4503599627370496) (ji10)) = j_ := ⟨_, rfl⟩
                replace H : (flt_ToInt.j1 kj5 a0 ji12) = some (r1, r2) := by first | (rw [hji12] at H; exact H) | (simp only [hji12] at H ⊢; exact H)
                have hji12_ : (IntKind.u64.wrap ((Go.bits .or .u64 (Go.bits .and .u64 a0 4503599627370495) 4503599627370496) * 2 ^ min (ji10).toNat 64)) = ji12 := hji12
                have hji12z : (ji10) ≤ 64 → (IntKind.u64.wrap ((Go.bits .or .u64 (Go.bits .and .u64 a0 4503599627370495) 4503599627370496) * 2 ^ (ji10).toNat)) = ji12 := shl_small hji12
                have H' := Aside0.mk H
                clear H
                go_wp2
                go_meet
                case rel => exact ⟨_, (ji12), (by first | rfl | (simp; done) | (simp only [← hji12] <;> (first | rfl | simp)) | (simp [*]; done)), H', ⟨by have := HJ5.out; first | omega | exact Nat.le_refl _⟩, by repeat (first | exact Drawn0.refl _ | apply Drawn0.step)⟩
              · rw [if_neg c11] at H
                exact absurd H (by simp)
            · rw [if_neg c9] at H
              have c9b0 : decide (0 ≤ (wrap64 ((wrap64 (t101 / 4503599627370496)) - 1075))) = false := decide_eq_false c9
              clear c9
              obtain ⟨ji13, hji13⟩ : ∃ j_ : Int, (wrap64 (-(wrap64 ((wrap64 (t101 / 4503599627370496)) - 1075)))) = j_ := ⟨_, rfl⟩
              replace H : (if 0 ≤ (ji13) then (if (Go.bits .and .u64 (Go.bits .or .u64 (Go.bits .and .u64 a0 4503599627370495) 4503599627370496) (IntKind.u64.wrap ((shl .u64 1 (ji13)) - 1))) > 0 then (some (0, false)) else (flt_ToInt.j1 kj5 a0 (shr .u64 (Go.bits .or .u64 (Go.bits .and .u64 a0 4503599627370495) 4503599627370496) (ji13)))) else (none)) = some (r1, r2) := by first | (rw [hji13] at H; exact H) | (simp only [hji13] at H ⊢; exact H)
              have hji13w : (IntKind.i64.wrap (-(wrap64 ((wrap64 (t101 / 4503599627370496)) - 1075)))) = ji13 := (i64_w _).trans hji13
              by_cases c14 : 0 ≤ (ji13)
              · rw [if_pos c14] at H
                have c14b0 := eq_true c14
                have c14b1 : decide (0 ≤ (ji13)) = true := decide_eq_true c14
                clear c14
                obtain ⟨ji15, hji15⟩ : ∃ j_ : Int, (shl .u64 1 (ji13)) = j_ := ⟨_, rfl⟩
                replace H : (if (Go.bits .and .u64 (Go.bits .or .u64 (Go.bits .and .u64 a0 4503599627370495) 4503599627370496) (IntKind.u64.wrap ((ji15) - 1))) > 0 then (some (0, false)) else (flt_ToInt.j1 kj5 a0 (shr .u64 (Go.bits .or .u64 (Go.bits .and .u64 a0 4503599627370495) 4503599627370496) (ji13)))) = some (r1, r2) := by first | (rw [hji15] at H; exact H) | (simp only [hji15] at H ⊢; exact H)
                have hji15_ : (IntKind.u64.wrap (1 * 2 ^ min (ji13).toNat 64)) = ji15 := hji15
                have hji15z : (ji13) ≤ 64 → (IntKind.u64.wrap (1 * 2 ^ (ji13).toNat)) = ji15 := shl_small hji15
                have hji15u : (IntKind.u64.wrap (2 ^ min (ji13).toNat 64)) = ji15 := by have h_ := hji15_; rw [Int.one_mul] at h_; exact h_
                have hji15v : (ji13) ≤ 64 → (IntKind.u64.wrap (2 ^ (ji13).toNat)) = ji15 := fun hle_ => by have h_ := hji15z hle_; rw [Int.one_mul] at h_; exact h_
                by_cases c16 : (Go.bits .and .u64 (Go.bits .or .u64 (Go.bits .and .u64 a0 4503599627370495) 4503599627370496) (IntKind.u64.wrap ((ji15) - 1))) > 0
                · rw [if_pos c16] at H
                  have c16b0 : decide (0 < (Go.bits .and .u64 (Go.bits .or .u64 (Go.bits .and .u64 a0 4503599627370495) 4503599627370496) (IntKind.u64.wrap ((ji15) - 1)))) = true := decide_eq_true c16
                  clear c16
                  simp only [Option.some.injEq, Prod.mk.injEq] at H
                  obtain ⟨rfl, rfl⟩ := H
                  go_wp2
                  go_ret2
                  exact ⟨by first | rfl | (simp; done) | (simp only [← hji13, ← hji15] <;> (first | rfl | simp)) | (simp [*]; done), by repeat (first | exact Drawn0.refl _ | apply Drawn0.step)⟩
                · rw [if_neg c16] at H
                  have c16b0 : decide (0 < (Go.bits .and .u64 (Go.bits .or .u64 (Go.bits .and .u64 a0 4503599627370495) 4503599627370496) (IntKind.u64.wrap ((ji15) - 1)))) = false := decide_eq_false c16
                  clear c16
                  have c17b0 := eq_true (of_decide_eq_true (by first | (with_reducible assumption) | assumption) : 0 ≤ (ji13))
                  obtain ⟨ji18, hji18⟩ : ∃ j_ : Int, (shr .u64 (Go.bits .or .u64 (Go.bits .and .u64 a0 4503599627370495) 4503599627370496) (ji13)) = j_ := ⟨_, rfl⟩
                  replace H : (flt_ToInt.j1 kj5 a0 ji18) = some (r1, r2) := by first | (rw [hji18] at H; exact H) | (simp only [hji18] at H ⊢; exact H)
                  have hji18_ : ((Go.bits .or .u64 (Go.bits .and .u64 a0 4503599627370495) 4503599627370496) / 2 ^ min (ji13).toNat 64) = ji18 := hji18
                  have hji18z : (ji13) ≤ 64 → ((Go.bits .or .u64 (Go.bits .and .u64 a0 4503599627370495) 4503599627370496) / 2 ^ (ji13).toNat) = ji18 := shr_small hji18
                  have H' := Aside0.mk H
                  clear H
                  go_wp2
                  go_meet
                  case rel => exact ⟨_, (ji18), (by first | rfl | (simp; done) | (simp only [← hji18] <;> (first | rfl | simp)) | (simp [*]; done)), H', ⟨by have := HJ5.out; first | omega | exact Nat.le_refl _⟩, by repeat (first | exact Drawn0.refl _ | apply Drawn0.step)⟩
              · rw [if_neg c14] at H
                exact absurd H (by simp)
  case rest =>
    clear HC3
    try clear c1
    try clear p2
    try clear c4
    try clear c5
    try clear c5b0
    try clear c5b1
    try clear p6
    try clear c7
    try clear c7b0
    try clear c8
    try clear c9
    try clear c9b0
    try clear c11
    try clear c11b0
    try clear c11b1
    try clear c14
    try clear c14b0
    try clear c14b1
    try clear c15
    try clear c16
    try clear c16b0
    try clear c17
    try clear c17b0
    try clear p2
    try clear p6
    obtain ⟨kq, x5_2, rfl, HA, HJ2, ⟨mc2, rfl⟩⟩ := hcut
    cases kq with
    | zero => exact absurd HA.out (by simp [flt_ToInt.j1])
    | succ kj2 =>
      have H := HA.out
      clear HA
      simp only [flt_ToInt.j1] at H
      have HC19 := Aside0.mk H
      clear H
      go_upto_region 12 with (fail)
      go_cut [43] (fun v43 wc => ∃ (kq : Nat) (x43_18 : Bool), v43 = .bool x43_18 ∧ Aside0 (flt_ToInt.j2 kq a0 x5_2 x43_18 = some (r1, r2)) ∧ Aside0 (kq ≤ kj2) ∧ Drawn0 w wc)
      case first =>
        have H := HC19.out
        clear HC19
        by_cases c20 : (Go.bits .and .u64 a0 9223372036854775808) > 0
        · rw [if_pos c20] at H
          have c20b0 : decide (0 < (Go.bits .and .u64 a0 9223372036854775808)) = true := decide_eq_true c20
          clear c20
          (first | rw [c20b0] | (simp only [i64_w, i32_w]; rw [c20b0]) | skip)
          have H' := Aside0.mk H
          clear H
          go_wp2
          go_meet
          case rel => exact ⟨_, (decide (x5_2 ≤ 9223372036854775808)), (by first | rfl | (simp; done) | (simp [*]; done)), H', ⟨by have := HJ2.out; first | omega | exact Nat.le_refl _⟩, by repeat (first | exact Drawn0.refl _ | apply Drawn0.step)⟩
        · rw [if_neg c20] at H
          have c20b0 : decide (0 < (Go.bits .and .u64 a0 9223372036854775808)) = false := decide_eq_false c20
          clear c20
          (first | rw [c20b0] | (simp only [i64_w, i32_w]; rw [c20b0]) | skip)
          have H' := Aside0.mk H
          clear H
          go_wp2
          go_meet
          case rel => exact ⟨_, (false), (by first | rfl | (simp; done) | (simp [*]; done)), H', ⟨by have := HJ2.out; first | omega | exact Nat.le_refl _⟩, by repeat (first | exact Drawn0.refl _ | apply Drawn0.step)⟩
      case rest =>
        clear HC19
        try clear c1
        try clear c2
        try clear p2
        try clear c4
        try clear c5
        try clear c5b0
        try clear c5b1
        try clear p6
        try clear c7
        try clear c7b0
        try clear c8
        try clear c9
        try clear c9b0
        try clear c11
        try clear c11b0
        try clear c11b1
        try clear c14
        try clear c14b0
        try clear c14b1
        try clear c15
        try clear c16
        try clear c16b0
        try clear c17
        try clear c17b0
        try clear c20
        try clear c20b0
        try clear p2
        try clear p6
        obtain ⟨kq, x43_18, rfl, HA, HJ18, ⟨mc18, rfl⟩⟩ := hcut
        cases kq with
        | zero => exact absurd HA.out (by simp [flt_ToInt.j2])
        | succ kj18 =>
          have H := HA.out
          clear HA
          simp only [flt_ToInt.j2] at H
          by_cases c21 : x43_18 = true
          · subst c21
            have H1 : (some (wrap64 (-(wrap64 (x5_2))), true)) = some (r1, r2) := by rw [if_pos rfl] at H; exact H
            clear H
            have H := H1
            clear H1
            simp only [Option.some.injEq, Prod.mk.injEq] at H
            obtain ⟨rfl, rfl⟩ := H
            go_wp2
            go_ret2
            exact ⟨by first | rfl | (simp; done) | (simp [*]; done), by repeat (first | exact Drawn0.refl _ | apply Drawn0.step)⟩
          · replace c21 := Bool.eq_false_iff.mpr c21
            subst c21
            have H1 : (if (Go.bits .and .u64 a0 9223372036854775808) = 0 then (if x5_2 < 9223372036854775808 then (some (wrap64 (x5_2), true)) else (some (0, false))) else (some (0, false))) = some (r1, r2) := by rw [if_neg (show ¬ (false = true) by decide)] at H; exact H
            clear H
            have H := H1
            clear H1
            by_cases c22 : (Go.bits .and .u64 a0 9223372036854775808) = 0
            · rw [if_pos c22] at H
              have c22b0 : ((Go.bits .and .u64 a0 9223372036854775808) == 0) = true := beq_iff_eq.mpr c22
              have c22b1 : ((Go.bits .and .u64 a0 9223372036854775808) != 0) = false := bne_eq_false_iff_eq.mpr c22
              clear c22
              by_cases c23 : x5_2 < 9223372036854775808
              · rw [if_pos c23] at H
                have c23b0 : decide (x5_2 < 9223372036854775808) = true := decide_eq_true c23
                clear c23
                simp only [Option.some.injEq, Prod.mk.injEq] at H
                obtain ⟨rfl, rfl⟩ := H
                go_wp2
                go_ret2
                exact ⟨by first | rfl | (simp; done) | (simp [*]; done), by repeat (first | exact Drawn0.refl _ | apply Drawn0.step)⟩
              · rw [if_neg c23] at H
                have c23b0 : decide (x5_2 < 9223372036854775808) = false := decide_eq_false c23
                clear c23
                simp only [Option.some.injEq, Prod.mk.injEq] at H
                obtain ⟨rfl, rfl⟩ := H
                go_wp2
                go_ret2
                exact ⟨by first | rfl | (simp; done) | (simp [*]; done), by repeat (first | exact Drawn0.refl _ | apply Drawn0.step)⟩
            · rw [if_neg c22] at H
              have c22b0 : ((Go.bits .and .u64 a0 9223372036854775808) == 0) = false := beq_eq_false_iff_ne.mpr c22
              have c22b1 : ((Go.bits .and .u64 a0 9223372036854775808) != 0) = true := bne_iff_ne.mpr c22
              simp only [Option.some.injEq, Prod.mk.injEq] at H
              obtain ⟨rfl, rfl⟩ := H
              go_wp2
              go_ret2
              exact ⟨by first | rfl | (simp; done) | (simp [*]; done), by repeat (first | exact Drawn0.refl _ | apply Drawn0.step)⟩

/-! ### flt_near: function 45 -/
def flt_near.l0 : Nat → Int → Int → Option (Int)
  | 0, _, _ => none
  | k + 1, x0, x3 => if x0 < 9223372036854775808 then (flt_near.l0 k (IntKind.u64.wrap (x0 * 2)) (IntKind.u64.wrap (x3 - 1))) else (if (Go.bits .and .u64 x0 2047) > 1024 then (some (IntKind.u64.wrap ((IntKind.u64.wrap ((IntKind.u64.wrap (x3 * 4503599627370496)) + (IntKind.u64.wrap ((x0 / 2048) - 4503599627370496)))) + 1))) else (if (Go.bits .and .u64 x0 2047) = 1024 then (if (Go.bits .and .u64 (IntKind.u64.wrap ((IntKind.u64.wrap (x3 * 4503599627370496)) + (IntKind.u64.wrap ((x0 / 2048) - 4503599627370496)))) 1) = 1 then (some (IntKind.u64.wrap ((IntKind.u64.wrap ((IntKind.u64.wrap (x3 * 4503599627370496)) + (IntKind.u64.wrap ((x0 / 2048) - 4503599627370496)))) + 1))) else (some (IntKind.u64.wrap ((IntKind.u64.wrap (x3 * 4503599627370496)) + (IntKind.u64.wrap ((x0 / 2048) - 4503599627370496)))))) else (some (IntKind.u64.wrap ((IntKind.u64.wrap (x3 * 4503599627370496)) + (IntKind.u64.wrap ((x0 / 2048) - 4503599627370496)))))))
def flt_near.f (k : Nat) (a0 : Int) : Option (Int) := flt_near.l0 k a0 1086
theorem flt_near.mono_l : ∀ k, (∀ y0 y1, LeO (flt_near.l0 k y0 y1) (flt_near.l0 (k + 1) y0 y1))
  | 0 => fun _ _ r h => by simp [flt_near.l0] at h
  | k + 1 => by
    have ih0 := flt_near.mono_l k
    · intro y0 y1
      unfold flt_near.l0
      repeat' first
      | (with_reducible exact ih0 _ _)
      | (with_reducible exact LeO.refl _)
      | (with_reducible exact LeO.none _)
      | (with_reducible refine LeO.ite ?_ ?_)
      | (with_reducible refine LeO.bind ?_ (fun _ => ?_))
      | exact ih0 _ _
      | exact LeO.none _
      | refine LeO.ite ?_ ?_
      | refine LeO.bind ?_ (fun _ => ?_)
theorem flt_near.mono : ∀ a0 k, LeO (flt_near.f k a0) (flt_near.f (k + 1) a0) := by
  intro a0 k
  have ih0 := flt_near.mono_l k
  unfold flt_near.f
  repeat' first
      | (with_reducible exact ih0 _ _)
      | (with_reducible exact LeO.refl _)
      | (with_reducible exact LeO.none _)
      | (with_reducible refine LeO.ite ?_ ?_)
      | (with_reducible refine LeO.bind ?_ (fun _ => ?_))
      | exact ih0 _ _
      | exact LeO.none _
      | refine LeO.ite ?_ ?_
      | refine LeO.bind ?_ (fun _ => ?_)
set_option maxHeartbeats 8000000 in
set_option maxRecDepth 100000 in
theorem flt_near.calls (k : Nat) (a0 : Int) (r : Int) (w : World) (h : flt_near.f k a0 = some r) :
    Calls Try.prog 45 #[.int .u64 a0] w fun e w' => e = .returned (.int .u64 r) ∧ Drawn0 w w' := by
  have H : (flt_near.l0 k a0 1086) = some r := h
  clear h
  have H' := Aside0.mk H
  clear H
  go_enter Try.func45, Try.ntmps45
  go_wp2
  go_loopg [0, 3] k (fun kq v0 v3 w' => ∃ (x0_1 : Int) (x3_1 : Int), v0 = .int .u64 x0_1 ∧ v3 = .int .u64 x3_1 ∧ Aside0 (flt_near.l0 kq x0_1 x3_1 = some r) ∧ Aside0 (kq ≤ k) ∧ Drawn0 w w')
  case atStart => exact ⟨(a0), (1086), (by first | rfl | (simp; done) | (simp [*]; done)), (by first | rfl | (simp; done) | (simp [*]; done)), H', ⟨Nat.le_refl _⟩, by repeat (first | exact Drawn0.refl _ | apply Drawn0.step)⟩
  case round =>
    clear H'
    obtain ⟨x0_1, x3_1, rfl, rfl, HA, HK1, ⟨m1, rfl⟩⟩ := hrel
    cases gk with
    | zero => exact absurd HA.out (by simp [flt_near.l0])
    | succ k1 =>
      have H := HA.out
      clear HA
      simp only [flt_near.l0] at H
      by_cases c2 : x0_1 < 9223372036854775808
      · rw [if_pos c2] at H
        have c2b0 : decide (x0_1 < 9223372036854775808) = true := decide_eq_true c2
        clear c2
        have H' := Aside0.mk H
        clear H
        go_wp2
        go_roundg k1
        case measure => have := HK1.out; omega
        case rel => exact ⟨(IntKind.u64.wrap (x0_1 * 2)), (IntKind.u64.wrap (x3_1 - 1)), (by first | rfl | (simp; done) | (simp [*]; done)), (by first | rfl | (simp; done) | (simp [*]; done)), H', ⟨by have := HK1.out; omega⟩, by repeat (first | exact Drawn0.refl _ | apply Drawn0.step)⟩
      · rw [if_neg c2] at H
        have c2b0 : decide (x0_1 < 9223372036854775808) = false := decide_eq_false c2
        clear c2
        by_cases c3 : (Go.bits .and .u64 x0_1 2047) > 1024
        · rw [if_pos c3] at H
          have c3b0 : decide (1024 < (Go.bits .and .u64 x0_1 2047)) = true := decide_eq_true c3
          clear c3
          obtain rfl := Option.some.inj H
          go_wp2
          go_ret
          exact ⟨by first | rfl | (simp; done) | (simp [*]; done), by repeat (first | exact Drawn0.refl _ | apply Drawn0.step)⟩
        · rw [if_neg c3] at H
          have c3b0 : decide (1024 < (Go.bits .and .u64 x0_1 2047)) = false := decide_eq_false c3
          clear c3
          by_cases c4 : (Go.bits .and .u64 x0_1 2047) = 1024
          · rw [if_pos c4] at H
            have c4b0 : ((Go.bits .and .u64 x0_1 2047) == 1024) = true := beq_iff_eq.mpr c4
            have c4b1 : ((Go.bits .and .u64 x0_1 2047) != 1024) = false := bne_eq_false_iff_eq.mpr c4
            clear c4
            by_cases c5 : (Go.bits .and .u64 (IntKind.u64.wrap ((IntKind.u64.wrap (x3_1 * 4503599627370496)) + (IntKind.u64.wrap ((x0_1 / 2048) - 4503599627370496)))) 1) = 1
            · rw [if_pos c5] at H
              have c5b0 : ((Go.bits .and .u64 (IntKind.u64.wrap ((IntKind.u64.wrap (x3_1 * 4503599627370496)) + (IntKind.u64.wrap ((x0_1 / 2048) - 4503599627370496)))) 1) == 1) = true := beq_iff_eq.mpr c5
              have c5b1 : ((Go.bits .and .u64 (IntKind.u64.wrap ((IntKind.u64.wrap (x3_1 * 4503599627370496)) + (IntKind.u64.wrap ((x0_1 / 2048) - 4503599627370496)))) 1) != 1) = false := bne_eq_false_iff_eq.mpr c5
              clear c5
              obtain rfl := Option.some.inj H
              go_wp2
              go_ret
              exact ⟨by first | rfl | (simp; done) | (simp [*]; done), by repeat (first | exact Drawn0.refl _ | apply Drawn0.step)⟩
            · rw [if_neg c5] at H
              have c5b0 : ((Go.bits .and .u64 (IntKind.u64.wrap ((IntKind.u64.wrap (x3_1 * 4503599627370496)) + (IntKind.u64.wrap ((x0_1 / 2048) - 4503599627370496)))) 1) == 1) = false := beq_eq_false_iff_ne.mpr c5
              have c5b1 : ((Go.bits .and .u64 (IntKind.u64.wrap ((IntKind.u64.wrap (x3_1 * 4503599627370496)) + (IntKind.u64.wrap ((x0_1 / 2048) - 4503599627370496)))) 1) != 1) = true := bne_iff_ne.mpr c5
              obtain rfl := Option.some.inj H
              go_wp2
              go_ret
              exact ⟨by first | rfl | (simp; done) | (simp [*]; done), by repeat (first | exact Drawn0.refl _ | apply Drawn0.step)⟩
          · rw [if_neg c4] at H
            have c4b0 : ((Go.bits .and .u64 x0_1 2047) == 1024) = false := beq_eq_false_iff_ne.mpr c4
            have c4b1 : ((Go.bits .and .u64 x0_1 2047) != 1024) = true := bne_iff_ne.mpr c4
            obtain rfl := Option.some.inj H
            go_wp2
            go_ret
            exact ⟨by first | rfl | (simp; done) | (simp [*]; done), by repeat (first | exact Drawn0.refl _ | apply Drawn0.step)⟩

/-! ### flt_FromInt: function 17 -/
def flt_FromInt.f (k : Nat) (a0 : Int) : Option (Int) := if a0 < 0 then ((flt_near.f k (IntKind.u64.wrap (-(IntKind.u64.wrap (a0))))).bind fun t103 => (some (Go.bits .or .u64 t103 9223372036854775808))) else (if a0 > 0 then ((flt_near.f k (IntKind.u64.wrap (a0))).bind fun t104 => (some t104)) else (some 0))
theorem flt_FromInt.mono : ∀ a0 k, LeO (flt_FromInt.f k a0) (flt_FromInt.f (k + 1) a0) := by
  intro a0 k
  unfold flt_FromInt.f
  repeat' first
      | (with_reducible exact flt_near.mono _ _)
      | (with_reducible exact LeO.refl _)
      | (with_reducible exact LeO.none _)
      | (with_reducible refine LeO.ite ?_ ?_)
      | (with_reducible refine LeO.bind ?_ (fun _ => ?_))
      | exact flt_near.mono _ _
      | exact LeO.none _
      | refine LeO.ite ?_ ?_
      | refine LeO.bind ?_ (fun _ => ?_)
set_option maxHeartbeats 8000000 in
set_option maxRecDepth 100000 in
theorem flt_FromInt.calls (k : Nat) (a0 : Int) (r : Int) (w : World) (h : flt_FromInt.f k a0 = some r) :
    Calls Try.prog 17 #[.int .i64 a0] w fun e w' => e = .returned (.int .u64 r) ∧ Drawn0 w w' := by
  have H : (if a0 < 0 then ((flt_near.f k (IntKind.u64.wrap (-(IntKind.u64.wrap (a0))))).bind fun t103 => (some (Go.bits .or .u64 t103 9223372036854775808))) else (if a0 > 0 then ((flt_near.f k (IntKind.u64.wrap (a0))).bind fun t104 => (some t104)) else (some 0))) = some r := h
  clear h
  by_cases c2 : a0 < 0
  · rw [if_pos c2] at H
    have c2b0 : decide (a0 < 0) = true := decide_eq_true c2
    clear c2
    replace H := Option.bind_eq_some_iff.mp H
    obtain ⟨t103, A30, H⟩ := H
    replace H : (some (Go.bits .or .u64 t103 9223372036854775808)) = some r := H
    have A3 := Aside0.mk A30
    clear A30
    obtain rfl := Option.some.inj H
    go_enter Try.func17, Try.ntmps17
    go_wp2_with (first | ((with_reducible refine gate_callee (f := 45) rfl ?_); refine goesL_ (some 9) rfl rfl Try.func45 (by kernel_rfl) rfl #[.int .u64 (IntKind.u64.wrap (-(IntKind.u64.wrap (a0))))] rfl (by (try simp only [List.map_toArray, List.map_cons, List.map_nil]); first | done | rfl | (simp only [List.length_drop, List.length_take]; rfl)) ?_; (with_reducible refine (flt_near.calls k (IntKind.u64.wrap (-(IntKind.u64.wrap (a0)))) t103 _ A3.out).mono ?_); rintro e w' ⟨rfl, ⟨nd, rfl⟩⟩; refine ⟨_, rfl, ?_⟩))
    go_ret
    exact ⟨by first | rfl | (simp; done) | (simp [*]; done), by repeat (first | exact Drawn0.refl _ | apply Drawn0.step)⟩
  · rw [if_neg c2] at H
    have c2b0 : decide (a0 < 0) = false := decide_eq_false c2
    clear c2
    by_cases c4 : a0 > 0
    · rw [if_pos c4] at H
      have c4b0 : decide (0 < a0) = true := decide_eq_true c4
      clear c4
      replace H := Option.bind_eq_some_iff.mp H
      obtain ⟨t104, A50, H⟩ := H
      replace H : (some t104) = some r := H
      have A5 := Aside0.mk A50
      clear A50
      obtain rfl := Option.some.inj H
      go_enter Try.func17, Try.ntmps17
      go_wp2_with (first | ((with_reducible refine gate_callee (f := 45) rfl ?_); refine goesL_ (some 16) rfl rfl Try.func45 (by kernel_rfl) rfl #[.int .u64 (IntKind.u64.wrap (a0))] rfl (by (try simp only [List.map_toArray, List.map_cons, List.map_nil]); first | done | rfl | (simp only [List.length_drop, List.length_take]; rfl)) ?_; (with_reducible refine (flt_near.calls k (IntKind.u64.wrap (a0)) t104 _ A5.out).mono ?_); rintro e w' ⟨rfl, ⟨nd, rfl⟩⟩; refine ⟨_, rfl, ?_⟩))
      go_ret
      exact ⟨by first | rfl | (simp; done) | (simp [*]; done), by repeat (first | exact Drawn0.refl _ | apply Drawn0.step)⟩
    · rw [if_neg c4] at H
      have c4b0 : decide (0 < a0) = false := decide_eq_false c4
      clear c4
      obtain rfl := Option.some.inj H
      go_enter Try.func17, Try.ntmps17
      go_wp2
      go_ret
      exact ⟨by first | rfl | (simp; done) | (simp [*]; done), by repeat (first | exact Drawn0.refl _ | apply Drawn0.step)⟩

/-! ### cmp_isNaN_uint64: function 53 -/
def cmp_isNaN_uint64.f (a0 : Int) : Option (Bool) := some (a0 != a0)
set_option maxHeartbeats 8000000 in
set_option maxRecDepth 100000 in
theorem cmp_isNaN_uint64.calls (a0 : Int) (r : Bool) (w : World) (h : cmp_isNaN_uint64.f a0 = some r) :
    Calls Try.prog 53 #[.int .u64 a0] w fun e w' => e = .returned (.bool r) ∧ Drawn0 w w' := by
  have H : (some (a0 != a0)) = some r := h
  clear h
  obtain rfl := Option.some.inj H
  go_enter Try.func53, Try.ntmps53
  go_wp2
  go_ret
  exact ⟨by first | rfl | (simp; done) | (simp [*]; done), by repeat (first | exact Drawn0.refl _ | apply Drawn0.step)⟩

/-! ### cmp_Compare_uint64: function 48 -/
def cmp_Compare_uint64.f (a0 : Int) (a1 : Int) : Option (Int) := (cmp_isNaN_uint64.f a0).bind fun t105 => ((cmp_isNaN_uint64.f a1).bind fun t106 => (if t105 = true then (if t106 = true then (some 0) else (some (-1))) else (if t106 = true then (some 1) else (if a0 < a1 then (some (-1)) else (if a0 > a1 then (some 1) else (some 0))))))
set_option maxHeartbeats 8000000 in
set_option maxRecDepth 100000 in
theorem cmp_Compare_uint64.calls (a0 : Int) (a1 : Int) (r : Int) (w : World) (h : cmp_Compare_uint64.f a0 a1 = some r) :
    Calls Try.prog 48 #[.int .u64 a0, .int .u64 a1] w fun e w' => e = .returned (.int .i64 r) ∧ Drawn0 w w' := by
  have H : ((cmp_isNaN_uint64.f a0).bind fun t105 => ((cmp_isNaN_uint64.f a1).bind fun t106 => (if t105 = true then (if t106 = true then (some 0) else (some (-1))) else (if t106 = true then (some 1) else (if a0 < a1 then (some (-1)) else (if a0 > a1 then (some 1) else (some 0))))))) = some r := h
  clear h
  replace H := Option.bind_eq_some_iff.mp H
  obtain ⟨t105, A30, H⟩ := H
  replace H : ((cmp_isNaN_uint64.f a1).bind fun t106 => (if t105 = true then (if t106 = true then (some 0) else (some (-1))) else (if t106 = true then (some 1) else (if a0 < a1 then (some (-1)) else (if a0 > a1 then (some 1) else (some 0)))))) = some r := H
  have A3 := Aside0.mk A30
  clear A30
  replace H := Option.bind_eq_some_iff.mp H
  obtain ⟨t106, A40, H⟩ := H
  replace H : (if t105 = true then (if t106 = true then (some 0) else (some (-1))) else (if t106 = true then (some 1) else (if a0 < a1 then (some (-1)) else (if a0 > a1 then (some 1) else (some 0))))) = some r := H
  have A4 := Aside0.mk A40
  clear A40
  by_cases c5 : t105 = true
  · subst c5
    have H1 : (if t106 = true then (some 0) else (some (-1))) = some r := by rw [if_pos rfl] at H; exact H
    clear H
    have H := H1
    clear H1
    by_cases c6 : t106 = true
    · subst c6
      have H1 : (some 0) = some r := by rw [if_pos rfl] at H; exact H
      clear H
      have H := H1
      clear H1
      obtain rfl := Option.some.inj H
      go_enter Try.func48, Try.ntmps48
      go_wp2_with (first | ((with_reducible refine gate_callee (f := 53) rfl ?_); refine goesL_ (some 8) rfl rfl Try.func53 (by kernel_rfl) rfl #[.int .u64 a0] rfl (by (try simp only [List.map_toArray, List.map_cons, List.map_nil]); first | done | rfl | (simp only [List.length_drop, List.length_take]; rfl)) ?_; (with_reducible refine (cmp_isNaN_uint64.calls a0 true _ A3.out).mono ?_); rintro e w' ⟨rfl, ⟨nd, rfl⟩⟩; refine ⟨_, rfl, ?_⟩) | ((with_reducible refine gate_callee (f := 53) rfl ?_); refine goesL_ (some 10) rfl rfl Try.func53 (by kernel_rfl) rfl #[.int .u64 a1] rfl (by (try simp only [List.map_toArray, List.map_cons, List.map_nil]); first | done | rfl | (simp only [List.length_drop, List.length_take]; rfl)) ?_; (with_reducible refine (cmp_isNaN_uint64.calls a1 true _ A4.out).mono ?_); rintro e w' ⟨rfl, ⟨nd, rfl⟩⟩; refine ⟨_, rfl, ?_⟩))
      go_ret
      exact ⟨by first | rfl | (simp; done) | (simp [*]; done), by repeat (first | exact Drawn0.refl _ | apply Drawn0.step)⟩
    · replace c6 := Bool.eq_false_iff.mpr c6
      subst c6
      have H1 : (some (-1)) = some r := by rw [if_neg (show ¬ (false = true) by decide)] at H; exact H
      clear H
      have H := H1
      clear H1
      obtain rfl := Option.some.inj H
      go_enter Try.func48, Try.ntmps48
      go_wp2_with (first | ((with_reducible refine gate_callee (f := 53) rfl ?_); refine goesL_ (some 8) rfl rfl Try.func53 (by kernel_rfl) rfl #[.int .u64 a0] rfl (by (try simp only [List.map_toArray, List.map_cons, List.map_nil]); first | done | rfl | (simp only [List.length_drop, List.length_take]; rfl)) ?_; (with_reducible refine (cmp_isNaN_uint64.calls a0 true _ A3.out).mono ?_); rintro e w' ⟨rfl, ⟨nd, rfl⟩⟩; refine ⟨_, rfl, ?_⟩) | ((with_reducible refine gate_callee (f := 53) rfl ?_); refine goesL_ (some 10) rfl rfl Try.func53 (by kernel_rfl) rfl #[.int .u64 a1] rfl (by (try simp only [List.map_toArray, List.map_cons, List.map_nil]); first | done | rfl | (simp only [List.length_drop, List.length_take]; rfl)) ?_; (with_reducible refine (cmp_isNaN_uint64.calls a1 false _ A4.out).mono ?_); rintro e w' ⟨rfl, ⟨nd, rfl⟩⟩; refine ⟨_, rfl, ?_⟩))
      go_ret
      exact ⟨by first | rfl | (simp; done) | (simp [*]; done), by repeat (first | exact Drawn0.refl _ | apply Drawn0.step)⟩
  · replace c5 := Bool.eq_false_iff.mpr c5
    subst c5
    have H1 : (if t106 = true then (some 1) else (if a0 < a1 then (some (-1)) else (if a0 > a1 then (some 1) else (some 0)))) = some r := by rw [if_neg (show ¬ (false = true) by decide)] at H; exact H
    clear H
    have H := H1
    clear H1
    by_cases c7 : t106 = true
    · subst c7
      have H1 : (some 1) = some r := by rw [if_pos rfl] at H; exact H
      clear H
      have H := H1
      clear H1
      obtain rfl := Option.some.inj H
      go_enter Try.func48, Try.ntmps48
      go_wp2_with (first | ((with_reducible refine gate_callee (f := 53) rfl ?_); refine goesL_ (some 8) rfl rfl Try.func53 (by kernel_rfl) rfl #[.int .u64 a0] rfl (by (try simp only [List.map_toArray, List.map_cons, List.map_nil]); first | done | rfl | (simp only [List.length_drop, List.length_take]; rfl)) ?_; (with_reducible refine (cmp_isNaN_uint64.calls a0 false _ A3.out).mono ?_); rintro e w' ⟨rfl, ⟨nd, rfl⟩⟩; refine ⟨_, rfl, ?_⟩) | ((with_reducible refine gate_callee (f := 53) rfl ?_); refine goesL_ (some 10) rfl rfl Try.func53 (by kernel_rfl) rfl #[.int .u64 a1] rfl (by (try simp only [List.map_toArray, List.map_cons, List.map_nil]); first | done | rfl | (simp only [List.length_drop, List.length_take]; rfl)) ?_; (with_reducible refine (cmp_isNaN_uint64.calls a1 true _ A4.out).mono ?_); rintro e w' ⟨rfl, ⟨nd, rfl⟩⟩; refine ⟨_, rfl, ?_⟩))
      go_ret
      exact ⟨by first | rfl | (simp; done) | (simp [*]; done), by repeat (first | exact Drawn0.refl _ | apply Drawn0.step)⟩
    · replace c7 := Bool.eq_false_iff.mpr c7
      subst c7
      have H1 : (if a0 < a1 then (some (-1)) else (if a0 > a1 then (some 1) else (some 0))) = some r := by rw [if_neg (show ¬ (false = true) by decide)] at H; exact H
      clear H
      have H := H1
      clear H1
      by_cases c8 : a0 < a1
      · rw [if_pos c8] at H
        have c8b0 : decide (a0 < a1) = true := decide_eq_true c8
        clear c8
        obtain rfl := Option.some.inj H
        go_enter Try.func48, Try.ntmps48
        go_wp2_with (first | ((with_reducible refine gate_callee (f := 53) rfl ?_); refine goesL_ (some 8) rfl rfl Try.func53 (by kernel_rfl) rfl #[.int .u64 a0] rfl (by (try simp only [List.map_toArray, List.map_cons, List.map_nil]); first | done | rfl | (simp only [List.length_drop, List.length_take]; rfl)) ?_; (with_reducible refine (cmp_isNaN_uint64.calls a0 false _ A3.out).mono ?_); rintro e w' ⟨rfl, ⟨nd, rfl⟩⟩; refine ⟨_, rfl, ?_⟩) | ((with_reducible refine gate_callee (f := 53) rfl ?_); refine goesL_ (some 10) rfl rfl Try.func53 (by kernel_rfl) rfl #[.int .u64 a1] rfl (by (try simp only [List.map_toArray, List.map_cons, List.map_nil]); first | done | rfl | (simp only [List.length_drop, List.length_take]; rfl)) ?_; (with_reducible refine (cmp_isNaN_uint64.calls a1 false _ A4.out).mono ?_); rintro e w' ⟨rfl, ⟨nd, rfl⟩⟩; refine ⟨_, rfl, ?_⟩))
        go_ret
        exact ⟨by first | rfl | (simp; done) | (simp [*]; done), by repeat (first | exact Drawn0.refl _ | apply Drawn0.step)⟩
      · rw [if_neg c8] at H
        have c8b0 : decide (a0 < a1) = false := decide_eq_false c8
        clear c8
        by_cases c9 : a0 > a1
        · rw [if_pos c9] at H
          have c9b0 : decide (a1 < a0) = true := decide_eq_true c9
          clear c9
          obtain rfl := Option.some.inj H
          go_enter Try.func48, Try.ntmps48
          go_wp2_with (first | ((with_reducible refine gate_callee (f := 53) rfl ?_); refine goesL_ (some 8) rfl rfl Try.func53 (by kernel_rfl) rfl #[.int .u64 a0] rfl (by (try simp only [List.map_toArray, List.map_cons, List.map_nil]); first | done | rfl | (simp only [List.length_drop, List.length_take]; rfl)) ?_; (with_reducible refine (cmp_isNaN_uint64.calls a0 false _ A3.out).mono ?_); rintro e w' ⟨rfl, ⟨nd, rfl⟩⟩; refine ⟨_, rfl, ?_⟩) | ((with_reducible refine gate_callee (f := 53) rfl ?_); refine goesL_ (some 10) rfl rfl Try.func53 (by kernel_rfl) rfl #[.int .u64 a1] rfl (by (try simp only [List.map_toArray, List.map_cons, List.map_nil]); first | done | rfl | (simp only [List.length_drop, List.length_take]; rfl)) ?_; (with_reducible refine (cmp_isNaN_uint64.calls a1 false _ A4.out).mono ?_); rintro e w' ⟨rfl, ⟨nd, rfl⟩⟩; refine ⟨_, rfl, ?_⟩))
          go_ret
          exact ⟨by first | rfl | (simp; done) | (simp [*]; done), by repeat (first | exact Drawn0.refl _ | apply Drawn0.step)⟩
        · rw [if_neg c9] at H
          have c9b0 : decide (a1 < a0) = false := decide_eq_false c9
          clear c9
          obtain rfl := Option.some.inj H
          go_enter Try.func48, Try.ntmps48
          go_wp2_with (first | ((with_reducible refine gate_callee (f := 53) rfl ?_); refine goesL_ (some 8) rfl rfl Try.func53 (by kernel_rfl) rfl #[.int .u64 a0] rfl (by (try simp only [List.map_toArray, List.map_cons, List.map_nil]); first | done | rfl | (simp only [List.length_drop, List.length_take]; rfl)) ?_; (with_reducible refine (cmp_isNaN_uint64.calls a0 false _ A3.out).mono ?_); rintro e w' ⟨rfl, ⟨nd, rfl⟩⟩; refine ⟨_, rfl, ?_⟩) | ((with_reducible refine gate_callee (f := 53) rfl ?_); refine goesL_ (some 10) rfl rfl Try.func53 (by kernel_rfl) rfl #[.int .u64 a1] rfl (by (try simp only [List.map_toArray, List.map_cons, List.map_nil]); first | done | rfl | (simp only [List.length_drop, List.length_take]; rfl)) ?_; (with_reducible refine (cmp_isNaN_uint64.calls a1 false _ A4.out).mono ?_); rintro e w' ⟨rfl, ⟨nd, rfl⟩⟩; refine ⟨_, rfl, ?_⟩))
          go_ret
          exact ⟨by first | rfl | (simp; done) | (simp [*]; done), by repeat (first | exact Drawn0.refl _ | apply Drawn0.step)⟩

/-! ### flt_rank: function 49 -/
def flt_rank.f (a0 : Int) : Option (Int) := if (Go.bits .and .u64 a0 9223372036854775808) > 0 then (some (Go.bits .xor .u64 18446744073709551615 a0)) else (some (Go.bits .or .u64 a0 9223372036854775808))
set_option maxHeartbeats 8000000 in
set_option maxRecDepth 100000 in
theorem flt_rank.calls (a0 : Int) (r : Int) (w : World) (h : flt_rank.f a0 = some r) :
    Calls Try.prog 49 #[.int .u64 a0] w fun e w' => e = .returned (.int .u64 r) ∧ Drawn0 w w' := by
  have H : (if (Go.bits .and .u64 a0 9223372036854775808) > 0 then (some (Go.bits .xor .u64 18446744073709551615 a0)) else (some (Go.bits .or .u64 a0 9223372036854775808))) = some r := h
  clear h
  by_cases c2 : (Go.bits .and .u64 a0 9223372036854775808) > 0
  · rw [if_pos c2] at H
    have c2b0 : decide (0 < (Go.bits .and .u64 a0 9223372036854775808)) = true := decide_eq_true c2
    clear c2
    obtain rfl := Option.some.inj H
    go_enter Try.func49, Try.ntmps49
    go_wp2
    go_ret
    exact ⟨by first | rfl | (simp; done) | (simp [*]; done), by repeat (first | exact Drawn0.refl _ | apply Drawn0.step)⟩
  · rw [if_neg c2] at H
    have c2b0 : decide (0 < (Go.bits .and .u64 a0 9223372036854775808)) = false := decide_eq_false c2
    clear c2
    obtain rfl := Option.some.inj H
    go_enter Try.func49, Try.ntmps49
    go_wp2
    go_ret
    exact ⟨by first | rfl | (simp; done) | (simp [*]; done), by repeat (first | exact Drawn0.refl _ | apply Drawn0.step)⟩

/-! ### flt_Order: function 20 -/
def flt_Order.f (a0 : Int) (a1 : Int) : Option (Int) := (flt_rank.f a0).bind fun t107 => ((flt_rank.f a1).bind fun t108 => ((cmp_Compare_uint64.f t107 t108).bind fun t109 => (some t109)))
set_option maxHeartbeats 8000000 in
set_option maxRecDepth 100000 in
theorem flt_Order.calls (a0 : Int) (a1 : Int) (r : Int) (w : World) (h : flt_Order.f a0 a1 = some r) :
    Calls Try.prog 20 #[.int .u64 a0, .int .u64 a1] w fun e w' => e = .returned (.int .i64 r) ∧ Drawn0 w w' := by
  have H : ((flt_rank.f a0).bind fun t107 => ((flt_rank.f a1).bind fun t108 => ((cmp_Compare_uint64.f t107 t108).bind fun t109 => (some t109)))) = some r := h
  clear h
  replace H := Option.bind_eq_some_iff.mp H
  obtain ⟨t107, A30, H⟩ := H
  replace H : ((flt_rank.f a1).bind fun t108 => ((cmp_Compare_uint64.f t107 t108).bind fun t109 => (some t109))) = some r := H
  have A3 := Aside0.mk A30
  clear A30
  replace H := Option.bind_eq_some_iff.mp H
  obtain ⟨t108, A40, H⟩ := H
  replace H : ((cmp_Compare_uint64.f t107 t108).bind fun t109 => (some t109)) = some r := H
  have A4 := Aside0.mk A40
  clear A40
  replace H := Option.bind_eq_some_iff.mp H
  obtain ⟨t109, A50, H⟩ := H
  replace H : (some t109) = some r := H
  have A5 := Aside0.mk A50
  clear A50
  obtain rfl := Option.some.inj H
  go_enter Try.func20, Try.ntmps20
  go_wp2_with (first | ((with_reducible refine gate_callee (f := 49) rfl ?_); refine goesL_ (some 6) rfl rfl Try.func49 (by kernel_rfl) rfl #[.int .u64 a0] rfl (by (try simp only [List.map_toArray, List.map_cons, List.map_nil]); first | done | rfl | (simp only [List.length_drop, List.length_take]; rfl)) ?_; (with_reducible refine (flt_rank.calls a0 t107 _ A3.out).mono ?_); rintro e w' ⟨rfl, ⟨nd, rfl⟩⟩; refine ⟨_, rfl, ?_⟩) | ((with_reducible refine gate_callee (f := 49) rfl ?_); refine goesL_ (some 8) rfl rfl Try.func49 (by kernel_rfl) rfl #[.int .u64 a1] rfl (by (try simp only [List.map_toArray, List.map_cons, List.map_nil]); first | done | rfl | (simp only [List.length_drop, List.length_take]; rfl)) ?_; (with_reducible refine (flt_rank.calls a1 t108 _ A4.out).mono ?_); rintro e w' ⟨rfl, ⟨nd, rfl⟩⟩; refine ⟨_, rfl, ?_⟩) | ((with_reducible refine gate_callee (f := 48) rfl ?_); refine goesL_ (some 9) rfl rfl Try.func48 (by kernel_rfl) rfl #[.int .u64 t107, .int .u64 t108] rfl (by (try simp only [List.map_toArray, List.map_cons, List.map_nil]); first | done | rfl | (simp only [List.length_drop, List.length_take]; rfl)) ?_; (with_reducible refine (cmp_Compare_uint64.calls t107 t108 t109 _ A5.out).mono ?_); rintro e w' ⟨rfl, ⟨nd, rfl⟩⟩; refine ⟨_, rfl, ?_⟩))
  go_ret
  exact ⟨by first | rfl | (simp; done) | (simp [*]; done), by repeat (first | exact Drawn0.refl _ | apply Drawn0.step)⟩

/-! ### flt_nan: function 47 -/
def flt_nan.f (a0 : Int) : Option (Bool) := (flt_size.f a0).bind fun t110 => (some (decide (t110 > 9218868437227405312)))
set_option maxHeartbeats 8000000 in
set_option maxRecDepth 100000 in
theorem flt_nan.calls (a0 : Int) (r : Bool) (w : World) (h : flt_nan.f a0 = some r) :
    Calls Try.prog 47 #[.int .u64 a0] w fun e w' => e = .returned (.bool r) ∧ Drawn0 w w' := by
  have H : ((flt_size.f a0).bind fun t110 => (some (decide (t110 > 9218868437227405312)))) = some r := h
  clear h
  replace H := Option.bind_eq_some_iff.mp H
  obtain ⟨t110, A20, H⟩ := H
  replace H : (some (decide (t110 > 9218868437227405312))) = some r := H
  have A2 := Aside0.mk A20
  clear A20
  obtain rfl := Option.some.inj H
  go_enter Try.func47, Try.ntmps47
  go_wp2_with (first | ((with_reducible refine gate_callee (f := 42) rfl ?_); refine goesL_ (some 4) rfl rfl Try.func42 (by kernel_rfl) rfl #[.int .u64 a0] rfl (by (try simp only [List.map_toArray, List.map_cons, List.map_nil]); first | done | rfl | (simp only [List.length_drop, List.length_take]; rfl)) ?_; (with_reducible refine (flt_size.calls a0 t110 _ A2.out).mono ?_); rintro e w' ⟨rfl, ⟨nd, rfl⟩⟩; refine ⟨_, rfl, ?_⟩))
  go_ret
  exact ⟨by first | rfl | (simp; done) | (simp [*]; done), by repeat (first | exact Drawn0.refl _ | apply Drawn0.step)⟩

/-! ### flt_Equal: function 21 -/
def flt_Equal.f (a0 : Int) (a1 : Int) : Option (Bool) := (flt_nan.f a0).bind fun t111 => (if t111 = true then (some false) else ((flt_nan.f a1).bind fun t112 => (if t112 = true then (some false) else (if a0 = a1 then (some true) else ((flt_size.f (Go.bits .or .u64 a0 a1)).bind fun t113 => (some (t113 == 0)))))))
set_option maxHeartbeats 8000000 in
set_option maxRecDepth 100000 in
theorem flt_Equal.calls (a0 : Int) (a1 : Int) (r : Bool) (w : World) (h : flt_Equal.f a0 a1 = some r) :
    Calls Try.prog 21 #[.int .u64 a0, .int .u64 a1] w fun e w' => e = .returned (.bool r) ∧ Drawn0 w w' := by
  have H : ((flt_nan.f a0).bind fun t111 => (if t111 = true then (some false) else ((flt_nan.f a1).bind fun t112 => (if t112 = true then (some false) else (if a0 = a1 then (some true) else ((flt_size.f (Go.bits .or .u64 a0 a1)).bind fun t113 => (some (t113 == 0)))))))) = some r := h
  clear h
  replace H := Option.bind_eq_some_iff.mp H
  obtain ⟨t111, A30, H⟩ := H
  replace H : (if t111 = true then (some false) else ((flt_nan.f a1).bind fun t112 => (if t112 = true then (some false) else (if a0 = a1 then (some true) else ((flt_size.f (Go.bits .or .u64 a0 a1)).bind fun t113 => (some (t113 == 0))))))) = some r := H
  have A3 := Aside0.mk A30
  clear A30
  by_cases c4 : t111 = true
  · subst c4
    have H1 : (some false) = some r := by rw [if_pos rfl] at H; exact H
    clear H
    have H := H1
    clear H1
    obtain rfl := Option.some.inj H
    go_enter Try.func21, Try.ntmps21
    go_wp2_with (first | ((with_reducible refine gate_callee (f := 47) rfl ?_); refine goesL_ (some 6) rfl rfl Try.func47 (by kernel_rfl) rfl #[.int .u64 a0] rfl (by (try simp only [List.map_toArray, List.map_cons, List.map_nil]); first | done | rfl | (simp only [List.length_drop, List.length_take]; rfl)) ?_; (with_reducible refine (flt_nan.calls a0 true _ A3.out).mono ?_); rintro e w' ⟨rfl, ⟨nd, rfl⟩⟩; refine ⟨_, rfl, ?_⟩))
    go_ret
    exact ⟨by first | rfl | (simp; done) | (simp [*]; done), by repeat (first | exact Drawn0.refl _ | apply Drawn0.step)⟩
  · replace c4 := Bool.eq_false_iff.mpr c4
    subst c4
    have H1 : ((flt_nan.f a1).bind fun t112 => (if t112 = true then (some false) else (if a0 = a1 then (some true) else ((flt_size.f (Go.bits .or .u64 a0 a1)).bind fun t113 => (some (t113 == 0)))))) = some r := by rw [if_neg (show ¬ (false = true) by decide)] at H; exact H
    clear H
    have H := H1
    clear H1
    replace H := Option.bind_eq_some_iff.mp H
    obtain ⟨t112, A50, H⟩ := H
    replace H : (if t112 = true then (some false) else (if a0 = a1 then (some true) else ((flt_size.f (Go.bits .or .u64 a0 a1)).bind fun t113 => (some (t113 == 0))))) = some r := H
    have A5 := Aside0.mk A50
    clear A50
    by_cases c6 : t112 = true
    · subst c6
      have H1 : (some false) = some r := by rw [if_pos rfl] at H; exact H
      clear H
      have H := H1
      clear H1
      obtain rfl := Option.some.inj H
      go_enter Try.func21, Try.ntmps21
      go_wp2_with (first | ((with_reducible refine gate_callee (f := 47) rfl ?_); refine goesL_ (some 6) rfl rfl Try.func47 (by kernel_rfl) rfl #[.int .u64 a0] rfl (by (try simp only [List.map_toArray, List.map_cons, List.map_nil]); first | done | rfl | (simp only [List.length_drop, List.length_take]; rfl)) ?_; (with_reducible refine (flt_nan.calls a0 false _ A3.out).mono ?_); rintro e w' ⟨rfl, ⟨nd, rfl⟩⟩; refine ⟨_, rfl, ?_⟩) | (go_at_call 47; (with_reducible refine (flt_nan.calls a1 true _ A5.out).mono ?_); rintro e w' ⟨rfl, ⟨nd, rfl⟩⟩))
      go_ret
      exact ⟨by first | rfl | (simp; done) | (simp [*]; done), by repeat (first | exact Drawn0.refl _ | apply Drawn0.step)⟩
    · replace c6 := Bool.eq_false_iff.mpr c6
      subst c6
      have H1 : (if a0 = a1 then (some true) else ((flt_size.f (Go.bits .or .u64 a0 a1)).bind fun t113 => (some (t113 == 0)))) = some r := by rw [if_neg (show ¬ (false = true) by decide)] at H; exact H
      clear H
      have H := H1
      clear H1
      by_cases c7 : a0 = a1
      · rw [if_pos c7] at H
        have c7b0 : (a0 == a1) = true := beq_iff_eq.mpr c7
        have c7b1 : (a0 != a1) = false := bne_eq_false_iff_eq.mpr c7
        clear c7
        obtain rfl := Option.some.inj H
        go_enter Try.func21, Try.ntmps21
        go_wp2_with (first | ((with_reducible refine gate_callee (f := 47) rfl ?_); refine goesL_ (some 6) rfl rfl Try.func47 (by kernel_rfl) rfl #[.int .u64 a0] rfl (by (try simp only [List.map_toArray, List.map_cons, List.map_nil]); first | done | rfl | (simp only [List.length_drop, List.length_take]; rfl)) ?_; (with_reducible refine (flt_nan.calls a0 false _ A3.out).mono ?_); rintro e w' ⟨rfl, ⟨nd, rfl⟩⟩; refine ⟨_, rfl, ?_⟩) | (go_at_call 47; (with_reducible refine (flt_nan.calls a1 false _ A5.out).mono ?_); rintro e w' ⟨rfl, ⟨nd, rfl⟩⟩))
        go_ret
        exact ⟨by first | rfl | (simp; done) | (simp [*]; done), by repeat (first | exact Drawn0.refl _ | apply Drawn0.step)⟩
      · rw [if_neg c7] at H
        have c7b0 : (a0 == a1) = false := beq_eq_false_iff_ne.mpr c7
        have c7b1 : (a0 != a1) = true := bne_iff_ne.mpr c7
        replace H := Option.bind_eq_some_iff.mp H
        obtain ⟨t113, A80, H⟩ := H
        replace H : (some (t113 == 0)) = some r := H
        have A8 := Aside0.mk A80
        clear A80
        obtain rfl := Option.some.inj H
        go_enter Try.func21, Try.ntmps21
        go_wp2_with (first | ((with_reducible refine gate_callee (f := 47) rfl ?_); refine goesL_ (some 6) rfl rfl Try.func47 (by kernel_rfl) rfl #[.int .u64 a0] rfl (by (try simp only [List.map_toArray, List.map_cons, List.map_nil]); first | done | rfl | (simp only [List.length_drop, List.length_take]; rfl)) ?_; (with_reducible refine (flt_nan.calls a0 false _ A3.out).mono ?_); rintro e w' ⟨rfl, ⟨nd, rfl⟩⟩; refine ⟨_, rfl, ?_⟩) | (go_at_call 47; (with_reducible refine (flt_nan.calls a1 false _ A5.out).mono ?_); rintro e w' ⟨rfl, ⟨nd, rfl⟩⟩) | (go_at_call 42; (with_reducible refine (flt_size.calls (Go.bits .or .u64 a0 a1) t113 _ A8.out).mono ?_); rintro e w' ⟨rfl, ⟨nd, rfl⟩⟩))
        go_ret
        exact ⟨by first | rfl | (simp; done) | (simp [*]; done), by repeat (first | exact Drawn0.refl _ | apply Drawn0.step)⟩

end Go.Proofs.Ytmljncgglpckcaa.PFltLeast
