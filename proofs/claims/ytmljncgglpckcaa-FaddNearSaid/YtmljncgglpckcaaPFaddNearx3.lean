-- Made by a program of this session, after the guide's print, out of the translation. Lean checks it.
import Derived.Test.YtmljncgglpckcaaPFaddNearx0
import Derived.Test.YtmljncgglpckcaaPFaddNearx1
import Derived.Test.YtmljncgglpckcaaPFaddNearx2
namespace Go.Proofs.Ytmljncgglpckcaa.PFaddNear
open Go.RowKit Go.Proofs.YtmljncgglpckcaaW.PrintWords Go.Proofs.YtmljncgglpckcaaW.PrintLast Go.Proofs.YtmljncgglpckcaaW.PrintMore
attribute [local go_sem] max2_int min2_int max_two min_two max_three min_three max_four min_four   -- for this text's walks alone
set_option linter.unusedVariables false
set_option linter.unusedSimpArgs false

/-! ### hyglaw7_FaddNear: function 12 -/
mutual
def hyglaw7_FaddNear.j0 : Nat → Int → Int → Bool → Option (Bool)
  | 0, _, _, _ => none
  | k + 1, x0, x1, x32 => if x32 = true then ((hyglaw7_first.f k).bind fun t152 => (some t152)) else ((fadd_Add.f k x0 x1).bind fun t153 => (if (wrap64 ((wrap64 (Go.bits .and .u64 (x0 / 4503599627370496) 2047)) - (wrap64 (Go.bits .and .u64 (x1 / 4503599627370496) 2047)))) > 54 then ((hyglaw7_first.f k).bind fun t154 => (if t154 = true then (some (t153 == x0)) else (some false))) else (if (wrap64 ((wrap64 (Go.bits .and .u64 (x0 / 4503599627370496) 2047)) - (wrap64 (Go.bits .and .u64 (x1 / 4503599627370496) 2047)))) = 53 then (if (wrap64 (Go.bits .and .u64 (x1 / 4503599627370496) 2047)) > 0 then (if (Go.bits .and .u64 x1 4503599627370495) = 0 then (hyglaw7_FaddNear.j1 k x0 t153 (decide ((wrap64 (Go.bits .and .u64 (x0 / 4503599627370496) 2047)) > 53))) else (hyglaw7_FaddNear.j1 k x0 t153 false)) else (hyglaw7_FaddNear.j1 k x0 t153 false)) else (hyglaw7_FaddNear.j1 k x0 t153 false))))
def hyglaw7_FaddNear.j1 : Nat → Int → Int → Bool → Option (Bool)
  | 0, _, _, _ => none
  | k + 1, x0, x5, x56 => if x56 = true then ((hyglaw7_first.f k).bind fun t155 => (if t155 = true then (some (x5 == (IntKind.u64.wrap (x0 + (Go.bits .and .u64 x0 1))))) else (some false))) else ((hyglaw7_first.f k).bind fun t156 => (if t156 = true then (if x5 ≥ x0 then (some (decide (x5 ≤ (IntKind.u64.wrap (x0 + 4503599627370496))))) else (some false)) else (some false)))
end
def hyglaw7_FaddNear.f (k : Nat) (a0 : Int) (a1 : Int) : Option (Bool) := (hyglaw7_first.f k).bind fun t148 => (if t148 = true then ((flt_Class.f a0).bind fun t149 => (if t149 = 2 then ((flt_Class.f a1).bind fun t150 => (if t150 > 2 then (hyglaw7_FaddNear.j0 k a0 a1 true) else (if (a0 / 9223372036854775808) = (a1 / 9223372036854775808) then ((flt_Less.f (Go.bits .and .u64 a0 9223372036854775807) (Go.bits .and .u64 a1 9223372036854775807)).bind fun t151 => (hyglaw7_FaddNear.j0 k a0 a1 t151)) else (hyglaw7_FaddNear.j0 k a0 a1 true)))) else (hyglaw7_FaddNear.j0 k a0 a1 true))) else (some false))
theorem hyglaw7_FaddNear.mono_l : ∀ k, (∀ y0 y1 y2, LeO (hyglaw7_FaddNear.j0 k y0 y1 y2) (hyglaw7_FaddNear.j0 (k + 1) y0 y1 y2)) ∧ (∀ y0 y1 y2, LeO (hyglaw7_FaddNear.j1 k y0 y1 y2) (hyglaw7_FaddNear.j1 (k + 1) y0 y1 y2))
  | 0 => ⟨fun _ _ _ r h => by simp [hyglaw7_FaddNear.j0] at h, fun _ _ _ r h => by simp [hyglaw7_FaddNear.j1] at h⟩
  | k + 1 => by
    obtain ⟨ih0, ih1⟩ := hyglaw7_FaddNear.mono_l k
    refine ⟨?_, ?_⟩
    · intro y0 y1 y2
      unfold hyglaw7_FaddNear.j0
      repeat' first
      | (with_reducible exact ih0 _ _ _)
      | (with_reducible exact ih1 _ _ _)
      | (with_reducible exact fadd_Add.mono _ _ _)
      | (with_reducible exact hyglaw7_first.mono _)
      | (with_reducible exact LeO.refl _)
      | (with_reducible exact LeO.none _)
      | (with_reducible refine LeO.ite ?_ ?_)
      | (with_reducible refine LeO.bind ?_ (fun _ => ?_))
      | exact ih0 _ _ _
      | exact ih1 _ _ _
      | exact fadd_Add.mono _ _ _
      | exact hyglaw7_first.mono _
      | exact LeO.none _
      | refine LeO.ite ?_ ?_
      | refine LeO.bind ?_ (fun _ => ?_)
    · intro y0 y1 y2
      unfold hyglaw7_FaddNear.j1
      repeat' first
      | (with_reducible exact ih0 _ _ _)
      | (with_reducible exact ih1 _ _ _)
      | (with_reducible exact fadd_Add.mono _ _ _)
      | (with_reducible exact hyglaw7_first.mono _)
      | (with_reducible exact LeO.refl _)
      | (with_reducible exact LeO.none _)
      | (with_reducible refine LeO.ite ?_ ?_)
      | (with_reducible refine LeO.bind ?_ (fun _ => ?_))
      | exact ih0 _ _ _
      | exact ih1 _ _ _
      | exact fadd_Add.mono _ _ _
      | exact hyglaw7_first.mono _
      | exact LeO.none _
      | refine LeO.ite ?_ ?_
      | refine LeO.bind ?_ (fun _ => ?_)
theorem hyglaw7_FaddNear.mono : ∀ a0 a1 k, LeO (hyglaw7_FaddNear.f k a0 a1) (hyglaw7_FaddNear.f (k + 1) a0 a1) := by
  intro a0 a1 k
  obtain ⟨ih0, ih1⟩ := hyglaw7_FaddNear.mono_l k
  unfold hyglaw7_FaddNear.f
  repeat' first
      | (with_reducible exact ih0 _ _ _)
      | (with_reducible exact ih1 _ _ _)
      | (with_reducible exact fadd_Add.mono _ _ _)
      | (with_reducible exact hyglaw7_first.mono _)
      | (with_reducible exact LeO.refl _)
      | (with_reducible exact LeO.none _)
      | (with_reducible refine LeO.ite ?_ ?_)
      | (with_reducible refine LeO.bind ?_ (fun _ => ?_))
      | exact ih0 _ _ _
      | exact ih1 _ _ _
      | exact fadd_Add.mono _ _ _
      | exact hyglaw7_first.mono _
      | exact LeO.none _
      | refine LeO.ite ?_ ?_
      | refine LeO.bind ?_ (fun _ => ?_)
set_option maxHeartbeats 8000000 in
set_option maxRecDepth 100000 in
theorem hyglaw7_FaddNear.calls (k : Nat) (a0 : Int) (a1 : Int) (r : Bool) (w : World) (h : hyglaw7_FaddNear.f k a0 a1 = some r) :
    Calls Try.prog 12 #[.int .u64 a0, .int .u64 a1] w fun e w' => e = .returned (.bool r) ∧ Below w.heap.size w w' := by
  have HB := Aside0.mk (Below.refl w.heap.size w)
  have H : ((hyglaw7_first.f k).bind fun t148 => (if t148 = true then ((flt_Class.f a0).bind fun t149 => (if t149 = 2 then ((flt_Class.f a1).bind fun t150 => (if t150 > 2 then (hyglaw7_FaddNear.j0 k a0 a1 true) else (if (a0 / 9223372036854775808) = (a1 / 9223372036854775808) then ((flt_Less.f (Go.bits .and .u64 a0 9223372036854775807) (Go.bits .and .u64 a1 9223372036854775807)).bind fun t151 => (hyglaw7_FaddNear.j0 k a0 a1 t151)) else (hyglaw7_FaddNear.j0 k a0 a1 true)))) else (hyglaw7_FaddNear.j0 k a0 a1 true))) else (some false))) = some r := h
  clear h
  replace H := Option.bind_eq_some_iff.mp H
  obtain ⟨t148, A30, H⟩ := H
  replace H : (if t148 = true then ((flt_Class.f a0).bind fun t149 => (if t149 = 2 then ((flt_Class.f a1).bind fun t150 => (if t150 > 2 then (hyglaw7_FaddNear.j0 k a0 a1 true) else (if (a0 / 9223372036854775808) = (a1 / 9223372036854775808) then ((flt_Less.f (Go.bits .and .u64 a0 9223372036854775807) (Go.bits .and .u64 a1 9223372036854775807)).bind fun t151 => (hyglaw7_FaddNear.j0 k a0 a1 t151)) else (hyglaw7_FaddNear.j0 k a0 a1 true)))) else (hyglaw7_FaddNear.j0 k a0 a1 true))) else (some false)) = some r := H
  have A3 := Aside0.mk A30
  clear A30
  by_cases c4 : t148 = true
  · subst c4
    have H1 : ((flt_Class.f a0).bind fun t149 => (if t149 = 2 then ((flt_Class.f a1).bind fun t150 => (if t150 > 2 then (hyglaw7_FaddNear.j0 k a0 a1 true) else (if (a0 / 9223372036854775808) = (a1 / 9223372036854775808) then ((flt_Less.f (Go.bits .and .u64 a0 9223372036854775807) (Go.bits .and .u64 a1 9223372036854775807)).bind fun t151 => (hyglaw7_FaddNear.j0 k a0 a1 t151)) else (hyglaw7_FaddNear.j0 k a0 a1 true)))) else (hyglaw7_FaddNear.j0 k a0 a1 true))) = some r := by rw [if_pos rfl] at H; exact H
    clear H
    have H := H1
    clear H1
    have HC5 := Aside0.mk H
    clear H
    go_enter Try.func12, Try.ntmps12
    go_upto_region 3 with (first | ((with_reducible refine gate_callee (f := 24) rfl ?_); refine goesL_ (some 9) rfl rfl Try.func24 (by kernel_rfl) rfl #[] rfl (by (try simp only [List.map_toArray, List.map_cons, List.map_nil]); first | done | rfl | (simp only [List.length_drop, List.length_take]; rfl)) ?_; (with_reducible refine (hyglaw7_first.calls k  true _ A3.out).mono ?_); rintro e w6 ⟨rfl, hb⟩; refine ⟨_, rfl, ?_⟩; have n0_ := Aside0.mk (below_step (by repeat (first | (with_reducible first | exact HB.out | apply below_alloc | apply pw_below_drewN | apply below_drew1) | exact HB.out)) hb); clear HB; have HB := n0_; clear n0_; (try clear hb); (try clear hb2); (try clear hk); (try clear hi)))
    (try simp only [Act.put, List.setIfInBounds_toArray, List.set_cons_zero, List.set_cons_succ])
    go_cut [32] (fun v32 wc => ∃ (kq : Nat) (x32_4 : Bool), v32 = .bool x32_4 ∧ Aside0 (hyglaw7_FaddNear.j0 kq a0 a1 x32_4 = some r) ∧ Aside0 (kq ≤ k) ∧ Aside0 (Below w.heap.size w wc))
    case first =>
      have H := HC5.out
      clear HC5
      replace H := Option.bind_eq_some_iff.mp H
      obtain ⟨t149, A70, H⟩ := H
      replace H : (if t149 = 2 then ((flt_Class.f a1).bind fun t150 => (if t150 > 2 then (hyglaw7_FaddNear.j0 k a0 a1 true) else (if (a0 / 9223372036854775808) = (a1 / 9223372036854775808) then ((flt_Less.f (Go.bits .and .u64 a0 9223372036854775807) (Go.bits .and .u64 a1 9223372036854775807)).bind fun t151 => (hyglaw7_FaddNear.j0 k a0 a1 t151)) else (hyglaw7_FaddNear.j0 k a0 a1 true)))) else (hyglaw7_FaddNear.j0 k a0 a1 true)) = some r := H
      have A7 := Aside0.mk A70
      clear A70
      by_cases c8 : t149 = 2
      · rw [if_pos c8] at H
        have c8b0 : (t149 == 2) = true := beq_iff_eq.mpr c8
        have c8b1 : (t149 != 2) = false := bne_eq_false_iff_eq.mpr c8
        clear c8
        (first | rw [c8b0] | (simp only [i64_w, i32_w]; rw [c8b0]) | skip)
        replace H := Option.bind_eq_some_iff.mp H
        obtain ⟨t150, A90, H⟩ := H
        replace H : (if t150 > 2 then (hyglaw7_FaddNear.j0 k a0 a1 true) else (if (a0 / 9223372036854775808) = (a1 / 9223372036854775808) then ((flt_Less.f (Go.bits .and .u64 a0 9223372036854775807) (Go.bits .and .u64 a1 9223372036854775807)).bind fun t151 => (hyglaw7_FaddNear.j0 k a0 a1 t151)) else (hyglaw7_FaddNear.j0 k a0 a1 true))) = some r := H
        have A9 := Aside0.mk A90
        clear A90
        by_cases c10 : t150 > 2
        · rw [if_pos c10] at H
          have c10b0 : decide (2 < t150) = true := decide_eq_true c10
          clear c10
          have H' := Aside0.mk H
          clear H
          go_wp2_with (first | ((with_reducible refine gate_callee (f := 22) rfl ?_); refine goesL_ (some 12) rfl rfl Try.func22 (by kernel_rfl) rfl #[.int .u64 a0] rfl (by (try simp only [List.map_toArray, List.map_cons, List.map_nil]); first | done | rfl | (simp only [List.length_drop, List.length_take]; rfl)) ?_; (with_reducible refine (flt_Class.calls a0 t149 _ A7.out).mono ?_); rintro e w' ⟨rfl, ⟨nd, rfl⟩⟩; refine ⟨_, rfl, ?_⟩) | (go_at_call 22; (with_reducible refine (flt_Class.calls a1 t150 _ A9.out).mono ?_); rintro e w' ⟨rfl, ⟨nd, rfl⟩⟩))
          go_meet
          case rel => exact ⟨_, (true), (by first | rfl | (simp; done) | (simp [*]; done)), H', ⟨by first | omega | exact Nat.le_refl _⟩, ⟨by repeat (first | (with_reducible first | exact HB.out | apply below_alloc | apply pw_below_drewN | apply below_drew1) | exact HB.out)⟩⟩
        · rw [if_neg c10] at H
          have c10b0 : decide (2 < t150) = false := decide_eq_false c10
          clear c10
          by_cases c11 : (a0 / 9223372036854775808) = (a1 / 9223372036854775808)
          · rw [if_pos c11] at H
            have c11b0 : ((a0 / 9223372036854775808) == (a1 / 9223372036854775808)) = true := beq_iff_eq.mpr c11
            have c11b1 : ((a0 / 9223372036854775808) != (a1 / 9223372036854775808)) = false := bne_eq_false_iff_eq.mpr c11
            clear c11
            replace H := Option.bind_eq_some_iff.mp H
            obtain ⟨t151, A120, H⟩ := H
            replace H : (hyglaw7_FaddNear.j0 k a0 a1 t151) = some r := H
            have A12 := Aside0.mk A120
            clear A120
            have H' := Aside0.mk H
            clear H
            go_wp2_with (first | ((with_reducible refine gate_callee (f := 22) rfl ?_); refine goesL_ (some 12) rfl rfl Try.func22 (by kernel_rfl) rfl #[.int .u64 a0] rfl (by (try simp only [List.map_toArray, List.map_cons, List.map_nil]); first | done | rfl | (simp only [List.length_drop, List.length_take]; rfl)) ?_; (with_reducible refine (flt_Class.calls a0 t149 _ A7.out).mono ?_); rintro e w' ⟨rfl, ⟨nd, rfl⟩⟩; refine ⟨_, rfl, ?_⟩) | (go_at_call 22; (with_reducible refine (flt_Class.calls a1 t150 _ A9.out).mono ?_); rintro e w' ⟨rfl, ⟨nd, rfl⟩⟩) | (go_at_call 19; (with_reducible refine (flt_Less.calls (Go.bits .and .u64 a0 9223372036854775807) (Go.bits .and .u64 a1 9223372036854775807) t151 _ A12.out).mono ?_); rintro e w' ⟨rfl, ⟨nd, rfl⟩⟩))
            go_meet
            case rel => exact ⟨_, (t151), (by first | rfl | (simp; done) | (simp [*]; done)), H', ⟨by first | omega | exact Nat.le_refl _⟩, ⟨by repeat (first | (with_reducible first | exact HB.out | apply below_alloc | apply pw_below_drewN | apply below_drew1) | exact HB.out)⟩⟩
          · rw [if_neg c11] at H
            have c11b0 : ((a0 / 9223372036854775808) == (a1 / 9223372036854775808)) = false := beq_eq_false_iff_ne.mpr c11
            have c11b1 : ((a0 / 9223372036854775808) != (a1 / 9223372036854775808)) = true := bne_iff_ne.mpr c11
            have H' := Aside0.mk H
            clear H
            go_wp2_with (first | ((with_reducible refine gate_callee (f := 22) rfl ?_); refine goesL_ (some 12) rfl rfl Try.func22 (by kernel_rfl) rfl #[.int .u64 a0] rfl (by (try simp only [List.map_toArray, List.map_cons, List.map_nil]); first | done | rfl | (simp only [List.length_drop, List.length_take]; rfl)) ?_; (with_reducible refine (flt_Class.calls a0 t149 _ A7.out).mono ?_); rintro e w' ⟨rfl, ⟨nd, rfl⟩⟩; refine ⟨_, rfl, ?_⟩) | (go_at_call 22; (with_reducible refine (flt_Class.calls a1 t150 _ A9.out).mono ?_); rintro e w' ⟨rfl, ⟨nd, rfl⟩⟩))
            go_meet
            case rel => exact ⟨_, (true), (by first | rfl | (simp; done) | (simp [*]; done)), H', ⟨by first | omega | exact Nat.le_refl _⟩, ⟨by repeat (first | (with_reducible first | exact HB.out | apply below_alloc | apply pw_below_drewN | apply below_drew1) | exact HB.out)⟩⟩
      · rw [if_neg c8] at H
        have c8b0 : (t149 == 2) = false := beq_eq_false_iff_ne.mpr c8
        have c8b1 : (t149 != 2) = true := bne_iff_ne.mpr c8
        (first | rw [c8b0] | (simp only [i64_w, i32_w]; rw [c8b0]) | skip)
        have H' := Aside0.mk H
        clear H
        go_wp2_with (first | ((with_reducible refine gate_callee (f := 22) rfl ?_); refine goesL_ (some 12) rfl rfl Try.func22 (by kernel_rfl) rfl #[.int .u64 a0] rfl (by (try simp only [List.map_toArray, List.map_cons, List.map_nil]); first | done | rfl | (simp only [List.length_drop, List.length_take]; rfl)) ?_; (with_reducible refine (flt_Class.calls a0 t149 _ A7.out).mono ?_); rintro e w' ⟨rfl, ⟨nd, rfl⟩⟩; refine ⟨_, rfl, ?_⟩))
        go_meet
        case rel => exact ⟨_, (true), (by first | rfl | (simp; done) | (simp [*]; done)), H', ⟨by first | omega | exact Nat.le_refl _⟩, ⟨by repeat (first | (with_reducible first | exact HB.out | apply below_alloc | apply pw_below_drewN | apply below_drew1) | exact HB.out)⟩⟩
    case rest =>
      clear HC5
      try clear c1
      try clear c2
      try clear p2
      try clear c4
      try clear c8
      try clear c8b0
      try clear c8b1
      try clear c10
      try clear c10b0
      try clear c11
      try clear c11b0
      try clear c11b1
      try clear c12
      obtain ⟨kq, x32_4, rfl, HA, HJ4, HB⟩ := hcut
      cases kq with
      | zero => exact absurd HA.out (by simp [hyglaw7_FaddNear.j0])
      | succ kj4 =>
        have H := HA.out
        clear HA
        simp only [hyglaw7_FaddNear.j0] at H
        by_cases c13 : x32_4 = true
        · subst c13
          have H1 : ((hyglaw7_first.f kj4).bind fun t152 => (some t152)) = some r := by rw [if_pos rfl] at H; exact H
          clear H
          have H := H1
          clear H1
          replace H := Option.bind_eq_some_iff.mp H
          obtain ⟨t152, A140, H⟩ := H
          replace H : (some t152) = some r := H
          have A14 := Aside0.mk A140
          clear A140
          obtain rfl := Option.some.inj H
          go_wp2_with (first | ((with_reducible refine gate_callee (f := 24) rfl ?_); refine goesL_ (some 33) rfl rfl Try.func24 (by kernel_rfl) rfl #[] rfl (by (try simp only [List.map_toArray, List.map_cons, List.map_nil]); first | done | rfl | (simp only [List.length_drop, List.length_take]; rfl)) ?_; (with_reducible refine (hyglaw7_first.calls kj4  t152 _ A14.out).mono ?_); rintro e w15 ⟨rfl, hb⟩; refine ⟨_, rfl, ?_⟩; have n0_ := Aside0.mk (below_step (by repeat (first | (with_reducible first | exact HB.out | apply below_alloc | apply pw_below_drewN | apply below_drew1) | exact HB.out)) hb); clear HB; have HB := n0_; clear n0_; (try clear hb); (try clear hb2); (try clear hk); (try clear hi)))
          go_ret
          exact ⟨by first | rfl | (simp [errW_none, errW_some] <;> rfl) | (simp [*, errW_none, errW_some] <;> rfl), by repeat (first | (with_reducible first | exact HB.out | apply below_alloc | apply pw_below_drewN | apply below_drew1) | exact HB.out)⟩
        · replace c13 := Bool.eq_false_iff.mpr c13
          subst c13
          have H1 : ((fadd_Add.f kj4 a0 a1).bind fun t153 => (if (wrap64 ((wrap64 (Go.bits .and .u64 (a0 / 4503599627370496) 2047)) - (wrap64 (Go.bits .and .u64 (a1 / 4503599627370496) 2047)))) > 54 then ((hyglaw7_first.f kj4).bind fun t154 => (if t154 = true then (some (t153 == a0)) else (some false))) else (if (wrap64 ((wrap64 (Go.bits .and .u64 (a0 / 4503599627370496) 2047)) - (wrap64 (Go.bits .and .u64 (a1 / 4503599627370496) 2047)))) = 53 then (if (wrap64 (Go.bits .and .u64 (a1 / 4503599627370496) 2047)) > 0 then (if (Go.bits .and .u64 a1 4503599627370495) = 0 then (hyglaw7_FaddNear.j1 kj4 a0 t153 (decide ((wrap64 (Go.bits .and .u64 (a0 / 4503599627370496) 2047)) > 53))) else (hyglaw7_FaddNear.j1 kj4 a0 t153 false)) else (hyglaw7_FaddNear.j1 kj4 a0 t153 false)) else (hyglaw7_FaddNear.j1 kj4 a0 t153 false)))) = some r := by rw [if_neg (show ¬ (false = true) by decide)] at H; exact H
          clear H
          have H := H1
          clear H1
          replace H := Option.bind_eq_some_iff.mp H
          obtain ⟨t153, A160, H⟩ := H
          replace H : (if (wrap64 ((wrap64 (Go.bits .and .u64 (a0 / 4503599627370496) 2047)) - (wrap64 (Go.bits .and .u64 (a1 / 4503599627370496) 2047)))) > 54 then ((hyglaw7_first.f kj4).bind fun t154 => (if t154 = true then (some (t153 == a0)) else (some false))) else (if (wrap64 ((wrap64 (Go.bits .and .u64 (a0 / 4503599627370496) 2047)) - (wrap64 (Go.bits .and .u64 (a1 / 4503599627370496) 2047)))) = 53 then (if (wrap64 (Go.bits .and .u64 (a1 / 4503599627370496) 2047)) > 0 then (if (Go.bits .and .u64 a1 4503599627370495) = 0 then (hyglaw7_FaddNear.j1 kj4 a0 t153 (decide ((wrap64 (Go.bits .and .u64 (a0 / 4503599627370496) 2047)) > 53))) else (hyglaw7_FaddNear.j1 kj4 a0 t153 false)) else (hyglaw7_FaddNear.j1 kj4 a0 t153 false)) else (hyglaw7_FaddNear.j1 kj4 a0 t153 false))) = some r := H
          have A16 := Aside0.mk A160
          clear A160
          by_cases c17 : (wrap64 ((wrap64 (Go.bits .and .u64 (a0 / 4503599627370496) 2047)) - (wrap64 (Go.bits .and .u64 (a1 / 4503599627370496) 2047)))) > 54
          · rw [if_pos c17] at H
            have c17b0 : decide (54 < (wrap64 ((wrap64 (Go.bits .and .u64 (a0 / 4503599627370496) 2047)) - (wrap64 (Go.bits .and .u64 (a1 / 4503599627370496) 2047))))) = true := decide_eq_true c17
            clear c17
            replace H := Option.bind_eq_some_iff.mp H
            obtain ⟨t154, A180, H⟩ := H
            replace H : (if t154 = true then (some (t153 == a0)) else (some false)) = some r := H
            have A18 := Aside0.mk A180
            clear A180
            by_cases c19 : t154 = true
            · subst c19
              have H1 : (some (t153 == a0)) = some r := by rw [if_pos rfl] at H; exact H
              clear H
              have H := H1
              clear H1
              obtain rfl := Option.some.inj H
              go_wp2_with (first | ((with_reducible refine gate_callee (f := 27) rfl ?_); refine goesL_ (some 36) rfl rfl Try.func27 (by kernel_rfl) rfl #[.int .u64 a0, .int .u64 a1] rfl (by (try simp only [List.map_toArray, List.map_cons, List.map_nil]); first | done | rfl | (simp only [List.length_drop, List.length_take]; rfl)) ?_; (with_reducible refine (fadd_Add.calls kj4 a0 a1 t153 _ A16.out).mono ?_); rintro e w20 ⟨rfl, hb⟩; refine ⟨_, rfl, ?_⟩; have n0_ := Aside0.mk (below_step (by repeat (first | (with_reducible first | exact HB.out | apply below_alloc | apply pw_below_drewN | apply below_drew1) | exact HB.out)) hb); clear HB; have HB := n0_; clear n0_; (try clear hb); (try clear hb2); (try clear hk); (try clear hi)) | ((with_reducible refine gate_callee (f := 24) rfl ?_); refine goesL_ (some 50) rfl rfl Try.func24 (by kernel_rfl) rfl #[] rfl (by (try simp only [List.map_toArray, List.map_cons, List.map_nil]); first | done | rfl | (simp only [List.length_drop, List.length_take]; rfl)) ?_; (with_reducible refine (hyglaw7_first.calls kj4  true _ A18.out).mono ?_); rintro e w21 ⟨rfl, hb⟩; refine ⟨_, rfl, ?_⟩; have n0_ := Aside0.mk (below_step (by repeat (first | (with_reducible first | exact HB.out | apply below_alloc | apply pw_below_drewN | apply below_drew1) | exact HB.out)) hb); clear HB; have HB := n0_; clear n0_; (try clear hb); (try clear hb2); (try clear hk); (try clear hi)))
              go_ret
              exact ⟨by first | rfl | (simp [errW_none, errW_some] <;> rfl) | (simp [*, errW_none, errW_some] <;> rfl), by repeat (first | (with_reducible first | exact HB.out | apply below_alloc | apply pw_below_drewN | apply below_drew1) | exact HB.out)⟩
            · replace c19 := Bool.eq_false_iff.mpr c19
              subst c19
              have H1 : (some false) = some r := by rw [if_neg (show ¬ (false = true) by decide)] at H; exact H
              clear H
              have H := H1
              clear H1
              obtain rfl := Option.some.inj H
              go_wp2_with (first | ((with_reducible refine gate_callee (f := 27) rfl ?_); refine goesL_ (some 36) rfl rfl Try.func27 (by kernel_rfl) rfl #[.int .u64 a0, .int .u64 a1] rfl (by (try simp only [List.map_toArray, List.map_cons, List.map_nil]); first | done | rfl | (simp only [List.length_drop, List.length_take]; rfl)) ?_; (with_reducible refine (fadd_Add.calls kj4 a0 a1 t153 _ A16.out).mono ?_); rintro e w22 ⟨rfl, hb⟩; refine ⟨_, rfl, ?_⟩; have n0_ := Aside0.mk (below_step (by repeat (first | (with_reducible first | exact HB.out | apply below_alloc | apply pw_below_drewN | apply below_drew1) | exact HB.out)) hb); clear HB; have HB := n0_; clear n0_; (try clear hb); (try clear hb2); (try clear hk); (try clear hi)) | ((with_reducible refine gate_callee (f := 24) rfl ?_); refine goesL_ (some 50) rfl rfl Try.func24 (by kernel_rfl) rfl #[] rfl (by (try simp only [List.map_toArray, List.map_cons, List.map_nil]); first | done | rfl | (simp only [List.length_drop, List.length_take]; rfl)) ?_; (with_reducible refine (hyglaw7_first.calls kj4  false _ A18.out).mono ?_); rintro e w23 ⟨rfl, hb⟩; refine ⟨_, rfl, ?_⟩; have n0_ := Aside0.mk (below_step (by repeat (first | (with_reducible first | exact HB.out | apply below_alloc | apply pw_below_drewN | apply below_drew1) | exact HB.out)) hb); clear HB; have HB := n0_; clear n0_; (try clear hb); (try clear hb2); (try clear hk); (try clear hi)))
              go_ret
              exact ⟨by first | rfl | (simp [errW_none, errW_some] <;> rfl) | (simp [*, errW_none, errW_some] <;> rfl), by repeat (first | (with_reducible first | exact HB.out | apply below_alloc | apply pw_below_drewN | apply below_drew1) | exact HB.out)⟩
          · rw [if_neg c17] at H
            have c17b0 : decide (54 < (wrap64 ((wrap64 (Go.bits .and .u64 (a0 / 4503599627370496) 2047)) - (wrap64 (Go.bits .and .u64 (a1 / 4503599627370496) 2047))))) = false := decide_eq_false c17
            clear c17
            have HC24 := Aside0.mk H
            clear H
            go_upto_region 9 with (first | ((with_reducible refine gate_callee (f := 27) rfl ?_); refine goesL_ (some 36) rfl rfl Try.func27 (by kernel_rfl) rfl #[.int .u64 a0, .int .u64 a1] rfl (by (try simp only [List.map_toArray, List.map_cons, List.map_nil]); first | done | rfl | (simp only [List.length_drop, List.length_take]; rfl)) ?_; (with_reducible refine (fadd_Add.calls kj4 a0 a1 t153 _ A16.out).mono ?_); rintro e w25 ⟨rfl, hb⟩; refine ⟨_, rfl, ?_⟩; have n0_ := Aside0.mk (below_step (by repeat (first | (with_reducible first | exact HB.out | apply below_alloc | apply pw_below_drewN | apply below_drew1) | exact HB.out)) hb); clear HB; have HB := n0_; clear n0_; (try clear hb); (try clear hb2); (try clear hk); (try clear hi)))
            (try simp only [Act.put, List.setIfInBounds_toArray, List.set_cons_zero, List.set_cons_succ])
            go_cut [56] (fun v56 wc => ∃ (kq : Nat) (x56_23 : Bool), v56 = .bool x56_23 ∧ Aside0 (hyglaw7_FaddNear.j1 kq a0 t153 x56_23 = some r) ∧ Aside0 (kq ≤ kj4) ∧ Aside0 (Below w.heap.size w wc))
            case first =>
              have H := HC24.out
              clear HC24
              by_cases c26 : (wrap64 ((wrap64 (Go.bits .and .u64 (a0 / 4503599627370496) 2047)) - (wrap64 (Go.bits .and .u64 (a1 / 4503599627370496) 2047)))) = 53
              · rw [if_pos c26] at H
                have c26b0 : ((wrap64 ((wrap64 (Go.bits .and .u64 (a0 / 4503599627370496) 2047)) - (wrap64 (Go.bits .and .u64 (a1 / 4503599627370496) 2047)))) == 53) = true := beq_iff_eq.mpr c26
                have c26b1 : ((wrap64 ((wrap64 (Go.bits .and .u64 (a0 / 4503599627370496) 2047)) - (wrap64 (Go.bits .and .u64 (a1 / 4503599627370496) 2047)))) != 53) = false := bne_eq_false_iff_eq.mpr c26
                clear c26
                (first | rw [c26b0] | (simp only [i64_w, i32_w]; rw [c26b0]) | skip)
                by_cases c27 : (wrap64 (Go.bits .and .u64 (a1 / 4503599627370496) 2047)) > 0
                · rw [if_pos c27] at H
                  have c27b0 : decide (0 < (wrap64 (Go.bits .and .u64 (a1 / 4503599627370496) 2047))) = true := decide_eq_true c27
                  clear c27
                  by_cases c28 : (Go.bits .and .u64 a1 4503599627370495) = 0
                  · rw [if_pos c28] at H
                    have c28b0 : ((Go.bits .and .u64 a1 4503599627370495) == 0) = true := beq_iff_eq.mpr c28
                    have c28b1 : ((Go.bits .and .u64 a1 4503599627370495) != 0) = false := bne_eq_false_iff_eq.mpr c28
                    clear c28
                    have H' := Aside0.mk H
                    clear H
                    go_wp2
                    go_meet
                    case rel => exact ⟨_, (decide ((wrap64 (Go.bits .and .u64 (a0 / 4503599627370496) 2047)) > 53)), (by first | rfl | (simp; done) | (simp [*]; done)), H', ⟨by have := HJ4.out; first | omega | exact Nat.le_refl _⟩, ⟨by repeat (first | (with_reducible first | exact HB.out | apply below_alloc | apply pw_below_drewN | apply below_drew1) | exact HB.out)⟩⟩
                  · rw [if_neg c28] at H
                    have c28b0 : ((Go.bits .and .u64 a1 4503599627370495) == 0) = false := beq_eq_false_iff_ne.mpr c28
                    have c28b1 : ((Go.bits .and .u64 a1 4503599627370495) != 0) = true := bne_iff_ne.mpr c28
                    have H' := Aside0.mk H
                    clear H
                    go_wp2
                    go_meet
                    case rel => exact ⟨_, (false), (by first | rfl | (simp; done) | (simp [*]; done)), H', ⟨by have := HJ4.out; first | omega | exact Nat.le_refl _⟩, ⟨by repeat (first | (with_reducible first | exact HB.out | apply below_alloc | apply pw_below_drewN | apply below_drew1) | exact HB.out)⟩⟩
                · rw [if_neg c27] at H
                  have c27b0 : decide (0 < (wrap64 (Go.bits .and .u64 (a1 / 4503599627370496) 2047))) = false := decide_eq_false c27
                  clear c27
                  have H' := Aside0.mk H
                  clear H
                  go_wp2
                  go_meet
                  case rel => exact ⟨_, (false), (by first | rfl | (simp; done) | (simp [*]; done)), H', ⟨by have := HJ4.out; first | omega | exact Nat.le_refl _⟩, ⟨by repeat (first | (with_reducible first | exact HB.out | apply below_alloc | apply pw_below_drewN | apply below_drew1) | exact HB.out)⟩⟩
              · rw [if_neg c26] at H
                have c26b0 : ((wrap64 ((wrap64 (Go.bits .and .u64 (a0 / 4503599627370496) 2047)) - (wrap64 (Go.bits .and .u64 (a1 / 4503599627370496) 2047)))) == 53) = false := beq_eq_false_iff_ne.mpr c26
                have c26b1 : ((wrap64 ((wrap64 (Go.bits .and .u64 (a0 / 4503599627370496) 2047)) - (wrap64 (Go.bits .and .u64 (a1 / 4503599627370496) 2047)))) != 53) = true := bne_iff_ne.mpr c26
                (first | rw [c26b0] | (simp only [i64_w, i32_w]; rw [c26b0]) | skip)
                have H' := Aside0.mk H
                clear H
                go_wp2
                go_meet
                case rel => exact ⟨_, (false), (by first | rfl | (simp; done) | (simp [*]; done)), H', ⟨by have := HJ4.out; first | omega | exact Nat.le_refl _⟩, ⟨by repeat (first | (with_reducible first | exact HB.out | apply below_alloc | apply pw_below_drewN | apply below_drew1) | exact HB.out)⟩⟩
            case rest =>
              clear HC24
              try clear c1
              try clear c2
              try clear p2
              try clear c4
              try clear p6
              try clear c8
              try clear c8b0
              try clear c8b1
              try clear c10
              try clear c10b0
              try clear c11
              try clear c11b0
              try clear c11b1
              try clear c12
              try clear c13
              try clear c17
              try clear c17b0
              try clear c19
              try clear c22
              try clear c24
              try clear c26
              try clear c26b0
              try clear c26b1
              try clear c27
              try clear c27b0
              try clear c28
              try clear c28b0
              try clear c28b1
              try clear p2
              obtain ⟨kq, x56_23, rfl, HA, HJ23, HB⟩ := hcut
              cases kq with
              | zero => exact absurd HA.out (by simp [hyglaw7_FaddNear.j1])
              | succ kj23 =>
                have H := HA.out
                clear HA
                simp only [hyglaw7_FaddNear.j1] at H
                by_cases c29 : x56_23 = true
                · subst c29
                  have H1 : ((hyglaw7_first.f kj23).bind fun t155 => (if t155 = true then (some (t153 == (IntKind.u64.wrap (a0 + (Go.bits .and .u64 a0 1))))) else (some false))) = some r := by rw [if_pos rfl] at H; exact H
                  clear H
                  have H := H1
                  clear H1
                  replace H := Option.bind_eq_some_iff.mp H
                  obtain ⟨t155, A300, H⟩ := H
                  replace H : (if t155 = true then (some (t153 == (IntKind.u64.wrap (a0 + (Go.bits .and .u64 a0 1))))) else (some false)) = some r := H
                  have A30 := Aside0.mk A300
                  clear A300
                  by_cases c31 : t155 = true
                  · subst c31
                    have H1 : (some (t153 == (IntKind.u64.wrap (a0 + (Go.bits .and .u64 a0 1))))) = some r := by rw [if_pos rfl] at H; exact H
                    clear H
                    have H := H1
                    clear H1
                    obtain rfl := Option.some.inj H
                    go_wp2_with (first | ((with_reducible refine gate_callee (f := 24) rfl ?_); refine goesL_ (some 74) rfl rfl Try.func24 (by kernel_rfl) rfl #[] rfl (by (try simp only [List.map_toArray, List.map_cons, List.map_nil]); first | done | rfl | (simp only [List.length_drop, List.length_take]; rfl)) ?_; (with_reducible refine (hyglaw7_first.calls kj23  true _ A30.out).mono ?_); rintro e w32 ⟨rfl, hb⟩; refine ⟨_, rfl, ?_⟩; have n0_ := Aside0.mk (below_step (by repeat (first | (with_reducible first | exact HB.out | apply below_alloc | apply pw_below_drewN | apply below_drew1) | exact HB.out)) hb); clear HB; have HB := n0_; clear n0_; (try clear hb); (try clear hb2); (try clear hk); (try clear hi)))
                    go_ret
                    exact ⟨by first | rfl | (simp [errW_none, errW_some] <;> rfl) | (simp [*, errW_none, errW_some] <;> rfl), by repeat (first | (with_reducible first | exact HB.out | apply below_alloc | apply pw_below_drewN | apply below_drew1) | exact HB.out)⟩
                  · replace c31 := Bool.eq_false_iff.mpr c31
                    subst c31
                    have H1 : (some false) = some r := by rw [if_neg (show ¬ (false = true) by decide)] at H; exact H
                    clear H
                    have H := H1
                    clear H1
                    obtain rfl := Option.some.inj H
                    go_wp2_with (first | ((with_reducible refine gate_callee (f := 24) rfl ?_); refine goesL_ (some 74) rfl rfl Try.func24 (by kernel_rfl) rfl #[] rfl (by (try simp only [List.map_toArray, List.map_cons, List.map_nil]); first | done | rfl | (simp only [List.length_drop, List.length_take]; rfl)) ?_; (with_reducible refine (hyglaw7_first.calls kj23  false _ A30.out).mono ?_); rintro e w33 ⟨rfl, hb⟩; refine ⟨_, rfl, ?_⟩; have n0_ := Aside0.mk (below_step (by repeat (first | (with_reducible first | exact HB.out | apply below_alloc | apply pw_below_drewN | apply below_drew1) | exact HB.out)) hb); clear HB; have HB := n0_; clear n0_; (try clear hb); (try clear hb2); (try clear hk); (try clear hi)))
                    go_ret
                    exact ⟨by first | rfl | (simp [errW_none, errW_some] <;> rfl) | (simp [*, errW_none, errW_some] <;> rfl), by repeat (first | (with_reducible first | exact HB.out | apply below_alloc | apply pw_below_drewN | apply below_drew1) | exact HB.out)⟩
                · replace c29 := Bool.eq_false_iff.mpr c29
                  subst c29
                  have H1 : ((hyglaw7_first.f kj23).bind fun t156 => (if t156 = true then (if t153 ≥ a0 then (some (decide (t153 ≤ (IntKind.u64.wrap (a0 + 4503599627370496))))) else (some false)) else (some false))) = some r := by rw [if_neg (show ¬ (false = true) by decide)] at H; exact H
                  clear H
                  have H := H1
                  clear H1
                  replace H := Option.bind_eq_some_iff.mp H
                  obtain ⟨t156, A340, H⟩ := H
                  replace H : (if t156 = true then (if t153 ≥ a0 then (some (decide (t153 ≤ (IntKind.u64.wrap (a0 + 4503599627370496))))) else (some false)) else (some false)) = some r := H
                  have A34 := Aside0.mk A340
                  clear A340
                  by_cases c35 : t156 = true
                  · subst c35
                    have H1 : (if t153 ≥ a0 then (some (decide (t153 ≤ (IntKind.u64.wrap (a0 + 4503599627370496))))) else (some false)) = some r := by rw [if_pos rfl] at H; exact H
                    clear H
                    have H := H1
                    clear H1
                    by_cases c36 : t153 ≥ a0
                    · rw [if_pos c36] at H
                      have c36b0 : decide (a0 ≤ t153) = true := decide_eq_true c36
                      clear c36
                      obtain rfl := Option.some.inj H
                      go_wp2_with (first | ((with_reducible refine gate_callee (f := 24) rfl ?_); refine goesL_ (some 85) rfl rfl Try.func24 (by kernel_rfl) rfl #[] rfl (by (try simp only [List.map_toArray, List.map_cons, List.map_nil]); first | done | rfl | (simp only [List.length_drop, List.length_take]; rfl)) ?_; (with_reducible refine (hyglaw7_first.calls kj23  true _ A34.out).mono ?_); rintro e w37 ⟨rfl, hb⟩; refine ⟨_, rfl, ?_⟩; have n0_ := Aside0.mk (below_step (by repeat (first | (with_reducible first | exact HB.out | apply below_alloc | apply pw_below_drewN | apply below_drew1) | exact HB.out)) hb); clear HB; have HB := n0_; clear n0_; (try clear hb); (try clear hb2); (try clear hk); (try clear hi)))
                      go_ret
                      exact ⟨by first | rfl | (simp [errW_none, errW_some] <;> rfl) | (simp [*, errW_none, errW_some] <;> rfl), by repeat (first | (with_reducible first | exact HB.out | apply below_alloc | apply pw_below_drewN | apply below_drew1) | exact HB.out)⟩
                    · rw [if_neg c36] at H
                      have c36b0 : decide (a0 ≤ t153) = false := decide_eq_false c36
                      clear c36
                      obtain rfl := Option.some.inj H
                      go_wp2_with (first | ((with_reducible refine gate_callee (f := 24) rfl ?_); refine goesL_ (some 85) rfl rfl Try.func24 (by kernel_rfl) rfl #[] rfl (by (try simp only [List.map_toArray, List.map_cons, List.map_nil]); first | done | rfl | (simp only [List.length_drop, List.length_take]; rfl)) ?_; (with_reducible refine (hyglaw7_first.calls kj23  true _ A34.out).mono ?_); rintro e w38 ⟨rfl, hb⟩; refine ⟨_, rfl, ?_⟩; have n0_ := Aside0.mk (below_step (by repeat (first | (with_reducible first | exact HB.out | apply below_alloc | apply pw_below_drewN | apply below_drew1) | exact HB.out)) hb); clear HB; have HB := n0_; clear n0_; (try clear hb); (try clear hb2); (try clear hk); (try clear hi)))
                      go_ret
                      exact ⟨by first | rfl | (simp [errW_none, errW_some] <;> rfl) | (simp [*, errW_none, errW_some] <;> rfl), by repeat (first | (with_reducible first | exact HB.out | apply below_alloc | apply pw_below_drewN | apply below_drew1) | exact HB.out)⟩
                  · replace c35 := Bool.eq_false_iff.mpr c35
                    subst c35
                    have H1 : (some false) = some r := by rw [if_neg (show ¬ (false = true) by decide)] at H; exact H
                    clear H
                    have H := H1
                    clear H1
                    obtain rfl := Option.some.inj H
                    go_wp2_with (first | ((with_reducible refine gate_callee (f := 24) rfl ?_); refine goesL_ (some 85) rfl rfl Try.func24 (by kernel_rfl) rfl #[] rfl (by (try simp only [List.map_toArray, List.map_cons, List.map_nil]); first | done | rfl | (simp only [List.length_drop, List.length_take]; rfl)) ?_; (with_reducible refine (hyglaw7_first.calls kj23  false _ A34.out).mono ?_); rintro e w39 ⟨rfl, hb⟩; refine ⟨_, rfl, ?_⟩; have n0_ := Aside0.mk (below_step (by repeat (first | (with_reducible first | exact HB.out | apply below_alloc | apply pw_below_drewN | apply below_drew1) | exact HB.out)) hb); clear HB; have HB := n0_; clear n0_; (try clear hb); (try clear hb2); (try clear hk); (try clear hi)))
                    go_ret
                    exact ⟨by first | rfl | (simp [errW_none, errW_some] <;> rfl) | (simp [*, errW_none, errW_some] <;> rfl), by repeat (first | (with_reducible first | exact HB.out | apply below_alloc | apply pw_below_drewN | apply below_drew1) | exact HB.out)⟩
  · replace c4 := Bool.eq_false_iff.mpr c4
    subst c4
    have H1 : (some false) = some r := by rw [if_neg (show ¬ (false = true) by decide)] at H; exact H
    clear H
    have H := H1
    clear H1
    obtain rfl := Option.some.inj H
    go_enter Try.func12, Try.ntmps12
    go_wp2_with (first | ((with_reducible refine gate_callee (f := 24) rfl ?_); refine goesL_ (some 9) rfl rfl Try.func24 (by kernel_rfl) rfl #[] rfl (by (try simp only [List.map_toArray, List.map_cons, List.map_nil]); first | done | rfl | (simp only [List.length_drop, List.length_take]; rfl)) ?_; (with_reducible refine (hyglaw7_first.calls k  false _ A3.out).mono ?_); rintro e w40 ⟨rfl, hb⟩; refine ⟨_, rfl, ?_⟩; have n0_ := Aside0.mk (below_step (by repeat (first | (with_reducible first | exact HB.out | apply below_alloc | apply pw_below_drewN | apply below_drew1) | exact HB.out)) hb); clear HB; have HB := n0_; clear n0_; (try clear hb); (try clear hb2); (try clear hk); (try clear hi)))
    go_ret
    exact ⟨by first | rfl | (simp [errW_none, errW_some] <;> rfl) | (simp [*, errW_none, errW_some] <;> rfl), by repeat (first | (with_reducible first | exact HB.out | apply below_alloc | apply pw_below_drewN | apply below_drew1) | exact HB.out)⟩

/-- THE ONE PURE STATEMENT of hyglaw7_FaddNear: yours. -/
def hyglaw7_FaddNear.Pure : Prop := ∀ (a0 : Int) (a1 : Int), (Lit.int .u64 a0).wf = true → (Lit.int .u64 a1).wf = true → ∃ k, hyglaw7_FaddNear.f k a0 a1 = some true
theorem hyglaw7_FaddNear.walk (P : hyglaw7_FaddNear.Pure) (a0 : Int) (a1 : Int) (w : World) (w0 : (Lit.int .u64 a0).wf = true) (w1 : (Lit.int .u64 a1).wf = true) :
    Calls Try.prog 12 #[.int .u64 a0, .int .u64 a1] w fun e w' => e = .returned (.bool true) ∧ Below w.heap.size w w' := by
  obtain ⟨k, h⟩ := P a0 a1 w0 w1
  refine (hyglaw7_FaddNear.calls k a0 a1 true w h).mono ?_
  rintro e w' ⟨rfl, hd⟩
  exact ⟨rfl, hd⟩

end Go.Proofs.Ytmljncgglpckcaa.PFaddNear
