-- Made by a program of this session, after the guide's print, out of the translation. Lean checks it.
import Derived.Test.YtmljncgglpckcaaPFaddWholex0
import Derived.Test.YtmljncgglpckcaaPFaddWholex1
import Derived.Test.YtmljncgglpckcaaPFaddWholex2
namespace Go.Proofs.Ytmljncgglpckcaa.PFaddWhole
open Go.RowKit Go.Proofs.YtmljncgglpckcaaW.PrintWords Go.Proofs.YtmljncgglpckcaaW.PrintLast Go.Proofs.YtmljncgglpckcaaW.PrintMore
attribute [local go_sem] max2_int min2_int max_two min_two max_three min_three max_four min_four   -- for this text's walks alone
set_option linter.unusedVariables false
set_option linter.unusedSimpArgs false

/-! ### hyglaw7_FaddWhole: function 13 -/
mutual
def hyglaw7_FaddWhole.j0 : Nat → Int → Int → Int → Bool → Option (Bool)
  | 0, _, _, _, _ => none
  | k + 1, x2, x3, x4, x38 => if x38 = true then (some false) else ((flt_Class.f x2).bind fun t155 => (if t155 > 2 then (hyglaw7_FaddWhole.j1 k x2 x3 x4 true) else ((flt_Class.f x3).bind fun t156 => (if t156 > 2 then (hyglaw7_FaddWhole.j1 k x2 x3 x4 true) else ((flt_Class.f x4).bind fun t157 => (if t157 > 2 then (hyglaw7_FaddWhole.j1 k x2 x3 x4 true) else ((flt_Less.f x2 x3).bind fun t158 => (hyglaw7_FaddWhole.j1 k x2 x3 x4 (!t158)))))))))
def hyglaw7_FaddWhole.j1 : Nat → Int → Int → Int → Bool → Option (Bool)
  | 0, _, _, _, _ => none
  | k + 1, x2, x3, x4, x57 => if x57 = true then ((hyglaw7_first.f k).bind fun t159 => (some t159)) else ((hyglaw7_first.f k).bind fun t160 => (if t160 = true then ((fadd_Add.f k x3 x4).bind fun t161 => ((fadd_Add.f k x2 x4).bind fun t162 => ((flt_Less.f t161 t162).bind fun t163 => (if t163 = true then (some false) else ((fadd_Add.f k x4 x3).bind fun t164 => ((fadd_Add.f k x4 x2).bind fun t165 => ((flt_Less.f t164 t165).bind fun t166 => (some (!t166))))))))) else (some false)))
end
def hyglaw7_FaddWhole.f (k : Nat) (a0 : Int) (a1 : Int) (a2 : Int) (a3 : Int) (a4 : Int) : Option (Bool) := (hyglaw7_first.f k).bind fun t150 => (if t150 = true then (if a0 ≥ (-4503599627370496) then (if a0 ≤ 4503599627370496 then (if a1 ≥ (-4503599627370496) then (if a1 ≤ 4503599627370496 then ((flt_FromInt.f k a0).bind fun t151 => ((flt_FromInt.f k a1).bind fun t152 => ((fadd_Add.f k t151 t152).bind fun t153 => ((flt_FromInt.f k (wrap64 (a0 + a1))).bind fun t154 => (hyglaw7_FaddWhole.j0 k a2 a3 a4 (t153 != t154)))))) else (hyglaw7_FaddWhole.j0 k a2 a3 a4 false)) else (hyglaw7_FaddWhole.j0 k a2 a3 a4 false)) else (hyglaw7_FaddWhole.j0 k a2 a3 a4 false)) else (hyglaw7_FaddWhole.j0 k a2 a3 a4 false)) else (some false))
theorem hyglaw7_FaddWhole.mono_l : ∀ k, (∀ y0 y1 y2 y3, LeO (hyglaw7_FaddWhole.j0 k y0 y1 y2 y3) (hyglaw7_FaddWhole.j0 (k + 1) y0 y1 y2 y3)) ∧ (∀ y0 y1 y2 y3, LeO (hyglaw7_FaddWhole.j1 k y0 y1 y2 y3) (hyglaw7_FaddWhole.j1 (k + 1) y0 y1 y2 y3))
  | 0 => ⟨fun _ _ _ _ r h => by simp [hyglaw7_FaddWhole.j0] at h, fun _ _ _ _ r h => by simp [hyglaw7_FaddWhole.j1] at h⟩
  | k + 1 => by
    obtain ⟨ih0, ih1⟩ := hyglaw7_FaddWhole.mono_l k
    refine ⟨?_, ?_⟩
    · intro y0 y1 y2 y3
      unfold hyglaw7_FaddWhole.j0
      repeat' first
      | (with_reducible exact ih0 _ _ _ _)
      | (with_reducible exact ih1 _ _ _ _)
      | (with_reducible exact fadd_Add.mono _ _ _)
      | (with_reducible exact flt_FromInt.mono _ _)
      | (with_reducible exact hyglaw7_first.mono _)
      | (with_reducible exact LeO.refl _)
      | (with_reducible exact LeO.none _)
      | (with_reducible refine LeO.ite ?_ ?_)
      | (with_reducible refine LeO.bind ?_ (fun _ => ?_))
      | exact ih0 _ _ _ _
      | exact ih1 _ _ _ _
      | exact fadd_Add.mono _ _ _
      | exact flt_FromInt.mono _ _
      | exact hyglaw7_first.mono _
      | exact LeO.none _
      | refine LeO.ite ?_ ?_
      | refine LeO.bind ?_ (fun _ => ?_)
    · intro y0 y1 y2 y3
      unfold hyglaw7_FaddWhole.j1
      repeat' first
      | (with_reducible exact ih0 _ _ _ _)
      | (with_reducible exact ih1 _ _ _ _)
      | (with_reducible exact fadd_Add.mono _ _ _)
      | (with_reducible exact flt_FromInt.mono _ _)
      | (with_reducible exact hyglaw7_first.mono _)
      | (with_reducible exact LeO.refl _)
      | (with_reducible exact LeO.none _)
      | (with_reducible refine LeO.ite ?_ ?_)
      | (with_reducible refine LeO.bind ?_ (fun _ => ?_))
      | exact ih0 _ _ _ _
      | exact ih1 _ _ _ _
      | exact fadd_Add.mono _ _ _
      | exact flt_FromInt.mono _ _
      | exact hyglaw7_first.mono _
      | exact LeO.none _
      | refine LeO.ite ?_ ?_
      | refine LeO.bind ?_ (fun _ => ?_)
theorem hyglaw7_FaddWhole.mono : ∀ a0 a1 a2 a3 a4 k, LeO (hyglaw7_FaddWhole.f k a0 a1 a2 a3 a4) (hyglaw7_FaddWhole.f (k + 1) a0 a1 a2 a3 a4) := by
  intro a0 a1 a2 a3 a4 k
  obtain ⟨ih0, ih1⟩ := hyglaw7_FaddWhole.mono_l k
  unfold hyglaw7_FaddWhole.f
  repeat' first
      | (with_reducible exact ih0 _ _ _ _)
      | (with_reducible exact ih1 _ _ _ _)
      | (with_reducible exact fadd_Add.mono _ _ _)
      | (with_reducible exact flt_FromInt.mono _ _)
      | (with_reducible exact hyglaw7_first.mono _)
      | (with_reducible exact LeO.refl _)
      | (with_reducible exact LeO.none _)
      | (with_reducible refine LeO.ite ?_ ?_)
      | (with_reducible refine LeO.bind ?_ (fun _ => ?_))
      | exact ih0 _ _ _ _
      | exact ih1 _ _ _ _
      | exact fadd_Add.mono _ _ _
      | exact flt_FromInt.mono _ _
      | exact hyglaw7_first.mono _
      | exact LeO.none _
      | refine LeO.ite ?_ ?_
      | refine LeO.bind ?_ (fun _ => ?_)
set_option maxHeartbeats 8000000 in
set_option maxRecDepth 100000 in
theorem hyglaw7_FaddWhole.calls (k : Nat) (a0 : Int) (a1 : Int) (a2 : Int) (a3 : Int) (a4 : Int) (r : Bool) (w : World) (h : hyglaw7_FaddWhole.f k a0 a1 a2 a3 a4 = some r) :
    Calls Try.prog 13 #[.int .i64 a0, .int .i64 a1, .int .u64 a2, .int .u64 a3, .int .u64 a4] w fun e w' => e = .returned (.bool r) ∧ Below w.heap.size w w' := by
  have HB := Aside0.mk (Below.refl w.heap.size w)
  have H : ((hyglaw7_first.f k).bind fun t150 => (if t150 = true then (if a0 ≥ (-4503599627370496) then (if a0 ≤ 4503599627370496 then (if a1 ≥ (-4503599627370496) then (if a1 ≤ 4503599627370496 then ((flt_FromInt.f k a0).bind fun t151 => ((flt_FromInt.f k a1).bind fun t152 => ((fadd_Add.f k t151 t152).bind fun t153 => ((flt_FromInt.f k (wrap64 (a0 + a1))).bind fun t154 => (hyglaw7_FaddWhole.j0 k a2 a3 a4 (t153 != t154)))))) else (hyglaw7_FaddWhole.j0 k a2 a3 a4 false)) else (hyglaw7_FaddWhole.j0 k a2 a3 a4 false)) else (hyglaw7_FaddWhole.j0 k a2 a3 a4 false)) else (hyglaw7_FaddWhole.j0 k a2 a3 a4 false)) else (some false))) = some r := h
  clear h
  replace H := Option.bind_eq_some_iff.mp H
  obtain ⟨t150, A60, H⟩ := H
  replace H : (if t150 = true then (if a0 ≥ (-4503599627370496) then (if a0 ≤ 4503599627370496 then (if a1 ≥ (-4503599627370496) then (if a1 ≤ 4503599627370496 then ((flt_FromInt.f k a0).bind fun t151 => ((flt_FromInt.f k a1).bind fun t152 => ((fadd_Add.f k t151 t152).bind fun t153 => ((flt_FromInt.f k (wrap64 (a0 + a1))).bind fun t154 => (hyglaw7_FaddWhole.j0 k a2 a3 a4 (t153 != t154)))))) else (hyglaw7_FaddWhole.j0 k a2 a3 a4 false)) else (hyglaw7_FaddWhole.j0 k a2 a3 a4 false)) else (hyglaw7_FaddWhole.j0 k a2 a3 a4 false)) else (hyglaw7_FaddWhole.j0 k a2 a3 a4 false)) else (some false)) = some r := H
  have A6 := Aside0.mk A60
  clear A60
  by_cases c7 : t150 = true
  · subst c7
    have H1 : (if a0 ≥ (-4503599627370496) then (if a0 ≤ 4503599627370496 then (if a1 ≥ (-4503599627370496) then (if a1 ≤ 4503599627370496 then ((flt_FromInt.f k a0).bind fun t151 => ((flt_FromInt.f k a1).bind fun t152 => ((fadd_Add.f k t151 t152).bind fun t153 => ((flt_FromInt.f k (wrap64 (a0 + a1))).bind fun t154 => (hyglaw7_FaddWhole.j0 k a2 a3 a4 (t153 != t154)))))) else (hyglaw7_FaddWhole.j0 k a2 a3 a4 false)) else (hyglaw7_FaddWhole.j0 k a2 a3 a4 false)) else (hyglaw7_FaddWhole.j0 k a2 a3 a4 false)) else (hyglaw7_FaddWhole.j0 k a2 a3 a4 false)) = some r := by rw [if_pos rfl] at H; exact H
    clear H
    have H := H1
    clear H1
    have HC8 := Aside0.mk H
    clear H
    go_enter Try.func13, Try.ntmps13
    go_upto_region 3 with (first | ((with_reducible refine gate_callee (f := 24) rfl ?_); refine goesL_ (some 11) rfl rfl Try.func24 (by kernel_rfl) rfl #[] rfl (by (try simp only [List.map_toArray, List.map_cons, List.map_nil]); first | done | rfl | (simp only [List.length_drop, List.length_take]; rfl)) ?_; (with_reducible refine (hyglaw7_first.calls k  true _ A6.out).mono ?_); rintro e w9 ⟨rfl, hb⟩; refine ⟨_, rfl, ?_⟩; have n0_ := Aside0.mk (below_step (by repeat (first | (with_reducible first | exact HB.out | apply below_alloc | apply pw_below_drewN | apply below_drew1) | exact HB.out)) hb); clear HB; have HB := n0_; clear n0_; (try clear hb); (try clear hb2); (try clear hk); (try clear hi)))
    (try simp only [Act.put, List.setIfInBounds_toArray, List.set_cons_zero, List.set_cons_succ])
    go_cut [38] (fun v38 wc => ∃ (kq : Nat) (x38_7 : Bool), v38 = .bool x38_7 ∧ Aside0 (hyglaw7_FaddWhole.j0 kq a2 a3 a4 x38_7 = some r) ∧ Aside0 (kq ≤ k) ∧ Aside0 (Below w.heap.size w wc))
    case first =>
      have H := HC8.out
      clear HC8
      by_cases c10 : a0 ≥ (-4503599627370496)
      · rw [if_pos c10] at H
        have c10b0 : decide ((-4503599627370496) ≤ a0) = true := decide_eq_true c10
        clear c10
        (first | rw [c10b0] | (simp only [i64_w, i32_w]; rw [c10b0]) | skip)
        by_cases c11 : a0 ≤ 4503599627370496
        · rw [if_pos c11] at H
          have c11b0 : decide (a0 ≤ 4503599627370496) = true := decide_eq_true c11
          clear c11
          by_cases c12 : a1 ≥ (-4503599627370496)
          · rw [if_pos c12] at H
            have c12b0 : decide ((-4503599627370496) ≤ a1) = true := decide_eq_true c12
            clear c12
            by_cases c13 : a1 ≤ 4503599627370496
            · rw [if_pos c13] at H
              have c13b0 : decide (a1 ≤ 4503599627370496) = true := decide_eq_true c13
              clear c13
              replace H := Option.bind_eq_some_iff.mp H
              obtain ⟨t151, A140, H⟩ := H
              replace H : ((flt_FromInt.f k a1).bind fun t152 => ((fadd_Add.f k t151 t152).bind fun t153 => ((flt_FromInt.f k (wrap64 (a0 + a1))).bind fun t154 => (hyglaw7_FaddWhole.j0 k a2 a3 a4 (t153 != t154))))) = some r := H
              have A14 := Aside0.mk A140
              clear A140
              replace H := Option.bind_eq_some_iff.mp H
              obtain ⟨t152, A150, H⟩ := H
              replace H : ((fadd_Add.f k t151 t152).bind fun t153 => ((flt_FromInt.f k (wrap64 (a0 + a1))).bind fun t154 => (hyglaw7_FaddWhole.j0 k a2 a3 a4 (t153 != t154)))) = some r := H
              have A15 := Aside0.mk A150
              clear A150
              replace H := Option.bind_eq_some_iff.mp H
              obtain ⟨t153, A160, H⟩ := H
              replace H : ((flt_FromInt.f k (wrap64 (a0 + a1))).bind fun t154 => (hyglaw7_FaddWhole.j0 k a2 a3 a4 (t153 != t154))) = some r := H
              have A16 := Aside0.mk A160
              clear A160
              replace H := Option.bind_eq_some_iff.mp H
              obtain ⟨t154, A170, H⟩ := H
              replace H : (hyglaw7_FaddWhole.j0 k a2 a3 a4 (t153 != t154)) = some r := H
              have A17 := Aside0.mk A170
              clear A170
              have H' := Aside0.mk H
              clear H
              go_wp2_with (first | (go_at_call 17; (with_reducible refine (flt_FromInt.calls k a0 t151 _ A14.out).mono ?_); rintro e w' ⟨rfl, ⟨nd, rfl⟩⟩) | (go_at_call 17; (with_reducible refine (flt_FromInt.calls k a1 t152 _ A15.out).mono ?_); rintro e w' ⟨rfl, ⟨nd, rfl⟩⟩) | (go_at_call 27; (with_reducible refine (fadd_Add.calls k t151 t152 t153 _ A16.out).mono ?_); rintro e w18 ⟨rfl, hb⟩; have n0_ := Aside0.mk (below_step (by repeat (first | (with_reducible first | exact HB.out | apply below_alloc | apply pw_below_drewN | apply below_drew1) | exact HB.out)) hb); clear HB; have HB := n0_; clear n0_; (try clear hb); (try clear hb2); (try clear hk); (try clear hi)) | (go_at_call 17; (with_reducible refine (flt_FromInt.calls k (wrap64 (a0 + a1)) t154 _ A17.out).mono ?_); rintro e w' ⟨rfl, ⟨nd, rfl⟩⟩))
              go_meet
              case rel => exact ⟨_, ((t153 != t154)), (by first | rfl | (simp; done) | (simp [*]; done)), H', ⟨by first | omega | exact Nat.le_refl _⟩, ⟨by repeat (first | (with_reducible first | exact HB.out | apply below_alloc | apply pw_below_drewN | apply below_drew1) | exact HB.out)⟩⟩
            · rw [if_neg c13] at H
              have c13b0 : decide (a1 ≤ 4503599627370496) = false := decide_eq_false c13
              clear c13
              have H' := Aside0.mk H
              clear H
              go_wp2
              go_meet
              case rel => exact ⟨_, (false), (by first | rfl | (simp; done) | (simp [*]; done)), H', ⟨by first | omega | exact Nat.le_refl _⟩, ⟨by repeat (first | (with_reducible first | exact HB.out | apply below_alloc | apply pw_below_drewN | apply below_drew1) | exact HB.out)⟩⟩
          · rw [if_neg c12] at H
            have c12b0 : decide ((-4503599627370496) ≤ a1) = false := decide_eq_false c12
            clear c12
            have H' := Aside0.mk H
            clear H
            go_wp2
            go_meet
            case rel => exact ⟨_, (false), (by first | rfl | (simp; done) | (simp [*]; done)), H', ⟨by first | omega | exact Nat.le_refl _⟩, ⟨by repeat (first | (with_reducible first | exact HB.out | apply below_alloc | apply pw_below_drewN | apply below_drew1) | exact HB.out)⟩⟩
        · rw [if_neg c11] at H
          have c11b0 : decide (a0 ≤ 4503599627370496) = false := decide_eq_false c11
          clear c11
          have H' := Aside0.mk H
          clear H
          go_wp2
          go_meet
          case rel => exact ⟨_, (false), (by first | rfl | (simp; done) | (simp [*]; done)), H', ⟨by first | omega | exact Nat.le_refl _⟩, ⟨by repeat (first | (with_reducible first | exact HB.out | apply below_alloc | apply pw_below_drewN | apply below_drew1) | exact HB.out)⟩⟩
      · rw [if_neg c10] at H
        have c10b0 : decide ((-4503599627370496) ≤ a0) = false := decide_eq_false c10
        clear c10
        (first | rw [c10b0] | (simp only [i64_w, i32_w]; rw [c10b0]) | skip)
        have H' := Aside0.mk H
        clear H
        go_wp2
        go_meet
        case rel => exact ⟨_, (false), (by first | rfl | (simp; done) | (simp [*]; done)), H', ⟨by first | omega | exact Nat.le_refl _⟩, ⟨by repeat (first | (with_reducible first | exact HB.out | apply below_alloc | apply pw_below_drewN | apply below_drew1) | exact HB.out)⟩⟩
    case rest =>
      clear HC8
      try clear c1
      try clear c2
      try clear p2
      try clear p6
      try clear c7
      try clear c10
      try clear c10b0
      try clear c11
      try clear c11b0
      try clear c12
      try clear c12b0
      try clear c13
      try clear c13b0
      obtain ⟨kq, x38_7, rfl, HA, HJ7, HB⟩ := hcut
      cases kq with
      | zero => exact absurd HA.out (by simp [hyglaw7_FaddWhole.j0])
      | succ kj7 =>
        have H := HA.out
        clear HA
        simp only [hyglaw7_FaddWhole.j0] at H
        by_cases c19 : x38_7 = true
        · subst c19
          have H1 : (some false) = some r := by rw [if_pos rfl] at H; exact H
          clear H
          have H := H1
          clear H1
          obtain rfl := Option.some.inj H
          go_wp2
          go_ret
          exact ⟨by first | rfl | (simp [errW_none, errW_some] <;> rfl) | (simp [*, errW_none, errW_some] <;> rfl), by repeat (first | (with_reducible first | exact HB.out | apply below_alloc | apply pw_below_drewN | apply below_drew1) | exact HB.out)⟩
        · replace c19 := Bool.eq_false_iff.mpr c19
          subst c19
          have H1 : ((flt_Class.f a2).bind fun t155 => (if t155 > 2 then (hyglaw7_FaddWhole.j1 kj7 a2 a3 a4 true) else ((flt_Class.f a3).bind fun t156 => (if t156 > 2 then (hyglaw7_FaddWhole.j1 kj7 a2 a3 a4 true) else ((flt_Class.f a4).bind fun t157 => (if t157 > 2 then (hyglaw7_FaddWhole.j1 kj7 a2 a3 a4 true) else ((flt_Less.f a2 a3).bind fun t158 => (hyglaw7_FaddWhole.j1 kj7 a2 a3 a4 (!t158))))))))) = some r := by rw [if_neg (show ¬ (false = true) by decide)] at H; exact H
          clear H
          have H := H1
          clear H1
          have HC20 := Aside0.mk H
          clear H
          go_upto_region 5 with (fail)
          go_cut [57] (fun v57 wc => ∃ (kq : Nat) (x57_19 : Bool), v57 = .bool x57_19 ∧ Aside0 (hyglaw7_FaddWhole.j1 kq a2 a3 a4 x57_19 = some r) ∧ Aside0 (kq ≤ kj7) ∧ Aside0 (Below w.heap.size w wc))
          case first =>
            have H := HC20.out
            clear HC20
            replace H := Option.bind_eq_some_iff.mp H
            obtain ⟨t155, A210, H⟩ := H
            replace H : (if t155 > 2 then (hyglaw7_FaddWhole.j1 kj7 a2 a3 a4 true) else ((flt_Class.f a3).bind fun t156 => (if t156 > 2 then (hyglaw7_FaddWhole.j1 kj7 a2 a3 a4 true) else ((flt_Class.f a4).bind fun t157 => (if t157 > 2 then (hyglaw7_FaddWhole.j1 kj7 a2 a3 a4 true) else ((flt_Less.f a2 a3).bind fun t158 => (hyglaw7_FaddWhole.j1 kj7 a2 a3 a4 (!t158)))))))) = some r := H
            have A21 := Aside0.mk A210
            clear A210
            by_cases c22 : t155 > 2
            · rw [if_pos c22] at H
              have c22b0 : decide (2 < t155) = true := decide_eq_true c22
              clear c22
              (first | rw [c22b0] | (simp only [i64_w, i32_w]; rw [c22b0]) | skip)
              have H' := Aside0.mk H
              clear H
              go_wp2_with (first | ((with_reducible refine gate_callee (f := 22) rfl ?_); refine goesL_ (some 40) rfl rfl Try.func22 (by kernel_rfl) rfl #[.int .u64 a2] rfl (by (try simp only [List.map_toArray, List.map_cons, List.map_nil]); first | done | rfl | (simp only [List.length_drop, List.length_take]; rfl)) ?_; (with_reducible refine (flt_Class.calls a2 t155 _ A21.out).mono ?_); rintro e w' ⟨rfl, ⟨nd, rfl⟩⟩; refine ⟨_, rfl, ?_⟩))
              go_meet
              case rel => exact ⟨_, (true), (by first | rfl | (simp; done) | (simp [*]; done)), H', ⟨by have := HJ7.out; first | omega | exact Nat.le_refl _⟩, ⟨by repeat (first | (with_reducible first | exact HB.out | apply below_alloc | apply pw_below_drewN | apply below_drew1) | exact HB.out)⟩⟩
            · rw [if_neg c22] at H
              have c22b0 : decide (2 < t155) = false := decide_eq_false c22
              clear c22
              (first | rw [c22b0] | (simp only [i64_w, i32_w]; rw [c22b0]) | skip)
              replace H := Option.bind_eq_some_iff.mp H
              obtain ⟨t156, A230, H⟩ := H
              replace H : (if t156 > 2 then (hyglaw7_FaddWhole.j1 kj7 a2 a3 a4 true) else ((flt_Class.f a4).bind fun t157 => (if t157 > 2 then (hyglaw7_FaddWhole.j1 kj7 a2 a3 a4 true) else ((flt_Less.f a2 a3).bind fun t158 => (hyglaw7_FaddWhole.j1 kj7 a2 a3 a4 (!t158)))))) = some r := H
              have A23 := Aside0.mk A230
              clear A230
              by_cases c24 : t156 > 2
              · rw [if_pos c24] at H
                have c24b0 : decide (2 < t156) = true := decide_eq_true c24
                clear c24
                have H' := Aside0.mk H
                clear H
                go_wp2_with (first | ((with_reducible refine gate_callee (f := 22) rfl ?_); refine goesL_ (some 40) rfl rfl Try.func22 (by kernel_rfl) rfl #[.int .u64 a2] rfl (by (try simp only [List.map_toArray, List.map_cons, List.map_nil]); first | done | rfl | (simp only [List.length_drop, List.length_take]; rfl)) ?_; (with_reducible refine (flt_Class.calls a2 t155 _ A21.out).mono ?_); rintro e w' ⟨rfl, ⟨nd, rfl⟩⟩; refine ⟨_, rfl, ?_⟩) | (go_at_call 22; (with_reducible refine (flt_Class.calls a3 t156 _ A23.out).mono ?_); rintro e w' ⟨rfl, ⟨nd, rfl⟩⟩))
                go_meet
                case rel => exact ⟨_, (true), (by first | rfl | (simp; done) | (simp [*]; done)), H', ⟨by have := HJ7.out; first | omega | exact Nat.le_refl _⟩, ⟨by repeat (first | (with_reducible first | exact HB.out | apply below_alloc | apply pw_below_drewN | apply below_drew1) | exact HB.out)⟩⟩
              · rw [if_neg c24] at H
                have c24b0 : decide (2 < t156) = false := decide_eq_false c24
                clear c24
                replace H := Option.bind_eq_some_iff.mp H
                obtain ⟨t157, A250, H⟩ := H
                replace H : (if t157 > 2 then (hyglaw7_FaddWhole.j1 kj7 a2 a3 a4 true) else ((flt_Less.f a2 a3).bind fun t158 => (hyglaw7_FaddWhole.j1 kj7 a2 a3 a4 (!t158)))) = some r := H
                have A25 := Aside0.mk A250
                clear A250
                by_cases c26 : t157 > 2
                · rw [if_pos c26] at H
                  have c26b0 : decide (2 < t157) = true := decide_eq_true c26
                  clear c26
                  have H' := Aside0.mk H
                  clear H
                  go_wp2_with (first | ((with_reducible refine gate_callee (f := 22) rfl ?_); refine goesL_ (some 40) rfl rfl Try.func22 (by kernel_rfl) rfl #[.int .u64 a2] rfl (by (try simp only [List.map_toArray, List.map_cons, List.map_nil]); first | done | rfl | (simp only [List.length_drop, List.length_take]; rfl)) ?_; (with_reducible refine (flt_Class.calls a2 t155 _ A21.out).mono ?_); rintro e w' ⟨rfl, ⟨nd, rfl⟩⟩; refine ⟨_, rfl, ?_⟩) | (go_at_call 22; (with_reducible refine (flt_Class.calls a3 t156 _ A23.out).mono ?_); rintro e w' ⟨rfl, ⟨nd, rfl⟩⟩) | (go_at_call 22; (with_reducible refine (flt_Class.calls a4 t157 _ A25.out).mono ?_); rintro e w' ⟨rfl, ⟨nd, rfl⟩⟩))
                  go_meet
                  case rel => exact ⟨_, (true), (by first | rfl | (simp; done) | (simp [*]; done)), H', ⟨by have := HJ7.out; first | omega | exact Nat.le_refl _⟩, ⟨by repeat (first | (with_reducible first | exact HB.out | apply below_alloc | apply pw_below_drewN | apply below_drew1) | exact HB.out)⟩⟩
                · rw [if_neg c26] at H
                  have c26b0 : decide (2 < t157) = false := decide_eq_false c26
                  clear c26
                  replace H := Option.bind_eq_some_iff.mp H
                  obtain ⟨t158, A270, H⟩ := H
                  replace H : (hyglaw7_FaddWhole.j1 kj7 a2 a3 a4 (!t158)) = some r := H
                  have A27 := Aside0.mk A270
                  clear A270
                  have H' := Aside0.mk H
                  clear H
                  go_wp2_with (first | ((with_reducible refine gate_callee (f := 22) rfl ?_); refine goesL_ (some 40) rfl rfl Try.func22 (by kernel_rfl) rfl #[.int .u64 a2] rfl (by (try simp only [List.map_toArray, List.map_cons, List.map_nil]); first | done | rfl | (simp only [List.length_drop, List.length_take]; rfl)) ?_; (with_reducible refine (flt_Class.calls a2 t155 _ A21.out).mono ?_); rintro e w' ⟨rfl, ⟨nd, rfl⟩⟩; refine ⟨_, rfl, ?_⟩) | (go_at_call 22; (with_reducible refine (flt_Class.calls a3 t156 _ A23.out).mono ?_); rintro e w' ⟨rfl, ⟨nd, rfl⟩⟩) | (go_at_call 22; (with_reducible refine (flt_Class.calls a4 t157 _ A25.out).mono ?_); rintro e w' ⟨rfl, ⟨nd, rfl⟩⟩) | (go_at_call 19; (with_reducible refine (flt_Less.calls a2 a3 t158 _ A27.out).mono ?_); rintro e w' ⟨rfl, ⟨nd, rfl⟩⟩))
                  go_meet
                  case rel => exact ⟨_, (!t158), (by first | rfl | (simp; done) | (simp [*]; done)), H', ⟨by have := HJ7.out; first | omega | exact Nat.le_refl _⟩, ⟨by repeat (first | (with_reducible first | exact HB.out | apply below_alloc | apply pw_below_drewN | apply below_drew1) | exact HB.out)⟩⟩
          case rest =>
            clear HC20
            try clear c1
            try clear c2
            try clear p2
            try clear p6
            try clear c7
            try clear c10
            try clear c10b0
            try clear c11
            try clear c11b0
            try clear c12
            try clear c12b0
            try clear c13
            try clear c13b0
            try clear c19
            try clear c22
            try clear c22b0
            try clear c24
            try clear c24b0
            try clear c26
            try clear c26b0
            try clear p2
            try clear p6
            obtain ⟨kq, x57_19, rfl, HA, HJ19, HB⟩ := hcut
            cases kq with
            | zero => exact absurd HA.out (by simp [hyglaw7_FaddWhole.j1])
            | succ kj19 =>
              have H := HA.out
              clear HA
              simp only [hyglaw7_FaddWhole.j1] at H
              by_cases c28 : x57_19 = true
              · subst c28
                have H1 : ((hyglaw7_first.f kj19).bind fun t159 => (some t159)) = some r := by rw [if_pos rfl] at H; exact H
                clear H
                have H := H1
                clear H1
                replace H := Option.bind_eq_some_iff.mp H
                obtain ⟨t159, A290, H⟩ := H
                replace H : (some t159) = some r := H
                have A29 := Aside0.mk A290
                clear A290
                obtain rfl := Option.some.inj H
                go_wp2_with (first | ((with_reducible refine gate_callee (f := 24) rfl ?_); refine goesL_ (some 58) rfl rfl Try.func24 (by kernel_rfl) rfl #[] rfl (by (try simp only [List.map_toArray, List.map_cons, List.map_nil]); first | done | rfl | (simp only [List.length_drop, List.length_take]; rfl)) ?_; (with_reducible refine (hyglaw7_first.calls kj19  t159 _ A29.out).mono ?_); rintro e w30 ⟨rfl, hb⟩; refine ⟨_, rfl, ?_⟩; have n0_ := Aside0.mk (below_step (by repeat (first | (with_reducible first | exact HB.out | apply below_alloc | apply pw_below_drewN | apply below_drew1) | exact HB.out)) hb); clear HB; have HB := n0_; clear n0_; (try clear hb); (try clear hb2); (try clear hk); (try clear hi)))
                go_ret
                exact ⟨by first | rfl | (simp [errW_none, errW_some] <;> rfl) | (simp [*, errW_none, errW_some] <;> rfl), by repeat (first | (with_reducible first | exact HB.out | apply below_alloc | apply pw_below_drewN | apply below_drew1) | exact HB.out)⟩
              · replace c28 := Bool.eq_false_iff.mpr c28
                subst c28
                have H1 : ((hyglaw7_first.f kj19).bind fun t160 => (if t160 = true then ((fadd_Add.f kj19 a3 a4).bind fun t161 => ((fadd_Add.f kj19 a2 a4).bind fun t162 => ((flt_Less.f t161 t162).bind fun t163 => (if t163 = true then (some false) else ((fadd_Add.f kj19 a4 a3).bind fun t164 => ((fadd_Add.f kj19 a4 a2).bind fun t165 => ((flt_Less.f t164 t165).bind fun t166 => (some (!t166))))))))) else (some false))) = some r := by rw [if_neg (show ¬ (false = true) by decide)] at H; exact H
                clear H
                have H := H1
                clear H1
                replace H := Option.bind_eq_some_iff.mp H
                obtain ⟨t160, A310, H⟩ := H
                replace H : (if t160 = true then ((fadd_Add.f kj19 a3 a4).bind fun t161 => ((fadd_Add.f kj19 a2 a4).bind fun t162 => ((flt_Less.f t161 t162).bind fun t163 => (if t163 = true then (some false) else ((fadd_Add.f kj19 a4 a3).bind fun t164 => ((fadd_Add.f kj19 a4 a2).bind fun t165 => ((flt_Less.f t164 t165).bind fun t166 => (some (!t166))))))))) else (some false)) = some r := H
                have A31 := Aside0.mk A310
                clear A310
                by_cases c32 : t160 = true
                · subst c32
                  have H1 : ((fadd_Add.f kj19 a3 a4).bind fun t161 => ((fadd_Add.f kj19 a2 a4).bind fun t162 => ((flt_Less.f t161 t162).bind fun t163 => (if t163 = true then (some false) else ((fadd_Add.f kj19 a4 a3).bind fun t164 => ((fadd_Add.f kj19 a4 a2).bind fun t165 => ((flt_Less.f t164 t165).bind fun t166 => (some (!t166))))))))) = some r := by rw [if_pos rfl] at H; exact H
                  clear H
                  have H := H1
                  clear H1
                  replace H := Option.bind_eq_some_iff.mp H
                  obtain ⟨t161, A330, H⟩ := H
                  replace H : ((fadd_Add.f kj19 a2 a4).bind fun t162 => ((flt_Less.f t161 t162).bind fun t163 => (if t163 = true then (some false) else ((fadd_Add.f kj19 a4 a3).bind fun t164 => ((fadd_Add.f kj19 a4 a2).bind fun t165 => ((flt_Less.f t164 t165).bind fun t166 => (some (!t166)))))))) = some r := H
                  have A33 := Aside0.mk A330
                  clear A330
                  replace H := Option.bind_eq_some_iff.mp H
                  obtain ⟨t162, A340, H⟩ := H
                  replace H : ((flt_Less.f t161 t162).bind fun t163 => (if t163 = true then (some false) else ((fadd_Add.f kj19 a4 a3).bind fun t164 => ((fadd_Add.f kj19 a4 a2).bind fun t165 => ((flt_Less.f t164 t165).bind fun t166 => (some (!t166))))))) = some r := H
                  have A34 := Aside0.mk A340
                  clear A340
                  replace H := Option.bind_eq_some_iff.mp H
                  obtain ⟨t163, A350, H⟩ := H
                  replace H : (if t163 = true then (some false) else ((fadd_Add.f kj19 a4 a3).bind fun t164 => ((fadd_Add.f kj19 a4 a2).bind fun t165 => ((flt_Less.f t164 t165).bind fun t166 => (some (!t166)))))) = some r := H
                  have A35 := Aside0.mk A350
                  clear A350
                  by_cases c36 : t163 = true
                  · subst c36
                    have H1 : (some false) = some r := by rw [if_pos rfl] at H; exact H
                    clear H
                    have H := H1
                    clear H1
                    obtain rfl := Option.some.inj H
                    go_wp2_with (first | ((with_reducible refine gate_callee (f := 24) rfl ?_); refine goesL_ (some 59) rfl rfl Try.func24 (by kernel_rfl) rfl #[] rfl (by (try simp only [List.map_toArray, List.map_cons, List.map_nil]); first | done | rfl | (simp only [List.length_drop, List.length_take]; rfl)) ?_; (with_reducible refine (hyglaw7_first.calls kj19  true _ A31.out).mono ?_); rintro e w37 ⟨rfl, hb⟩; refine ⟨_, rfl, ?_⟩; have n0_ := Aside0.mk (below_step (by repeat (first | (with_reducible first | exact HB.out | apply below_alloc | apply pw_below_drewN | apply below_drew1) | exact HB.out)) hb); clear HB; have HB := n0_; clear n0_; (try clear hb); (try clear hb2); (try clear hk); (try clear hi)) | (go_at_call 27; (with_reducible refine (fadd_Add.calls kj19 a3 a4 t161 _ A33.out).mono ?_); rintro e w38 ⟨rfl, hb⟩; have n0_ := Aside0.mk (below_step (by repeat (first | (with_reducible first | exact HB.out | apply below_alloc | apply pw_below_drewN | apply below_drew1) | exact HB.out)) hb); clear HB; have HB := n0_; clear n0_; (try clear hb); (try clear hb2); (try clear hk); (try clear hi)) | (go_at_call 27; (with_reducible refine (fadd_Add.calls kj19 a2 a4 t162 _ A34.out).mono ?_); rintro e w39 ⟨rfl, hb⟩; have n0_ := Aside0.mk (below_step (by repeat (first | (with_reducible first | exact HB.out | apply below_alloc | apply pw_below_drewN | apply below_drew1) | exact HB.out)) hb); clear HB; have HB := n0_; clear n0_; (try clear hb); (try clear hb2); (try clear hk); (try clear hi)) | (go_at_call 19; (with_reducible refine (flt_Less.calls t161 t162 true _ A35.out).mono ?_); rintro e w' ⟨rfl, ⟨nd, rfl⟩⟩))
                    go_ret
                    exact ⟨by first | rfl | (simp [errW_none, errW_some] <;> rfl) | (simp [*, errW_none, errW_some] <;> rfl), by repeat (first | (with_reducible first | exact HB.out | apply below_alloc | apply pw_below_drewN | apply below_drew1) | exact HB.out)⟩
                  · replace c36 := Bool.eq_false_iff.mpr c36
                    subst c36
                    have H1 : ((fadd_Add.f kj19 a4 a3).bind fun t164 => ((fadd_Add.f kj19 a4 a2).bind fun t165 => ((flt_Less.f t164 t165).bind fun t166 => (some (!t166))))) = some r := by rw [if_neg (show ¬ (false = true) by decide)] at H; exact H
                    clear H
                    have H := H1
                    clear H1
                    replace H := Option.bind_eq_some_iff.mp H
                    obtain ⟨t164, A400, H⟩ := H
                    replace H : ((fadd_Add.f kj19 a4 a2).bind fun t165 => ((flt_Less.f t164 t165).bind fun t166 => (some (!t166)))) = some r := H
                    have A40 := Aside0.mk A400
                    clear A400
                    replace H := Option.bind_eq_some_iff.mp H
                    obtain ⟨t165, A410, H⟩ := H
                    replace H : ((flt_Less.f t164 t165).bind fun t166 => (some (!t166))) = some r := H
                    have A41 := Aside0.mk A410
                    clear A410
                    replace H := Option.bind_eq_some_iff.mp H
                    obtain ⟨t166, A420, H⟩ := H
                    replace H : (some (!t166)) = some r := H
                    have A42 := Aside0.mk A420
                    clear A420
                    obtain rfl := Option.some.inj H
                    go_wp2_with (first | ((with_reducible refine gate_callee (f := 24) rfl ?_); refine goesL_ (some 59) rfl rfl Try.func24 (by kernel_rfl) rfl #[] rfl (by (try simp only [List.map_toArray, List.map_cons, List.map_nil]); first | done | rfl | (simp only [List.length_drop, List.length_take]; rfl)) ?_; (with_reducible refine (hyglaw7_first.calls kj19  true _ A31.out).mono ?_); rintro e w43 ⟨rfl, hb⟩; refine ⟨_, rfl, ?_⟩; have n0_ := Aside0.mk (below_step (by repeat (first | (with_reducible first | exact HB.out | apply below_alloc | apply pw_below_drewN | apply below_drew1) | exact HB.out)) hb); clear HB; have HB := n0_; clear n0_; (try clear hb); (try clear hb2); (try clear hk); (try clear hi)) | (go_at_call 27; (with_reducible refine (fadd_Add.calls kj19 a3 a4 t161 _ A33.out).mono ?_); rintro e w44 ⟨rfl, hb⟩; have n0_ := Aside0.mk (below_step (by repeat (first | (with_reducible first | exact HB.out | apply below_alloc | apply pw_below_drewN | apply below_drew1) | exact HB.out)) hb); clear HB; have HB := n0_; clear n0_; (try clear hb); (try clear hb2); (try clear hk); (try clear hi)) | (go_at_call 27; (with_reducible refine (fadd_Add.calls kj19 a2 a4 t162 _ A34.out).mono ?_); rintro e w45 ⟨rfl, hb⟩; have n0_ := Aside0.mk (below_step (by repeat (first | (with_reducible first | exact HB.out | apply below_alloc | apply pw_below_drewN | apply below_drew1) | exact HB.out)) hb); clear HB; have HB := n0_; clear n0_; (try clear hb); (try clear hb2); (try clear hk); (try clear hi)) | (go_at_call 19; (with_reducible refine (flt_Less.calls t161 t162 false _ A35.out).mono ?_); rintro e w' ⟨rfl, ⟨nd, rfl⟩⟩) | (go_at_call 27; (with_reducible refine (fadd_Add.calls kj19 a4 a3 t164 _ A40.out).mono ?_); rintro e w46 ⟨rfl, hb⟩; have n0_ := Aside0.mk (below_step (by repeat (first | (with_reducible first | exact HB.out | apply below_alloc | apply pw_below_drewN | apply below_drew1) | exact HB.out)) hb); clear HB; have HB := n0_; clear n0_; (try clear hb); (try clear hb2); (try clear hk); (try clear hi)) | (go_at_call 27; (with_reducible refine (fadd_Add.calls kj19 a4 a2 t165 _ A41.out).mono ?_); rintro e w47 ⟨rfl, hb⟩; have n0_ := Aside0.mk (below_step (by repeat (first | (with_reducible first | exact HB.out | apply below_alloc | apply pw_below_drewN | apply below_drew1) | exact HB.out)) hb); clear HB; have HB := n0_; clear n0_; (try clear hb); (try clear hb2); (try clear hk); (try clear hi)) | (go_at_call 19; (with_reducible refine (flt_Less.calls t164 t165 t166 _ A42.out).mono ?_); rintro e w' ⟨rfl, ⟨nd, rfl⟩⟩))
                    go_ret
                    exact ⟨by first | rfl | (simp [errW_none, errW_some] <;> rfl) | (simp [*, errW_none, errW_some] <;> rfl), by repeat (first | (with_reducible first | exact HB.out | apply below_alloc | apply pw_below_drewN | apply below_drew1) | exact HB.out)⟩
                · replace c32 := Bool.eq_false_iff.mpr c32
                  subst c32
                  have H1 : (some false) = some r := by rw [if_neg (show ¬ (false = true) by decide)] at H; exact H
                  clear H
                  have H := H1
                  clear H1
                  obtain rfl := Option.some.inj H
                  go_wp2_with (first | ((with_reducible refine gate_callee (f := 24) rfl ?_); refine goesL_ (some 59) rfl rfl Try.func24 (by kernel_rfl) rfl #[] rfl (by (try simp only [List.map_toArray, List.map_cons, List.map_nil]); first | done | rfl | (simp only [List.length_drop, List.length_take]; rfl)) ?_; (with_reducible refine (hyglaw7_first.calls kj19  false _ A31.out).mono ?_); rintro e w48 ⟨rfl, hb⟩; refine ⟨_, rfl, ?_⟩; have n0_ := Aside0.mk (below_step (by repeat (first | (with_reducible first | exact HB.out | apply below_alloc | apply pw_below_drewN | apply below_drew1) | exact HB.out)) hb); clear HB; have HB := n0_; clear n0_; (try clear hb); (try clear hb2); (try clear hk); (try clear hi)))
                  go_ret
                  exact ⟨by first | rfl | (simp [errW_none, errW_some] <;> rfl) | (simp [*, errW_none, errW_some] <;> rfl), by repeat (first | (with_reducible first | exact HB.out | apply below_alloc | apply pw_below_drewN | apply below_drew1) | exact HB.out)⟩
  · replace c7 := Bool.eq_false_iff.mpr c7
    subst c7
    have H1 : (some false) = some r := by rw [if_neg (show ¬ (false = true) by decide)] at H; exact H
    clear H
    have H := H1
    clear H1
    obtain rfl := Option.some.inj H
    go_enter Try.func13, Try.ntmps13
    go_wp2_with (first | ((with_reducible refine gate_callee (f := 24) rfl ?_); refine goesL_ (some 11) rfl rfl Try.func24 (by kernel_rfl) rfl #[] rfl (by (try simp only [List.map_toArray, List.map_cons, List.map_nil]); first | done | rfl | (simp only [List.length_drop, List.length_take]; rfl)) ?_; (with_reducible refine (hyglaw7_first.calls k  false _ A6.out).mono ?_); rintro e w49 ⟨rfl, hb⟩; refine ⟨_, rfl, ?_⟩; have n0_ := Aside0.mk (below_step (by repeat (first | (with_reducible first | exact HB.out | apply below_alloc | apply pw_below_drewN | apply below_drew1) | exact HB.out)) hb); clear HB; have HB := n0_; clear n0_; (try clear hb); (try clear hb2); (try clear hk); (try clear hi)))
    go_ret
    exact ⟨by first | rfl | (simp [errW_none, errW_some] <;> rfl) | (simp [*, errW_none, errW_some] <;> rfl), by repeat (first | (with_reducible first | exact HB.out | apply below_alloc | apply pw_below_drewN | apply below_drew1) | exact HB.out)⟩

/-- THE ONE PURE STATEMENT of hyglaw7_FaddWhole: yours. -/
def hyglaw7_FaddWhole.Pure : Prop := ∀ (a0 : Int) (a1 : Int) (a2 : Int) (a3 : Int) (a4 : Int), (Lit.int .i64 a0).wf = true → (Lit.int .i64 a1).wf = true → (Lit.int .u64 a2).wf = true → (Lit.int .u64 a3).wf = true → (Lit.int .u64 a4).wf = true → ∃ k, hyglaw7_FaddWhole.f k a0 a1 a2 a3 a4 = some true
theorem hyglaw7_FaddWhole.walk (P : hyglaw7_FaddWhole.Pure) (a0 : Int) (a1 : Int) (a2 : Int) (a3 : Int) (a4 : Int) (w : World) (w0 : (Lit.int .i64 a0).wf = true) (w1 : (Lit.int .i64 a1).wf = true) (w2 : (Lit.int .u64 a2).wf = true) (w3 : (Lit.int .u64 a3).wf = true) (w4 : (Lit.int .u64 a4).wf = true) :
    Calls Try.prog 13 #[.int .i64 a0, .int .i64 a1, .int .u64 a2, .int .u64 a3, .int .u64 a4] w fun e w' => e = .returned (.bool true) ∧ Below w.heap.size w w' := by
  obtain ⟨k, h⟩ := P a0 a1 a2 a3 a4 w0 w1 w2 w3 w4
  refine (hyglaw7_FaddWhole.calls k a0 a1 a2 a3 a4 true w h).mono ?_
  rintro e w' ⟨rfl, hd⟩
  exact ⟨rfl, hd⟩

end Go.Proofs.Ytmljncgglpckcaa.PFaddWhole
