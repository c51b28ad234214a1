-- Made by a program of this session, after the guide's print, out of the translation. Lean checks it.
import Derived.Test.YtmljncgglpckcaaPFaddTurnsx0
import Derived.Test.YtmljncgglpckcaaPFaddTurnsx1
import Derived.Test.YtmljncgglpckcaaPFaddTurnsx2
namespace Go.Proofs.Ytmljncgglpckcaa.PFaddTurns
open Go.RowKit Go.Proofs.YtmljncgglpckcaaW.PrintWords Go.Proofs.YtmljncgglpckcaaW.PrintLast Go.Proofs.YtmljncgglpckcaaW.PrintMore
attribute [local go_sem] max2_int min2_int max_two min_two max_three min_three max_four min_four   -- for this text's walks alone
set_option linter.unusedVariables false
set_option linter.unusedSimpArgs false

/-! ### hyglaw7_FaddTurns: function 11 -/
mutual
def hyglaw7_FaddTurns.j0 : Nat → Int → Int → Int → Int → Bool → Option (Bool)
  | 0, _, _, _, _, _ => none
  | k + 1, x0, x1, x5, x6, x23 => if x23 = true then ((hyglaw7_first.f k).bind fun t144 => (if t144 = true then ((flt_Class.f x5).bind fun t145 => (if t145 = 4 then ((flt_Class.f x6).bind fun t146 => (if t146 = 4 then (some ((Go.bits .and .u64 (x5 / 2251799813685248) 1) == 1)) else (some false))) else (some false))) else (some false))) else (if x5 = x6 then ((flt_Class.f x5).bind fun t147 => ((flt_Class.f x0).bind fun t148 => (if t148 = 3 then ((flt_Neg.f x0).bind fun t149 => (hyglaw7_FaddTurns.j1 k x0 x1 x5 ((t147 == 4) != (x1 == t149)))) else (hyglaw7_FaddTurns.j1 k x0 x1 x5 ((t147 == 4) != false))))) else (hyglaw7_FaddTurns.j1 k x0 x1 x5 true))
def hyglaw7_FaddTurns.j1 : Nat → Int → Int → Int → Bool → Option (Bool)
  | 0, _, _, _, _ => none
  | k + 1, x0, x1, x5, x58 => if x58 = true then (some false) else (if x0 = 9223372036854775808 then ((fadd_Add.f k x0 9223372036854775808).bind fun t150 => (if t150 = x0 then ((fadd_Sub.f k x0 0).bind fun t151 => (if t151 = x0 then ((flt_Class.f x0).bind fun t152 => (if t152 = 3 then (hyglaw7_FaddTurns.j2 k x0 x1 x5 false) else ((fadd_Sub.f k x0 x0).bind fun t153 => (hyglaw7_FaddTurns.j2 k x0 x1 x5 (t153 != 0))))) else (hyglaw7_FaddTurns.j2 k x0 x1 x5 true))) else (hyglaw7_FaddTurns.j2 k x0 x1 x5 true))) else ((fadd_Add.f k x0 0).bind fun t154 => (if t154 = x0 then ((fadd_Add.f k x0 9223372036854775808).bind fun t155 => (if t155 = x0 then ((fadd_Sub.f k x0 0).bind fun t156 => (if t156 = x0 then ((flt_Class.f x0).bind fun t157 => (if t157 = 3 then (hyglaw7_FaddTurns.j2 k x0 x1 x5 false) else ((fadd_Sub.f k x0 x0).bind fun t158 => (hyglaw7_FaddTurns.j2 k x0 x1 x5 (t158 != 0))))) else (hyglaw7_FaddTurns.j2 k x0 x1 x5 true))) else (hyglaw7_FaddTurns.j2 k x0 x1 x5 true))) else (hyglaw7_FaddTurns.j2 k x0 x1 x5 true))))
def hyglaw7_FaddTurns.j2 : Nat → Int → Int → Int → Bool → Option (Bool)
  | 0, _, _, _, _ => none
  | k + 1, x0, x1, x5, x89 => if x89 = true then (some false) else ((flt_Class.f x5).bind fun t159 => (if t159 = 4 then ((hyglaw7_first.f k).bind fun t160 => (some t160)) else ((flt_Neg.f x0).bind fun t161 => ((flt_Neg.f x1).bind fun t162 => ((fadd_Add.f k t161 t162).bind fun t163 => ((hyglaw7_first.f k).bind fun t164 => (if t164 = true then ((flt_Neg.f x5).bind fun t165 => (if t163 = t165 then ((fadd_Sub.f k x0 x1).bind fun t166 => ((flt_Neg.f x1).bind fun t167 => ((fadd_Add.f k x0 t167).bind fun t168 => (some (t166 == t168))))) else (if x5 = 0 then (if t163 = 0 then ((fadd_Sub.f k x0 x1).bind fun t169 => ((flt_Neg.f x1).bind fun t170 => ((fadd_Add.f k x0 t170).bind fun t171 => (some (t169 == t171))))) else (some false)) else (some false)))) else (some false))))))))
end
def hyglaw7_FaddTurns.f (k : Nat) (a0 : Int) (a1 : Int) : Option (Bool) := (hyglaw7_first.f k).bind fun t139 => (if t139 = true then ((fadd_Add.f k a0 a1).bind fun t140 => ((fadd_Add.f k a1 a0).bind fun t141 => ((flt_Class.f a0).bind fun t142 => (if t142 = 4 then (hyglaw7_FaddTurns.j0 k a0 a1 t140 t141 true) else ((flt_Class.f a1).bind fun t143 => (hyglaw7_FaddTurns.j0 k a0 a1 t140 t141 (t143 == 4))))))) else (some false))
theorem hyglaw7_FaddTurns.mono_l : ∀ k, (∀ y0 y1 y2 y3 y4, LeO (hyglaw7_FaddTurns.j0 k y0 y1 y2 y3 y4) (hyglaw7_FaddTurns.j0 (k + 1) y0 y1 y2 y3 y4)) ∧ (∀ y0 y1 y2 y3, LeO (hyglaw7_FaddTurns.j1 k y0 y1 y2 y3) (hyglaw7_FaddTurns.j1 (k + 1) y0 y1 y2 y3)) ∧ (∀ y0 y1 y2 y3, LeO (hyglaw7_FaddTurns.j2 k y0 y1 y2 y3) (hyglaw7_FaddTurns.j2 (k + 1) y0 y1 y2 y3))
  | 0 => ⟨fun _ _ _ _ _ r h => by simp [hyglaw7_FaddTurns.j0] at h, fun _ _ _ _ r h => by simp [hyglaw7_FaddTurns.j1] at h, fun _ _ _ _ r h => by simp [hyglaw7_FaddTurns.j2] at h⟩
  | k + 1 => by
    obtain ⟨ih0, ih1, ih2⟩ := hyglaw7_FaddTurns.mono_l k
    refine ⟨?_, ?_, ?_⟩
    · intro y0 y1 y2 y3 y4
      unfold hyglaw7_FaddTurns.j0
      repeat' first
      | (with_reducible exact ih0 _ _ _ _ _)
      | (with_reducible exact ih1 _ _ _ _)
      | (with_reducible exact ih2 _ _ _ _)
      | (with_reducible exact fadd_Add.mono _ _ _)
      | (with_reducible exact fadd_Sub.mono _ _ _)
      | (with_reducible exact hyglaw7_first.mono _)
      | (with_reducible exact LeO.refl _)
      | (with_reducible exact LeO.none _)
      | (with_reducible refine LeO.ite ?_ ?_)
      | (with_reducible refine LeO.bind ?_ (fun _ => ?_))
      | exact ih0 _ _ _ _ _
      | exact ih1 _ _ _ _
      | exact ih2 _ _ _ _
      | exact fadd_Add.mono _ _ _
      | exact fadd_Sub.mono _ _ _
      | exact hyglaw7_first.mono _
      | exact LeO.none _
      | refine LeO.ite ?_ ?_
      | refine LeO.bind ?_ (fun _ => ?_)
    · intro y0 y1 y2 y3
      unfold hyglaw7_FaddTurns.j1
      repeat' first
      | (with_reducible exact ih0 _ _ _ _ _)
      | (with_reducible exact ih1 _ _ _ _)
      | (with_reducible exact ih2 _ _ _ _)
      | (with_reducible exact fadd_Add.mono _ _ _)
      | (with_reducible exact fadd_Sub.mono _ _ _)
      | (with_reducible exact hyglaw7_first.mono _)
      | (with_reducible exact LeO.refl _)
      | (with_reducible exact LeO.none _)
      | (with_reducible refine LeO.ite ?_ ?_)
      | (with_reducible refine LeO.bind ?_ (fun _ => ?_))
      | exact ih0 _ _ _ _ _
      | exact ih1 _ _ _ _
      | exact ih2 _ _ _ _
      | exact fadd_Add.mono _ _ _
      | exact fadd_Sub.mono _ _ _
      | exact hyglaw7_first.mono _
      | exact LeO.none _
      | refine LeO.ite ?_ ?_
      | refine LeO.bind ?_ (fun _ => ?_)
    · intro y0 y1 y2 y3
      unfold hyglaw7_FaddTurns.j2
      repeat' first
      | (with_reducible exact ih0 _ _ _ _ _)
      | (with_reducible exact ih1 _ _ _ _)
      | (with_reducible exact ih2 _ _ _ _)
      | (with_reducible exact fadd_Add.mono _ _ _)
      | (with_reducible exact fadd_Sub.mono _ _ _)
      | (with_reducible exact hyglaw7_first.mono _)
      | (with_reducible exact LeO.refl _)
      | (with_reducible exact LeO.none _)
      | (with_reducible refine LeO.ite ?_ ?_)
      | (with_reducible refine LeO.bind ?_ (fun _ => ?_))
      | exact ih0 _ _ _ _ _
      | exact ih1 _ _ _ _
      | exact ih2 _ _ _ _
      | exact fadd_Add.mono _ _ _
      | exact fadd_Sub.mono _ _ _
      | exact hyglaw7_first.mono _
      | exact LeO.none _
      | refine LeO.ite ?_ ?_
      | refine LeO.bind ?_ (fun _ => ?_)
theorem hyglaw7_FaddTurns.mono : ∀ a0 a1 k, LeO (hyglaw7_FaddTurns.f k a0 a1) (hyglaw7_FaddTurns.f (k + 1) a0 a1) := by
  intro a0 a1 k
  obtain ⟨ih0, ih1, ih2⟩ := hyglaw7_FaddTurns.mono_l k
  unfold hyglaw7_FaddTurns.f
  repeat' first
      | (with_reducible exact ih0 _ _ _ _ _)
      | (with_reducible exact ih1 _ _ _ _)
      | (with_reducible exact ih2 _ _ _ _)
      | (with_reducible exact fadd_Add.mono _ _ _)
      | (with_reducible exact fadd_Sub.mono _ _ _)
      | (with_reducible exact hyglaw7_first.mono _)
      | (with_reducible exact LeO.refl _)
      | (with_reducible exact LeO.none _)
      | (with_reducible refine LeO.ite ?_ ?_)
      | (with_reducible refine LeO.bind ?_ (fun _ => ?_))
      | exact ih0 _ _ _ _ _
      | exact ih1 _ _ _ _
      | exact ih2 _ _ _ _
      | exact fadd_Add.mono _ _ _
      | exact fadd_Sub.mono _ _ _
      | exact hyglaw7_first.mono _
      | exact LeO.none _
      | refine LeO.ite ?_ ?_
      | refine LeO.bind ?_ (fun _ => ?_)
set_option maxHeartbeats 8000000 in
set_option maxRecDepth 100000 in
theorem hyglaw7_FaddTurns.calls (k : Nat) (a0 : Int) (a1 : Int) (r : Bool) (w : World) (h : hyglaw7_FaddTurns.f k a0 a1 = some r) :
    Calls Try.prog 11 #[.int .u64 a0, .int .u64 a1] w fun e w' => e = .returned (.bool r) ∧ Below w.heap.size w w' := by
  have HB := Aside0.mk (Below.refl w.heap.size w)
  have H : ((hyglaw7_first.f k).bind fun t139 => (if t139 = true then ((fadd_Add.f k a0 a1).bind fun t140 => ((fadd_Add.f k a1 a0).bind fun t141 => ((flt_Class.f a0).bind fun t142 => (if t142 = 4 then (hyglaw7_FaddTurns.j0 k a0 a1 t140 t141 true) else ((flt_Class.f a1).bind fun t143 => (hyglaw7_FaddTurns.j0 k a0 a1 t140 t141 (t143 == 4))))))) else (some false))) = some r := h
  clear h
  replace H := Option.bind_eq_some_iff.mp H
  obtain ⟨t139, A30, H⟩ := H
  replace H : (if t139 = true then ((fadd_Add.f k a0 a1).bind fun t140 => ((fadd_Add.f k a1 a0).bind fun t141 => ((flt_Class.f a0).bind fun t142 => (if t142 = 4 then (hyglaw7_FaddTurns.j0 k a0 a1 t140 t141 true) else ((flt_Class.f a1).bind fun t143 => (hyglaw7_FaddTurns.j0 k a0 a1 t140 t141 (t143 == 4))))))) else (some false)) = some r := H
  have A3 := Aside0.mk A30
  clear A30
  by_cases c4 : t139 = true
  · subst c4
    have H1 : ((fadd_Add.f k a0 a1).bind fun t140 => ((fadd_Add.f k a1 a0).bind fun t141 => ((flt_Class.f a0).bind fun t142 => (if t142 = 4 then (hyglaw7_FaddTurns.j0 k a0 a1 t140 t141 true) else ((flt_Class.f a1).bind fun t143 => (hyglaw7_FaddTurns.j0 k a0 a1 t140 t141 (t143 == 4))))))) = some r := by rw [if_pos rfl] at H; exact H
    clear H
    have H := H1
    clear H1
    replace H := Option.bind_eq_some_iff.mp H
    obtain ⟨t140, A50, H⟩ := H
    replace H : ((fadd_Add.f k a1 a0).bind fun t141 => ((flt_Class.f a0).bind fun t142 => (if t142 = 4 then (hyglaw7_FaddTurns.j0 k a0 a1 t140 t141 true) else ((flt_Class.f a1).bind fun t143 => (hyglaw7_FaddTurns.j0 k a0 a1 t140 t141 (t143 == 4)))))) = some r := H
    have A5 := Aside0.mk A50
    clear A50
    replace H := Option.bind_eq_some_iff.mp H
    obtain ⟨t141, A60, H⟩ := H
    replace H : ((flt_Class.f a0).bind fun t142 => (if t142 = 4 then (hyglaw7_FaddTurns.j0 k a0 a1 t140 t141 true) else ((flt_Class.f a1).bind fun t143 => (hyglaw7_FaddTurns.j0 k a0 a1 t140 t141 (t143 == 4))))) = some r := H
    have A6 := Aside0.mk A60
    clear A60
    have HC7 := Aside0.mk H
    clear H
    go_enter Try.func11, Try.ntmps11
    go_upto_region 4 with (first | ((with_reducible refine gate_callee (f := 24) rfl ?_); refine goesL_ (some 8) rfl rfl Try.func24 (by kernel_rfl) rfl #[] rfl (by (try simp only [List.map_toArray, List.map_cons, List.map_nil]); first | done | rfl | (simp only [List.length_drop, List.length_take]; rfl)) ?_; (with_reducible refine (hyglaw7_first.calls k  true _ A3.out).mono ?_); rintro e w8 ⟨rfl, hb⟩; refine ⟨_, rfl, ?_⟩; have n0_ := Aside0.mk (below_step (by repeat (first | (with_reducible first | exact HB.out | apply below_alloc | apply pw_below_drewN | apply below_drew1) | exact HB.out)) hb); clear HB; have HB := n0_; clear n0_; (try clear hb); (try clear hb2); (try clear hk); (try clear hi)) | ((with_reducible refine gate_callee (f := 27) rfl ?_); refine goesL_ (some 12) rfl rfl Try.func27 (by kernel_rfl) rfl #[.int .u64 a0, .int .u64 a1] rfl (by (try simp only [List.map_toArray, List.map_cons, List.map_nil]); first | done | rfl | (simp only [List.length_drop, List.length_take]; rfl)) ?_; (with_reducible refine (fadd_Add.calls k a0 a1 t140 _ A5.out).mono ?_); rintro e w9 ⟨rfl, hb⟩; refine ⟨_, rfl, ?_⟩; have n0_ := Aside0.mk (below_step (by repeat (first | (with_reducible first | exact HB.out | apply below_alloc | apply pw_below_drewN | apply below_drew1) | exact HB.out)) hb); clear HB; have HB := n0_; clear n0_; (try clear hb); (try clear hb2); (try clear hk); (try clear hi)) | ((with_reducible refine gate_callee (f := 27) rfl ?_); refine goesL_ (some 15) rfl rfl Try.func27 (by kernel_rfl) rfl #[.int .u64 a1, .int .u64 a0] rfl (by (try simp only [List.map_toArray, List.map_cons, List.map_nil]); first | done | rfl | (simp only [List.length_drop, List.length_take]; rfl)) ?_; (with_reducible refine (fadd_Add.calls k a1 a0 t141 _ A6.out).mono ?_); rintro e w10 ⟨rfl, hb⟩; refine ⟨_, rfl, ?_⟩; have n0_ := Aside0.mk (below_step (by repeat (first | (with_reducible first | exact HB.out | apply below_alloc | apply pw_below_drewN | apply below_drew1) | exact HB.out)) hb); clear HB; have HB := n0_; clear n0_; (try clear hb); (try clear hb2); (try clear hk); (try clear hi)))
    (try simp only [Act.put, List.setIfInBounds_toArray, List.set_cons_zero, List.set_cons_succ])
    go_cut [23] (fun v23 wc => ∃ (kq : Nat) (x23_6 : Bool), v23 = .bool x23_6 ∧ Aside0 (hyglaw7_FaddTurns.j0 kq a0 a1 t140 t141 x23_6 = some r) ∧ Aside0 (kq ≤ k) ∧ Aside0 (Below w.heap.size w wc))
    case first =>
      have H := HC7.out
      clear HC7
      replace H := Option.bind_eq_some_iff.mp H
      obtain ⟨t142, A110, H⟩ := H
      replace H : (if t142 = 4 then (hyglaw7_FaddTurns.j0 k a0 a1 t140 t141 true) else ((flt_Class.f a1).bind fun t143 => (hyglaw7_FaddTurns.j0 k a0 a1 t140 t141 (t143 == 4)))) = some r := H
      have A11 := Aside0.mk A110
      clear A110
      by_cases c12 : t142 = 4
      · rw [if_pos c12] at H
        have c12b0 : (t142 == 4) = true := beq_iff_eq.mpr c12
        have c12b1 : (t142 != 4) = false := bne_eq_false_iff_eq.mpr c12
        clear c12
        (first | rw [c12b0] | (simp only [i64_w, i32_w]; rw [c12b0]) | skip)
        have H' := Aside0.mk H
        clear H
        go_wp2_with (first | ((with_reducible refine gate_callee (f := 22) rfl ?_); refine goesL_ (some 17) rfl rfl Try.func22 (by kernel_rfl) rfl #[.int .u64 a0] rfl (by (try simp only [List.map_toArray, List.map_cons, List.map_nil]); first | done | rfl | (simp only [List.length_drop, List.length_take]; rfl)) ?_; (with_reducible refine (flt_Class.calls a0 t142 _ A11.out).mono ?_); rintro e w' ⟨rfl, ⟨nd, rfl⟩⟩; refine ⟨_, rfl, ?_⟩))
        go_meet
        case rel => exact ⟨_, (true), (by first | rfl | (simp; done) | (simp [*]; done)), H', ⟨by first | omega | exact Nat.le_refl _⟩, ⟨by repeat (first | (with_reducible first | exact HB.out | apply below_alloc | apply pw_below_drewN | apply below_drew1) | exact HB.out)⟩⟩
      · rw [if_neg c12] at H
        have c12b0 : (t142 == 4) = false := beq_eq_false_iff_ne.mpr c12
        have c12b1 : (t142 != 4) = true := bne_iff_ne.mpr c12
        (first | rw [c12b0] | (simp only [i64_w, i32_w]; rw [c12b0]) | skip)
        replace H := Option.bind_eq_some_iff.mp H
        obtain ⟨t143, A130, H⟩ := H
        replace H : (hyglaw7_FaddTurns.j0 k a0 a1 t140 t141 (t143 == 4)) = some r := H
        have A13 := Aside0.mk A130
        clear A130
        have H' := Aside0.mk H
        clear H
        go_wp2_with (first | ((with_reducible refine gate_callee (f := 22) rfl ?_); refine goesL_ (some 17) rfl rfl Try.func22 (by kernel_rfl) rfl #[.int .u64 a0] rfl (by (try simp only [List.map_toArray, List.map_cons, List.map_nil]); first | done | rfl | (simp only [List.length_drop, List.length_take]; rfl)) ?_; (with_reducible refine (flt_Class.calls a0 t142 _ A11.out).mono ?_); rintro e w' ⟨rfl, ⟨nd, rfl⟩⟩; refine ⟨_, rfl, ?_⟩) | (go_at_call 22; (with_reducible refine (flt_Class.calls a1 t143 _ A13.out).mono ?_); rintro e w' ⟨rfl, ⟨nd, rfl⟩⟩))
        go_meet
        case rel => exact ⟨_, ((t143 == 4)), (by first | rfl | (simp; done) | (simp [*]; done)), H', ⟨by first | omega | exact Nat.le_refl _⟩, ⟨by repeat (first | (with_reducible first | exact HB.out | apply below_alloc | apply pw_below_drewN | apply below_drew1) | exact HB.out)⟩⟩
    case rest =>
      clear HC7
      try clear c1
      try clear c2
      try clear p2
      try clear c4
      try clear c11
      try clear c12
      try clear c12b0
      try clear c12b1
      obtain ⟨kq, x23_6, rfl, HA, HJ6, HB⟩ := hcut
      cases kq with
      | zero => exact absurd HA.out (by simp [hyglaw7_FaddTurns.j0])
      | succ kj6 =>
        have H := HA.out
        clear HA
        simp only [hyglaw7_FaddTurns.j0] at H
        by_cases c14 : x23_6 = true
        · subst c14
          have H1 : ((hyglaw7_first.f kj6).bind fun t144 => (if t144 = true then ((flt_Class.f t140).bind fun t145 => (if t145 = 4 then ((flt_Class.f t141).bind fun t146 => (if t146 = 4 then (some ((Go.bits .and .u64 (t140 / 2251799813685248) 1) == 1)) else (some false))) else (some false))) else (some false))) = some r := by rw [if_pos rfl] at H; exact H
          clear H
          have H := H1
          clear H1
          replace H := Option.bind_eq_some_iff.mp H
          obtain ⟨t144, A150, H⟩ := H
          replace H : (if t144 = true then ((flt_Class.f t140).bind fun t145 => (if t145 = 4 then ((flt_Class.f t141).bind fun t146 => (if t146 = 4 then (some ((Go.bits .and .u64 (t140 / 2251799813685248) 1) == 1)) else (some false))) else (some false))) else (some false)) = some r := H
          have A15 := Aside0.mk A150
          clear A150
          by_cases c16 : t144 = true
          · subst c16
            have H1 : ((flt_Class.f t140).bind fun t145 => (if t145 = 4 then ((flt_Class.f t141).bind fun t146 => (if t146 = 4 then (some ((Go.bits .and .u64 (t140 / 2251799813685248) 1) == 1)) else (some false))) else (some false))) = some r := by rw [if_pos rfl] at H; exact H
            clear H
            have H := H1
            clear H1
            replace H := Option.bind_eq_some_iff.mp H
            obtain ⟨t145, A170, H⟩ := H
            replace H : (if t145 = 4 then ((flt_Class.f t141).bind fun t146 => (if t146 = 4 then (some ((Go.bits .and .u64 (t140 / 2251799813685248) 1) == 1)) else (some false))) else (some false)) = some r := H
            have A17 := Aside0.mk A170
            clear A170
            by_cases c18 : t145 = 4
            · rw [if_pos c18] at H
              have c18b0 : (t145 == 4) = true := beq_iff_eq.mpr c18
              have c18b1 : (t145 != 4) = false := bne_eq_false_iff_eq.mpr c18
              clear c18
              replace H := Option.bind_eq_some_iff.mp H
              obtain ⟨t146, A190, H⟩ := H
              replace H : (if t146 = 4 then (some ((Go.bits .and .u64 (t140 / 2251799813685248) 1) == 1)) else (some false)) = some r := H
              have A19 := Aside0.mk A190
              clear A190
              by_cases c20 : t146 = 4
              · rw [if_pos c20] at H
                have c20b0 : (t146 == 4) = true := beq_iff_eq.mpr c20
                have c20b1 : (t146 != 4) = false := bne_eq_false_iff_eq.mpr c20
                clear c20
                obtain rfl := Option.some.inj H
                go_wp2_with (first | ((with_reducible refine gate_callee (f := 24) rfl ?_); refine goesL_ (some 24) rfl rfl Try.func24 (by kernel_rfl) rfl #[] rfl (by (try simp only [List.map_toArray, List.map_cons, List.map_nil]); first | done | rfl | (simp only [List.length_drop, List.length_take]; rfl)) ?_; (with_reducible refine (hyglaw7_first.calls kj6  true _ A15.out).mono ?_); rintro e w21 ⟨rfl, hb⟩; refine ⟨_, rfl, ?_⟩; have n0_ := Aside0.mk (below_step (by repeat (first | (with_reducible first | exact HB.out | apply below_alloc | apply pw_below_drewN | apply below_drew1) | exact HB.out)) hb); clear HB; have HB := n0_; clear n0_; (try clear hb); (try clear hb2); (try clear hk); (try clear hi)) | (go_at_call 22; (with_reducible refine (flt_Class.calls t140 t145 _ A17.out).mono ?_); rintro e w' ⟨rfl, ⟨nd, rfl⟩⟩) | (go_at_call 22; (with_reducible refine (flt_Class.calls t141 t146 _ A19.out).mono ?_); rintro e w' ⟨rfl, ⟨nd, rfl⟩⟩))
                go_ret
                exact ⟨by first | rfl | (simp [errW_none, errW_some] <;> rfl) | (simp [*, errW_none, errW_some] <;> rfl), by repeat (first | (with_reducible first | exact HB.out | apply below_alloc | apply pw_below_drewN | apply below_drew1) | exact HB.out)⟩
              · rw [if_neg c20] at H
                have c20b0 : (t146 == 4) = false := beq_eq_false_iff_ne.mpr c20
                have c20b1 : (t146 != 4) = true := bne_iff_ne.mpr c20
                obtain rfl := Option.some.inj H
                go_wp2_with (first | ((with_reducible refine gate_callee (f := 24) rfl ?_); refine goesL_ (some 24) rfl rfl Try.func24 (by kernel_rfl) rfl #[] rfl (by (try simp only [List.map_toArray, List.map_cons, List.map_nil]); first | done | rfl | (simp only [List.length_drop, List.length_take]; rfl)) ?_; (with_reducible refine (hyglaw7_first.calls kj6  true _ A15.out).mono ?_); rintro e w22 ⟨rfl, hb⟩; refine ⟨_, rfl, ?_⟩; have n0_ := Aside0.mk (below_step (by repeat (first | (with_reducible first | exact HB.out | apply below_alloc | apply pw_below_drewN | apply below_drew1) | exact HB.out)) hb); clear HB; have HB := n0_; clear n0_; (try clear hb); (try clear hb2); (try clear hk); (try clear hi)) | (go_at_call 22; (with_reducible refine (flt_Class.calls t140 t145 _ A17.out).mono ?_); rintro e w' ⟨rfl, ⟨nd, rfl⟩⟩) | (go_at_call 22; (with_reducible refine (flt_Class.calls t141 t146 _ A19.out).mono ?_); rintro e w' ⟨rfl, ⟨nd, rfl⟩⟩))
                go_ret
                exact ⟨by first | rfl | (simp [errW_none, errW_some] <;> rfl) | (simp [*, errW_none, errW_some] <;> rfl), by repeat (first | (with_reducible first | exact HB.out | apply below_alloc | apply pw_below_drewN | apply below_drew1) | exact HB.out)⟩
            · rw [if_neg c18] at H
              have c18b0 : (t145 == 4) = false := beq_eq_false_iff_ne.mpr c18
              have c18b1 : (t145 != 4) = true := bne_iff_ne.mpr c18
              obtain rfl := Option.some.inj H
              go_wp2_with (first | ((with_reducible refine gate_callee (f := 24) rfl ?_); refine goesL_ (some 24) rfl rfl Try.func24 (by kernel_rfl) rfl #[] rfl (by (try simp only [List.map_toArray, List.map_cons, List.map_nil]); first | done | rfl | (simp only [List.length_drop, List.length_take]; rfl)) ?_; (with_reducible refine (hyglaw7_first.calls kj6  true _ A15.out).mono ?_); rintro e w23 ⟨rfl, hb⟩; refine ⟨_, rfl, ?_⟩; have n0_ := Aside0.mk (below_step (by repeat (first | (with_reducible first | exact HB.out | apply below_alloc | apply pw_below_drewN | apply below_drew1) | exact HB.out)) hb); clear HB; have HB := n0_; clear n0_; (try clear hb); (try clear hb2); (try clear hk); (try clear hi)) | (go_at_call 22; (with_reducible refine (flt_Class.calls t140 t145 _ A17.out).mono ?_); rintro e w' ⟨rfl, ⟨nd, rfl⟩⟩))
              go_ret
              exact ⟨by first | rfl | (simp [errW_none, errW_some] <;> rfl) | (simp [*, errW_none, errW_some] <;> rfl), by repeat (first | (with_reducible first | exact HB.out | apply below_alloc | apply pw_below_drewN | apply below_drew1) | exact HB.out)⟩
          · replace c16 := Bool.eq_false_iff.mpr c16
            subst c16
            have H1 : (some false) = some r := by rw [if_neg (show ¬ (false = true) by decide)] at H; exact H
            clear H
            have H := H1
            clear H1
            obtain rfl := Option.some.inj H
            go_wp2_with (first | ((with_reducible refine gate_callee (f := 24) rfl ?_); refine goesL_ (some 24) rfl rfl Try.func24 (by kernel_rfl) rfl #[] rfl (by (try simp only [List.map_toArray, List.map_cons, List.map_nil]); first | done | rfl | (simp only [List.length_drop, List.length_take]; rfl)) ?_; (with_reducible refine (hyglaw7_first.calls kj6  false _ A15.out).mono ?_); rintro e w24 ⟨rfl, hb⟩; refine ⟨_, rfl, ?_⟩; have n0_ := Aside0.mk (below_step (by repeat (first | (with_reducible first | exact HB.out | apply below_alloc | apply pw_below_drewN | apply below_drew1) | exact HB.out)) hb); clear HB; have HB := n0_; clear n0_; (try clear hb); (try clear hb2); (try clear hk); (try clear hi)))
            go_ret
            exact ⟨by first | rfl | (simp [errW_none, errW_some] <;> rfl) | (simp [*, errW_none, errW_some] <;> rfl), by repeat (first | (with_reducible first | exact HB.out | apply below_alloc | apply pw_below_drewN | apply below_drew1) | exact HB.out)⟩
        · replace c14 := Bool.eq_false_iff.mpr c14
          subst c14
          have H1 : (if t140 = t141 then ((flt_Class.f t140).bind fun t147 => ((flt_Class.f a0).bind fun t148 => (if t148 = 3 then ((flt_Neg.f a0).bind fun t149 => (hyglaw7_FaddTurns.j1 kj6 a0 a1 t140 ((t147 == 4) != (a1 == t149)))) else (hyglaw7_FaddTurns.j1 kj6 a0 a1 t140 ((t147 == 4) != false))))) else (hyglaw7_FaddTurns.j1 kj6 a0 a1 t140 true)) = some r := by rw [if_neg (show ¬ (false = true) by decide)] at H; exact H
          clear H
          have H := H1
          clear H1
          have HC25 := Aside0.mk H
          clear H
          go_upto_region 6 with (fail)
          go_cut [58] (fun v58 wc => ∃ (kq : Nat) (x58_24 : Bool), v58 = .bool x58_24 ∧ Aside0 (hyglaw7_FaddTurns.j1 kq a0 a1 t140 x58_24 = some r) ∧ Aside0 (kq ≤ kj6) ∧ Aside0 (Below w.heap.size w wc))
          case first =>
            have H := HC25.out
            clear HC25
            by_cases c26 : t140 = t141
            · rw [if_pos c26] at H
              have c26b0 : (t140 == t141) = true := beq_iff_eq.mpr c26
              have c26b1 : (t140 != t141) = false := bne_eq_false_iff_eq.mpr c26
              clear c26
              (first | rw [c26b0] | (simp only [i64_w, i32_w]; rw [c26b0]) | skip)
              replace H := Option.bind_eq_some_iff.mp H
              obtain ⟨t147, A270, H⟩ := H
              replace H : ((flt_Class.f a0).bind fun t148 => (if t148 = 3 then ((flt_Neg.f a0).bind fun t149 => (hyglaw7_FaddTurns.j1 kj6 a0 a1 t140 ((t147 == 4) != (a1 == t149)))) else (hyglaw7_FaddTurns.j1 kj6 a0 a1 t140 ((t147 == 4) != false)))) = some r := H
              have A27 := Aside0.mk A270
              clear A270
              replace H := Option.bind_eq_some_iff.mp H
              obtain ⟨t148, A280, H⟩ := H
              replace H : (if t148 = 3 then ((flt_Neg.f a0).bind fun t149 => (hyglaw7_FaddTurns.j1 kj6 a0 a1 t140 ((t147 == 4) != (a1 == t149)))) else (hyglaw7_FaddTurns.j1 kj6 a0 a1 t140 ((t147 == 4) != false))) = some r := H
              have A28 := Aside0.mk A280
              clear A280
              by_cases c29 : t148 = 3
              · rw [if_pos c29] at H
                have c29b0 : (t148 == 3) = true := beq_iff_eq.mpr c29
                have c29b1 : (t148 != 3) = false := bne_eq_false_iff_eq.mpr c29
                clear c29
                replace H := Option.bind_eq_some_iff.mp H
                obtain ⟨t149, A300, H⟩ := H
                replace H : (hyglaw7_FaddTurns.j1 kj6 a0 a1 t140 ((t147 == 4) != (a1 == t149))) = some r := H
                have A30 := Aside0.mk A300
                clear A300
                have H' := Aside0.mk H
                clear H
                go_wp2_with (first | (go_at_call 22; (with_reducible refine (flt_Class.calls t140 t147 _ A27.out).mono ?_); rintro e w' ⟨rfl, ⟨nd, rfl⟩⟩) | (go_at_call 22; (with_reducible refine (flt_Class.calls a0 t148 _ A28.out).mono ?_); rintro e w' ⟨rfl, ⟨nd, rfl⟩⟩) | (go_at_call 23; (with_reducible refine (flt_Neg.calls a0 t149 _ A30.out).mono ?_); rintro e w' ⟨rfl, ⟨nd, rfl⟩⟩))
                go_meet
                case rel => exact ⟨_, (((t147 == 4) != (a1 == t149))), (by first | rfl | (simp; done) | (simp [*]; done)), H', ⟨by have := HJ6.out; first | omega | exact Nat.le_refl _⟩, ⟨by repeat (first | (with_reducible first | exact HB.out | apply below_alloc | apply pw_below_drewN | apply below_drew1) | exact HB.out)⟩⟩
              · rw [if_neg c29] at H
                have c29b0 : (t148 == 3) = false := beq_eq_false_iff_ne.mpr c29
                have c29b1 : (t148 != 3) = true := bne_iff_ne.mpr c29
                have H' := Aside0.mk H
                clear H
                go_wp2_with (first | (go_at_call 22; (with_reducible refine (flt_Class.calls t140 t147 _ A27.out).mono ?_); rintro e w' ⟨rfl, ⟨nd, rfl⟩⟩) | (go_at_call 22; (with_reducible refine (flt_Class.calls a0 t148 _ A28.out).mono ?_); rintro e w' ⟨rfl, ⟨nd, rfl⟩⟩))
                go_meet
                case rel => exact ⟨_, (((t147 == 4) != false)), (by first | rfl | (simp; done) | (simp [*]; done)), H', ⟨by have := HJ6.out; first | omega | exact Nat.le_refl _⟩, ⟨by repeat (first | (with_reducible first | exact HB.out | apply below_alloc | apply pw_below_drewN | apply below_drew1) | exact HB.out)⟩⟩
            · rw [if_neg c26] at H
              have c26b0 : (t140 == t141) = false := beq_eq_false_iff_ne.mpr c26
              have c26b1 : (t140 != t141) = true := bne_iff_ne.mpr c26
              (first | rw [c26b0] | (simp only [i64_w, i32_w]; rw [c26b0]) | skip)
              have H' := Aside0.mk H
              clear H
              go_wp2
              go_meet
              case rel => exact ⟨_, (true), (by first | rfl | (simp; done) | (simp [*]; done)), H', ⟨by have := HJ6.out; first | omega | exact Nat.le_refl _⟩, ⟨by repeat (first | (with_reducible first | exact HB.out | apply below_alloc | apply pw_below_drewN | apply below_drew1) | exact HB.out)⟩⟩
          case rest =>
            clear HC25
            try clear c1
            try clear c2
            try clear p2
            try clear c4
            try clear c11
            try clear c12
            try clear c12b0
            try clear c12b1
            try clear c14
            try clear c16
            try clear c18
            try clear c18b0
            try clear c18b1
            try clear c20
            try clear c20b0
            try clear c20b1
            try clear c22
            try clear c24
            try clear c26
            try clear c26b0
            try clear c26b1
            try clear c27
            try clear c29
            try clear c29b0
            try clear c29b1
            try clear p2
            obtain ⟨kq, x58_24, rfl, HA, HJ24, HB⟩ := hcut
            cases kq with
            | zero => exact absurd HA.out (by simp [hyglaw7_FaddTurns.j1])
            | succ kj24 =>
              have H := HA.out
              clear HA
              simp only [hyglaw7_FaddTurns.j1] at H
              by_cases c31 : x58_24 = true
              · subst c31
                have H1 : (some false) = some r := by rw [if_pos rfl] at H; exact H
                clear H
                have H := H1
                clear H1
                obtain rfl := Option.some.inj H
                go_wp2
                go_ret
                exact ⟨by first | rfl | (simp [errW_none, errW_some] <;> rfl) | (simp [*, errW_none, errW_some] <;> rfl), by repeat (first | (with_reducible first | exact HB.out | apply below_alloc | apply pw_below_drewN | apply below_drew1) | exact HB.out)⟩
              · replace c31 := Bool.eq_false_iff.mpr c31
                subst c31
                have H1 : (if a0 = 9223372036854775808 then ((fadd_Add.f kj24 a0 9223372036854775808).bind fun t150 => (if t150 = a0 then ((fadd_Sub.f kj24 a0 0).bind fun t151 => (if t151 = a0 then ((flt_Class.f a0).bind fun t152 => (if t152 = 3 then (hyglaw7_FaddTurns.j2 kj24 a0 a1 t140 false) else ((fadd_Sub.f kj24 a0 a0).bind fun t153 => (hyglaw7_FaddTurns.j2 kj24 a0 a1 t140 (t153 != 0))))) else (hyglaw7_FaddTurns.j2 kj24 a0 a1 t140 true))) else (hyglaw7_FaddTurns.j2 kj24 a0 a1 t140 true))) else ((fadd_Add.f kj24 a0 0).bind fun t154 => (if t154 = a0 then ((fadd_Add.f kj24 a0 9223372036854775808).bind fun t155 => (if t155 = a0 then ((fadd_Sub.f kj24 a0 0).bind fun t156 => (if t156 = a0 then ((flt_Class.f a0).bind fun t157 => (if t157 = 3 then (hyglaw7_FaddTurns.j2 kj24 a0 a1 t140 false) else ((fadd_Sub.f kj24 a0 a0).bind fun t158 => (hyglaw7_FaddTurns.j2 kj24 a0 a1 t140 (t158 != 0))))) else (hyglaw7_FaddTurns.j2 kj24 a0 a1 t140 true))) else (hyglaw7_FaddTurns.j2 kj24 a0 a1 t140 true))) else (hyglaw7_FaddTurns.j2 kj24 a0 a1 t140 true)))) = some r := by rw [if_neg (show ¬ (false = true) by decide)] at H; exact H
                clear H
                have H := H1
                clear H1
                have HC32 := Aside0.mk H
                clear H
                go_upto_region 8 with (fail)
                go_cut [89] (fun v89 wc => ∃ (kq : Nat) (x89_31 : Bool), v89 = .bool x89_31 ∧ Aside0 (hyglaw7_FaddTurns.j2 kq a0 a1 t140 x89_31 = some r) ∧ Aside0 (kq ≤ kj24) ∧ Aside0 (Below w.heap.size w wc))
                case first =>
                  have H := HC32.out
                  clear HC32
                  by_cases c33 : a0 = 9223372036854775808
                  · rw [if_pos c33] at H
                    have c33b0 : (a0 == 9223372036854775808) = true := beq_iff_eq.mpr c33
                    have c33b1 : (a0 != 9223372036854775808) = false := bne_eq_false_iff_eq.mpr c33
                    clear c33
                    (first | rw [c33b0] | (simp only [i64_w, i32_w]; rw [c33b0]) | skip)
                    replace H := Option.bind_eq_some_iff.mp H
                    obtain ⟨t150, A340, H⟩ := H
                    replace H : (if t150 = a0 then ((fadd_Sub.f kj24 a0 0).bind fun t151 => (if t151 = a0 then ((flt_Class.f a0).bind fun t152 => (if t152 = 3 then (hyglaw7_FaddTurns.j2 kj24 a0 a1 t140 false) else ((fadd_Sub.f kj24 a0 a0).bind fun t153 => (hyglaw7_FaddTurns.j2 kj24 a0 a1 t140 (t153 != 0))))) else (hyglaw7_FaddTurns.j2 kj24 a0 a1 t140 true))) else (hyglaw7_FaddTurns.j2 kj24 a0 a1 t140 true)) = some r := H
                    have A34 := Aside0.mk A340
                    clear A340
                    by_cases c35 : t150 = a0
                    · rw [if_pos c35] at H
                      have c35b0 : (t150 == a0) = true := beq_iff_eq.mpr c35
                      have c35b1 : (t150 != a0) = false := bne_eq_false_iff_eq.mpr c35
                      clear c35
                      replace H := Option.bind_eq_some_iff.mp H
                      obtain ⟨t151, A360, H⟩ := H
                      replace H : (if t151 = a0 then ((flt_Class.f a0).bind fun t152 => (if t152 = 3 then (hyglaw7_FaddTurns.j2 kj24 a0 a1 t140 false) else ((fadd_Sub.f kj24 a0 a0).bind fun t153 => (hyglaw7_FaddTurns.j2 kj24 a0 a1 t140 (t153 != 0))))) else (hyglaw7_FaddTurns.j2 kj24 a0 a1 t140 true)) = some r := H
                      have A36 := Aside0.mk A360
                      clear A360
                      by_cases c37 : t151 = a0
                      · rw [if_pos c37] at H
                        have c37b0 : (t151 == a0) = true := beq_iff_eq.mpr c37
                        have c37b1 : (t151 != a0) = false := bne_eq_false_iff_eq.mpr c37
                        clear c37
                        replace H := Option.bind_eq_some_iff.mp H
                        obtain ⟨t152, A380, H⟩ := H
                        replace H : (if t152 = 3 then (hyglaw7_FaddTurns.j2 kj24 a0 a1 t140 false) else ((fadd_Sub.f kj24 a0 a0).bind fun t153 => (hyglaw7_FaddTurns.j2 kj24 a0 a1 t140 (t153 != 0)))) = some r := H
                        have A38 := Aside0.mk A380
                        clear A380
                        by_cases c39 : t152 = 3
                        · rw [if_pos c39] at H
                          have c39b0 : (t152 == 3) = true := beq_iff_eq.mpr c39
                          have c39b1 : (t152 != 3) = false := bne_eq_false_iff_eq.mpr c39
                          clear c39
                          have H' := Aside0.mk H
                          clear H
                          go_wp2_with (first | (go_at_call 27; (with_reducible refine (fadd_Add.calls kj24 a0 9223372036854775808 t150 _ A34.out).mono ?_); rintro e w40 ⟨rfl, hb⟩; have n0_ := Aside0.mk (below_step (by repeat (first | (with_reducible first | exact HB.out | apply below_alloc | apply pw_below_drewN | apply below_drew1) | exact HB.out)) hb); clear HB; have HB := n0_; clear n0_; (try clear hb); (try clear hb2); (try clear hk); (try clear hi)) | (go_at_call 38; (with_reducible refine (fadd_Sub.calls kj24 a0 0 t151 _ A36.out).mono ?_); rintro e w41 ⟨rfl, hb⟩; have n0_ := Aside0.mk (below_step (by repeat (first | (with_reducible first | exact HB.out | apply below_alloc | apply pw_below_drewN | apply below_drew1) | exact HB.out)) hb); clear HB; have HB := n0_; clear n0_; (try clear hb); (try clear hb2); (try clear hk); (try clear hi)) | (go_at_call 22; (with_reducible refine (flt_Class.calls a0 t152 _ A38.out).mono ?_); rintro e w' ⟨rfl, ⟨nd, rfl⟩⟩))
                          go_meet
                          case rel => exact ⟨_, (false), (by first | rfl | (simp; done) | (simp [*]; done)), H', ⟨by have := HJ6.out; have := HJ24.out; first | omega | exact Nat.le_refl _⟩, ⟨by repeat (first | (with_reducible first | exact HB.out | apply below_alloc | apply pw_below_drewN | apply below_drew1) | exact HB.out)⟩⟩
                        · rw [if_neg c39] at H
                          have c39b0 : (t152 == 3) = false := beq_eq_false_iff_ne.mpr c39
                          have c39b1 : (t152 != 3) = true := bne_iff_ne.mpr c39
                          replace H := Option.bind_eq_some_iff.mp H
                          obtain ⟨t153, A420, H⟩ := H
                          replace H : (hyglaw7_FaddTurns.j2 kj24 a0 a1 t140 (t153 != 0)) = some r := H
                          have A42 := Aside0.mk A420
                          clear A420
                          have H' := Aside0.mk H
                          clear H
                          go_wp2_with (first | (go_at_call 27; (with_reducible refine (fadd_Add.calls kj24 a0 9223372036854775808 t150 _ A34.out).mono ?_); rintro e w43 ⟨rfl, hb⟩; have n0_ := Aside0.mk (below_step (by repeat (first | (with_reducible first | exact HB.out | apply below_alloc | apply pw_below_drewN | apply below_drew1) | exact HB.out)) hb); clear HB; have HB := n0_; clear n0_; (try clear hb); (try clear hb2); (try clear hk); (try clear hi)) | (go_at_call 38; (with_reducible refine (fadd_Sub.calls kj24 a0 0 t151 _ A36.out).mono ?_); rintro e w44 ⟨rfl, hb⟩; have n0_ := Aside0.mk (below_step (by repeat (first | (with_reducible first | exact HB.out | apply below_alloc | apply pw_below_drewN | apply below_drew1) | exact HB.out)) hb); clear HB; have HB := n0_; clear n0_; (try clear hb); (try clear hb2); (try clear hk); (try clear hi)) | (go_at_call 22; (with_reducible refine (flt_Class.calls a0 t152 _ A38.out).mono ?_); rintro e w' ⟨rfl, ⟨nd, rfl⟩⟩) | (go_at_call 38; (with_reducible refine (fadd_Sub.calls kj24 a0 a0 t153 _ A42.out).mono ?_); rintro e w45 ⟨rfl, hb⟩; have n0_ := Aside0.mk (below_step (by repeat (first | (with_reducible first | exact HB.out | apply below_alloc | apply pw_below_drewN | apply below_drew1) | exact HB.out)) hb); clear HB; have HB := n0_; clear n0_; (try clear hb); (try clear hb2); (try clear hk); (try clear hi)))
                          go_meet
                          case rel => exact ⟨_, ((t153 != 0)), (by first | rfl | (simp; done) | (simp [*]; done)), H', ⟨by have := HJ6.out; have := HJ24.out; first | omega | exact Nat.le_refl _⟩, ⟨by repeat (first | (with_reducible first | exact HB.out | apply below_alloc | apply pw_below_drewN | apply below_drew1) | exact HB.out)⟩⟩
                      · rw [if_neg c37] at H
                        have c37b0 : (t151 == a0) = false := beq_eq_false_iff_ne.mpr c37
                        have c37b1 : (t151 != a0) = true := bne_iff_ne.mpr c37
                        have H' := Aside0.mk H
                        clear H
                        go_wp2_with (first | (go_at_call 27; (with_reducible refine (fadd_Add.calls kj24 a0 9223372036854775808 t150 _ A34.out).mono ?_); rintro e w46 ⟨rfl, hb⟩; have n0_ := Aside0.mk (below_step (by repeat (first | (with_reducible first | exact HB.out | apply below_alloc | apply pw_below_drewN | apply below_drew1) | exact HB.out)) hb); clear HB; have HB := n0_; clear n0_; (try clear hb); (try clear hb2); (try clear hk); (try clear hi)) | (go_at_call 38; (with_reducible refine (fadd_Sub.calls kj24 a0 0 t151 _ A36.out).mono ?_); rintro e w47 ⟨rfl, hb⟩; have n0_ := Aside0.mk (below_step (by repeat (first | (with_reducible first | exact HB.out | apply below_alloc | apply pw_below_drewN | apply below_drew1) | exact HB.out)) hb); clear HB; have HB := n0_; clear n0_; (try clear hb); (try clear hb2); (try clear hk); (try clear hi)))
                        go_meet
                        case rel => exact ⟨_, (true), (by first | rfl | (simp; done) | (simp [*]; done)), H', ⟨by have := HJ6.out; have := HJ24.out; first | omega | exact Nat.le_refl _⟩, ⟨by repeat (first | (with_reducible first | exact HB.out | apply below_alloc | apply pw_below_drewN | apply below_drew1) | exact HB.out)⟩⟩
                    · rw [if_neg c35] at H
                      have c35b0 : (t150 == a0) = false := beq_eq_false_iff_ne.mpr c35
                      have c35b1 : (t150 != a0) = true := bne_iff_ne.mpr c35
                      have H' := Aside0.mk H
                      clear H
                      go_wp2_with (first | (go_at_call 27; (with_reducible refine (fadd_Add.calls kj24 a0 9223372036854775808 t150 _ A34.out).mono ?_); rintro e w48 ⟨rfl, hb⟩; have n0_ := Aside0.mk (below_step (by repeat (first | (with_reducible first | exact HB.out | apply below_alloc | apply pw_below_drewN | apply below_drew1) | exact HB.out)) hb); clear HB; have HB := n0_; clear n0_; (try clear hb); (try clear hb2); (try clear hk); (try clear hi)))
                      go_meet
                      case rel => exact ⟨_, (true), (by first | rfl | (simp; done) | (simp [*]; done)), H', ⟨by have := HJ6.out; have := HJ24.out; first | omega | exact Nat.le_refl _⟩, ⟨by repeat (first | (with_reducible first | exact HB.out | apply below_alloc | apply pw_below_drewN | apply below_drew1) | exact HB.out)⟩⟩
                  · rw [if_neg c33] at H
                    have c33b0 : (a0 == 9223372036854775808) = false := beq_eq_false_iff_ne.mpr c33
                    have c33b1 : (a0 != 9223372036854775808) = true := bne_iff_ne.mpr c33
                    (first | rw [c33b0] | (simp only [i64_w, i32_w]; rw [c33b0]) | skip)
                    replace H := Option.bind_eq_some_iff.mp H
                    obtain ⟨t154, A490, H⟩ := H
                    replace H : (if t154 = a0 then ((fadd_Add.f kj24 a0 9223372036854775808).bind fun t155 => (if t155 = a0 then ((fadd_Sub.f kj24 a0 0).bind fun t156 => (if t156 = a0 then ((flt_Class.f a0).bind fun t157 => (if t157 = 3 then (hyglaw7_FaddTurns.j2 kj24 a0 a1 t140 false) else ((fadd_Sub.f kj24 a0 a0).bind fun t158 => (hyglaw7_FaddTurns.j2 kj24 a0 a1 t140 (t158 != 0))))) else (hyglaw7_FaddTurns.j2 kj24 a0 a1 t140 true))) else (hyglaw7_FaddTurns.j2 kj24 a0 a1 t140 true))) else (hyglaw7_FaddTurns.j2 kj24 a0 a1 t140 true)) = some r := H
                    have A49 := Aside0.mk A490
                    clear A490
                    by_cases c50 : t154 = a0
                    · rw [if_pos c50] at H
                      have c50b0 : (t154 == a0) = true := beq_iff_eq.mpr c50
                      have c50b1 : (t154 != a0) = false := bne_eq_false_iff_eq.mpr c50
                      clear c50
                      replace H := Option.bind_eq_some_iff.mp H
                      obtain ⟨t155, A510, H⟩ := H
                      replace H : (if t155 = a0 then ((fadd_Sub.f kj24 a0 0).bind fun t156 => (if t156 = a0 then ((flt_Class.f a0).bind fun t157 => (if t157 = 3 then (hyglaw7_FaddTurns.j2 kj24 a0 a1 t140 false) else ((fadd_Sub.f kj24 a0 a0).bind fun t158 => (hyglaw7_FaddTurns.j2 kj24 a0 a1 t140 (t158 != 0))))) else (hyglaw7_FaddTurns.j2 kj24 a0 a1 t140 true))) else (hyglaw7_FaddTurns.j2 kj24 a0 a1 t140 true)) = some r := H
                      have A51 := Aside0.mk A510
                      clear A510
                      by_cases c52 : t155 = a0
                      · rw [if_pos c52] at H
                        have c52b0 : (t155 == a0) = true := beq_iff_eq.mpr c52
                        have c52b1 : (t155 != a0) = false := bne_eq_false_iff_eq.mpr c52
                        clear c52
                        replace H := Option.bind_eq_some_iff.mp H
                        obtain ⟨t156, A530, H⟩ := H
                        replace H : (if t156 = a0 then ((flt_Class.f a0).bind fun t157 => (if t157 = 3 then (hyglaw7_FaddTurns.j2 kj24 a0 a1 t140 false) else ((fadd_Sub.f kj24 a0 a0).bind fun t158 => (hyglaw7_FaddTurns.j2 kj24 a0 a1 t140 (t158 != 0))))) else (hyglaw7_FaddTurns.j2 kj24 a0 a1 t140 true)) = some r := H
                        have A53 := Aside0.mk A530
                        clear A530
                        by_cases c54 : t156 = a0
                        · rw [if_pos c54] at H
                          have c54b0 : (t156 == a0) = true := beq_iff_eq.mpr c54
                          have c54b1 : (t156 != a0) = false := bne_eq_false_iff_eq.mpr c54
                          clear c54
                          replace H := Option.bind_eq_some_iff.mp H
                          obtain ⟨t157, A550, H⟩ := H
                          replace H : (if t157 = 3 then (hyglaw7_FaddTurns.j2 kj24 a0 a1 t140 false) else ((fadd_Sub.f kj24 a0 a0).bind fun t158 => (hyglaw7_FaddTurns.j2 kj24 a0 a1 t140 (t158 != 0)))) = some r := H
                          have A55 := Aside0.mk A550
                          clear A550
                          by_cases c56 : t157 = 3
                          · rw [if_pos c56] at H
                            have c56b0 : (t157 == 3) = true := beq_iff_eq.mpr c56
                            have c56b1 : (t157 != 3) = false := bne_eq_false_iff_eq.mpr c56
                            clear c56
                            have H' := Aside0.mk H
                            clear H
                            go_wp2_with (first | (go_at_call 27; (with_reducible refine (fadd_Add.calls kj24 a0 0 t154 _ A49.out).mono ?_); rintro e w57 ⟨rfl, hb⟩; have n0_ := Aside0.mk (below_step (by repeat (first | (with_reducible first | exact HB.out | apply below_alloc | apply pw_below_drewN | apply below_drew1) | exact HB.out)) hb); clear HB; have HB := n0_; clear n0_; (try clear hb); (try clear hb2); (try clear hk); (try clear hi)) | (go_at_call 27; (with_reducible refine (fadd_Add.calls kj24 a0 9223372036854775808 t155 _ A51.out).mono ?_); rintro e w58 ⟨rfl, hb⟩; have n0_ := Aside0.mk (below_step (by repeat (first | (with_reducible first | exact HB.out | apply below_alloc | apply pw_below_drewN | apply below_drew1) | exact HB.out)) hb); clear HB; have HB := n0_; clear n0_; (try clear hb); (try clear hb2); (try clear hk); (try clear hi)) | (go_at_call 38; (with_reducible refine (fadd_Sub.calls kj24 a0 0 t156 _ A53.out).mono ?_); rintro e w59 ⟨rfl, hb⟩; have n0_ := Aside0.mk (below_step (by repeat (first | (with_reducible first | exact HB.out | apply below_alloc | apply pw_below_drewN | apply below_drew1) | exact HB.out)) hb); clear HB; have HB := n0_; clear n0_; (try clear hb); (try clear hb2); (try clear hk); (try clear hi)) | (go_at_call 22; (with_reducible refine (flt_Class.calls a0 t157 _ A55.out).mono ?_); rintro e w' ⟨rfl, ⟨nd, rfl⟩⟩))
                            go_meet
                            case rel => exact ⟨_, (false), (by first | rfl | (simp; done) | (simp [*]; done)), H', ⟨by have := HJ6.out; have := HJ24.out; first | omega | exact Nat.le_refl _⟩, ⟨by repeat (first | (with_reducible first | exact HB.out | apply below_alloc | apply pw_below_drewN | apply below_drew1) | exact HB.out)⟩⟩
                          · rw [if_neg c56] at H
                            have c56b0 : (t157 == 3) = false := beq_eq_false_iff_ne.mpr c56
                            have c56b1 : (t157 != 3) = true := bne_iff_ne.mpr c56
                            replace H := Option.bind_eq_some_iff.mp H
                            obtain ⟨t158, A600, H⟩ := H
                            replace H : (hyglaw7_FaddTurns.j2 kj24 a0 a1 t140 (t158 != 0)) = some r := H
                            have A60 := Aside0.mk A600
                            clear A600
                            have H' := Aside0.mk H
                            clear H
                            go_wp2_with (first | (go_at_call 27; (with_reducible refine (fadd_Add.calls kj24 a0 0 t154 _ A49.out).mono ?_); rintro e w61 ⟨rfl, hb⟩; have n0_ := Aside0.mk (below_step (by repeat (first | (with_reducible first | exact HB.out | apply below_alloc | apply pw_below_drewN | apply below_drew1) | exact HB.out)) hb); clear HB; have HB := n0_; clear n0_; (try clear hb); (try clear hb2); (try clear hk); (try clear hi)) | (go_at_call 27; (with_reducible refine (fadd_Add.calls kj24 a0 9223372036854775808 t155 _ A51.out).mono ?_); rintro e w62 ⟨rfl, hb⟩; have n0_ := Aside0.mk (below_step (by repeat (first | (with_reducible first | exact HB.out | apply below_alloc | apply pw_below_drewN | apply below_drew1) | exact HB.out)) hb); clear HB; have HB := n0_; clear n0_; (try clear hb); (try clear hb2); (try clear hk); (try clear hi)) | (go_at_call 38; (with_reducible refine (fadd_Sub.calls kj24 a0 0 t156 _ A53.out).mono ?_); rintro e w63 ⟨rfl, hb⟩; have n0_ := Aside0.mk (below_step (by repeat (first | (with_reducible first | exact HB.out | apply below_alloc | apply pw_below_drewN | apply below_drew1) | exact HB.out)) hb); clear HB; have HB := n0_; clear n0_; (try clear hb); (try clear hb2); (try clear hk); (try clear hi)) | (go_at_call 22; (with_reducible refine (flt_Class.calls a0 t157 _ A55.out).mono ?_); rintro e w' ⟨rfl, ⟨nd, rfl⟩⟩) | (go_at_call 38; (with_reducible refine (fadd_Sub.calls kj24 a0 a0 t158 _ A60.out).mono ?_); rintro e w64 ⟨rfl, hb⟩; have n0_ := Aside0.mk (below_step (by repeat (first | (with_reducible first | exact HB.out | apply below_alloc | apply pw_below_drewN | apply below_drew1) | exact HB.out)) hb); clear HB; have HB := n0_; clear n0_; (try clear hb); (try clear hb2); (try clear hk); (try clear hi)))
                            go_meet
                            case rel => exact ⟨_, ((t158 != 0)), (by first | rfl | (simp; done) | (simp [*]; done)), H', ⟨by have := HJ6.out; have := HJ24.out; first | omega | exact Nat.le_refl _⟩, ⟨by repeat (first | (with_reducible first | exact HB.out | apply below_alloc | apply pw_below_drewN | apply below_drew1) | exact HB.out)⟩⟩
                        · rw [if_neg c54] at H
                          have c54b0 : (t156 == a0) = false := beq_eq_false_iff_ne.mpr c54
                          have c54b1 : (t156 != a0) = true := bne_iff_ne.mpr c54
                          have H' := Aside0.mk H
                          clear H
                          go_wp2_with (first | (go_at_call 27; (with_reducible refine (fadd_Add.calls kj24 a0 0 t154 _ A49.out).mono ?_); rintro e w65 ⟨rfl, hb⟩; have n0_ := Aside0.mk (below_step (by repeat (first | (with_reducible first | exact HB.out | apply below_alloc | apply pw_below_drewN | apply below_drew1) | exact HB.out)) hb); clear HB; have HB := n0_; clear n0_; (try clear hb); (try clear hb2); (try clear hk); (try clear hi)) | (go_at_call 27; (with_reducible refine (fadd_Add.calls kj24 a0 9223372036854775808 t155 _ A51.out).mono ?_); rintro e w66 ⟨rfl, hb⟩; have n0_ := Aside0.mk (below_step (by repeat (first | (with_reducible first | exact HB.out | apply below_alloc | apply pw_below_drewN | apply below_drew1) | exact HB.out)) hb); clear HB; have HB := n0_; clear n0_; (try clear hb); (try clear hb2); (try clear hk); (try clear hi)) | (go_at_call 38; (with_reducible refine (fadd_Sub.calls kj24 a0 0 t156 _ A53.out).mono ?_); rintro e w67 ⟨rfl, hb⟩; have n0_ := Aside0.mk (below_step (by repeat (first | (with_reducible first | exact HB.out | apply below_alloc | apply pw_below_drewN | apply below_drew1) | exact HB.out)) hb); clear HB; have HB := n0_; clear n0_; (try clear hb); (try clear hb2); (try clear hk); (try clear hi)))
                          go_meet
                          case rel => exact ⟨_, (true), (by first | rfl | (simp; done) | (simp [*]; done)), H', ⟨by have := HJ6.out; have := HJ24.out; first | omega | exact Nat.le_refl _⟩, ⟨by repeat (first | (with_reducible first | exact HB.out | apply below_alloc | apply pw_below_drewN | apply below_drew1) | exact HB.out)⟩⟩
                      · rw [if_neg c52] at H
                        have c52b0 : (t155 == a0) = false := beq_eq_false_iff_ne.mpr c52
                        have c52b1 : (t155 != a0) = true := bne_iff_ne.mpr c52
                        have H' := Aside0.mk H
                        clear H
                        go_wp2_with (first | (go_at_call 27; (with_reducible refine (fadd_Add.calls kj24 a0 0 t154 _ A49.out).mono ?_); rintro e w68 ⟨rfl, hb⟩; have n0_ := Aside0.mk (below_step (by repeat (first | (with_reducible first | exact HB.out | apply below_alloc | apply pw_below_drewN | apply below_drew1) | exact HB.out)) hb); clear HB; have HB := n0_; clear n0_; (try clear hb); (try clear hb2); (try clear hk); (try clear hi)) | (go_at_call 27; (with_reducible refine (fadd_Add.calls kj24 a0 9223372036854775808 t155 _ A51.out).mono ?_); rintro e w69 ⟨rfl, hb⟩; have n0_ := Aside0.mk (below_step (by repeat (first | (with_reducible first | exact HB.out | apply below_alloc | apply pw_below_drewN | apply below_drew1) | exact HB.out)) hb); clear HB; have HB := n0_; clear n0_; (try clear hb); (try clear hb2); (try clear hk); (try clear hi)))
                        go_meet
                        case rel => exact ⟨_, (true), (by first | rfl | (simp; done) | (simp [*]; done)), H', ⟨by have := HJ6.out; have := HJ24.out; first | omega | exact Nat.le_refl _⟩, ⟨by repeat (first | (with_reducible first | exact HB.out | apply below_alloc | apply pw_below_drewN | apply below_drew1) | exact HB.out)⟩⟩
                    · rw [if_neg c50] at H
                      have c50b0 : (t154 == a0) = false := beq_eq_false_iff_ne.mpr c50
                      have c50b1 : (t154 != a0) = true := bne_iff_ne.mpr c50
                      have H' := Aside0.mk H
                      clear H
                      go_wp2_with (first | (go_at_call 27; (with_reducible refine (fadd_Add.calls kj24 a0 0 t154 _ A49.out).mono ?_); rintro e w70 ⟨rfl, hb⟩; have n0_ := Aside0.mk (below_step (by repeat (first | (with_reducible first | exact HB.out | apply below_alloc | apply pw_below_drewN | apply below_drew1) | exact HB.out)) hb); clear HB; have HB := n0_; clear n0_; (try clear hb); (try clear hb2); (try clear hk); (try clear hi)))
                      go_meet
                      case rel => exact ⟨_, (true), (by first | rfl | (simp; done) | (simp [*]; done)), H', ⟨by have := HJ6.out; have := HJ24.out; first | omega | exact Nat.le_refl _⟩, ⟨by repeat (first | (with_reducible first | exact HB.out | apply below_alloc | apply pw_below_drewN | apply below_drew1) | exact HB.out)⟩⟩
                case rest =>
                  clear HC32
                  try clear c1
                  try clear c2
                  try clear p2
                  try clear c3
                  try clear c4
                  try clear c5
                  try clear c11
                  try clear c12
                  try clear c12b0
                  try clear c12b1
                  try clear c14
                  try clear c16
                  try clear c18
                  try clear c18b0
                  try clear c18b1
                  try clear c20
                  try clear c20b0
                  try clear c20b1
                  try clear c22
                  try clear c24
                  try clear c26
                  try clear c26b0
                  try clear c26b1
                  try clear c27
                  try clear c29
                  try clear c29b0
                  try clear c29b1
                  try clear c31
                  try clear c33
                  try clear c33b0
                  try clear c33b1
                  try clear c35
                  try clear c35b0
                  try clear c35b1
                  try clear c37
                  try clear c37b0
                  try clear c37b1
                  try clear c39
                  try clear c39b0
                  try clear c39b1
                  try clear c50
                  try clear c50b0
                  try clear c50b1
                  try clear c52
                  try clear c52b0
                  try clear c52b1
                  try clear c54
                  try clear c54b0
                  try clear c54b1
                  try clear c56
                  try clear c56b0
                  try clear c56b1
                  try clear p2
                  obtain ⟨kq, x89_31, rfl, HA, HJ31, HB⟩ := hcut
                  cases kq with
                  | zero => exact absurd HA.out (by simp [hyglaw7_FaddTurns.j2])
                  | succ kj31 =>
                    have H := HA.out
                    clear HA
                    simp only [hyglaw7_FaddTurns.j2] at H
                    by_cases c71 : x89_31 = true
                    · subst c71
                      have H1 : (some false) = some r := by rw [if_pos rfl] at H; exact H
                      clear H
                      have H := H1
                      clear H1
                      obtain rfl := Option.some.inj H
                      go_wp2
                      go_ret
                      exact ⟨by first | rfl | (simp [errW_none, errW_some] <;> rfl) | (simp [*, errW_none, errW_some] <;> rfl), by repeat (first | (with_reducible first | exact HB.out | apply below_alloc | apply pw_below_drewN | apply below_drew1) | exact HB.out)⟩
                    · replace c71 := Bool.eq_false_iff.mpr c71
                      subst c71
                      have H1 : ((flt_Class.f t140).bind fun t159 => (if t159 = 4 then ((hyglaw7_first.f kj31).bind fun t160 => (some t160)) else ((flt_Neg.f a0).bind fun t161 => ((flt_Neg.f a1).bind fun t162 => ((fadd_Add.f kj31 t161 t162).bind fun t163 => ((hyglaw7_first.f kj31).bind fun t164 => (if t164 = true then ((flt_Neg.f t140).bind fun t165 => (if t163 = t165 then ((fadd_Sub.f kj31 a0 a1).bind fun t166 => ((flt_Neg.f a1).bind fun t167 => ((fadd_Add.f kj31 a0 t167).bind fun t168 => (some (t166 == t168))))) else (if t140 = 0 then (if t163 = 0 then ((fadd_Sub.f kj31 a0 a1).bind fun t169 => ((flt_Neg.f a1).bind fun t170 => ((fadd_Add.f kj31 a0 t170).bind fun t171 => (some (t169 == t171))))) else (some false)) else (some false)))) else (some false)))))))) = some r := by rw [if_neg (show ¬ (false = true) by decide)] at H; exact H
                      clear H
                      have H := H1
                      clear H1
                      replace H := Option.bind_eq_some_iff.mp H
                      obtain ⟨t159, A720, H⟩ := H
                      replace H : (if t159 = 4 then ((hyglaw7_first.f kj31).bind fun t160 => (some t160)) else ((flt_Neg.f a0).bind fun t161 => ((flt_Neg.f a1).bind fun t162 => ((fadd_Add.f kj31 t161 t162).bind fun t163 => ((hyglaw7_first.f kj31).bind fun t164 => (if t164 = true then ((flt_Neg.f t140).bind fun t165 => (if t163 = t165 then ((fadd_Sub.f kj31 a0 a1).bind fun t166 => ((flt_Neg.f a1).bind fun t167 => ((fadd_Add.f kj31 a0 t167).bind fun t168 => (some (t166 == t168))))) else (if t140 = 0 then (if t163 = 0 then ((fadd_Sub.f kj31 a0 a1).bind fun t169 => ((flt_Neg.f a1).bind fun t170 => ((fadd_Add.f kj31 a0 t170).bind fun t171 => (some (t169 == t171))))) else (some false)) else (some false)))) else (some false))))))) = some r := H
                      have A72 := Aside0.mk A720
                      clear A720
                      by_cases c73 : t159 = 4
                      · rw [if_pos c73] at H
                        have c73b0 : (t159 == 4) = true := beq_iff_eq.mpr c73
                        have c73b1 : (t159 != 4) = false := bne_eq_false_iff_eq.mpr c73
                        clear c73
                        replace H := Option.bind_eq_some_iff.mp H
                        obtain ⟨t160, A740, H⟩ := H
                        replace H : (some t160) = some r := H
                        have A74 := Aside0.mk A740
                        clear A740
                        obtain rfl := Option.some.inj H
                        go_wp2_with (first | ((with_reducible refine gate_callee (f := 22) rfl ?_); refine goesL_ (some 91) rfl rfl Try.func22 (by kernel_rfl) rfl #[.int .u64 t140] rfl (by (try simp only [List.map_toArray, List.map_cons, List.map_nil]); first | done | rfl | (simp only [List.length_drop, List.length_take]; rfl)) ?_; (with_reducible refine (flt_Class.calls t140 t159 _ A72.out).mono ?_); rintro e w' ⟨rfl, ⟨nd, rfl⟩⟩; refine ⟨_, rfl, ?_⟩) | ((with_reducible refine gate_callee (f := 24) rfl ?_); refine goesL_ (some 93) rfl rfl Try.func24 (by kernel_rfl) rfl #[] rfl (by (try simp only [List.map_toArray, List.map_cons, List.map_nil]); first | done | rfl | (simp only [List.length_drop, List.length_take]; rfl)) ?_; (with_reducible refine (hyglaw7_first.calls kj31  t160 _ A74.out).mono ?_); rintro e w75 ⟨rfl, hb⟩; refine ⟨_, rfl, ?_⟩; have n0_ := Aside0.mk (below_step (by repeat (first | (with_reducible first | exact HB.out | apply below_alloc | apply pw_below_drewN | apply below_drew1) | exact HB.out)) hb); clear HB; have HB := n0_; clear n0_; (try clear hb); (try clear hb2); (try clear hk); (try clear hi)))
                        go_ret
                        exact ⟨by first | rfl | (simp [errW_none, errW_some] <;> rfl) | (simp [*, errW_none, errW_some] <;> rfl), by repeat (first | (with_reducible first | exact HB.out | apply below_alloc | apply pw_below_drewN | apply below_drew1) | exact HB.out)⟩
                      · rw [if_neg c73] at H
                        have c73b0 : (t159 == 4) = false := beq_eq_false_iff_ne.mpr c73
                        have c73b1 : (t159 != 4) = true := bne_iff_ne.mpr c73
                        replace H := Option.bind_eq_some_iff.mp H
                        obtain ⟨t161, A760, H⟩ := H
                        replace H : ((flt_Neg.f a1).bind fun t162 => ((fadd_Add.f kj31 t161 t162).bind fun t163 => ((hyglaw7_first.f kj31).bind fun t164 => (if t164 = true then ((flt_Neg.f t140).bind fun t165 => (if t163 = t165 then ((fadd_Sub.f kj31 a0 a1).bind fun t166 => ((flt_Neg.f a1).bind fun t167 => ((fadd_Add.f kj31 a0 t167).bind fun t168 => (some (t166 == t168))))) else (if t140 = 0 then (if t163 = 0 then ((fadd_Sub.f kj31 a0 a1).bind fun t169 => ((flt_Neg.f a1).bind fun t170 => ((fadd_Add.f kj31 a0 t170).bind fun t171 => (some (t169 == t171))))) else (some false)) else (some false)))) else (some false))))) = some r := H
                        have A76 := Aside0.mk A760
                        clear A760
                        replace H := Option.bind_eq_some_iff.mp H
                        obtain ⟨t162, A770, H⟩ := H
                        replace H : ((fadd_Add.f kj31 t161 t162).bind fun t163 => ((hyglaw7_first.f kj31).bind fun t164 => (if t164 = true then ((flt_Neg.f t140).bind fun t165 => (if t163 = t165 then ((fadd_Sub.f kj31 a0 a1).bind fun t166 => ((flt_Neg.f a1).bind fun t167 => ((fadd_Add.f kj31 a0 t167).bind fun t168 => (some (t166 == t168))))) else (if t140 = 0 then (if t163 = 0 then ((fadd_Sub.f kj31 a0 a1).bind fun t169 => ((flt_Neg.f a1).bind fun t170 => ((fadd_Add.f kj31 a0 t170).bind fun t171 => (some (t169 == t171))))) else (some false)) else (some false)))) else (some false)))) = some r := H
                        have A77 := Aside0.mk A770
                        clear A770
                        replace H := Option.bind_eq_some_iff.mp H
                        obtain ⟨t163, A780, H⟩ := H
                        replace H : ((hyglaw7_first.f kj31).bind fun t164 => (if t164 = true then ((flt_Neg.f t140).bind fun t165 => (if t163 = t165 then ((fadd_Sub.f kj31 a0 a1).bind fun t166 => ((flt_Neg.f a1).bind fun t167 => ((fadd_Add.f kj31 a0 t167).bind fun t168 => (some (t166 == t168))))) else (if t140 = 0 then (if t163 = 0 then ((fadd_Sub.f kj31 a0 a1).bind fun t169 => ((flt_Neg.f a1).bind fun t170 => ((fadd_Add.f kj31 a0 t170).bind fun t171 => (some (t169 == t171))))) else (some false)) else (some false)))) else (some false))) = some r := H
                        have A78 := Aside0.mk A780
                        clear A780
                        replace H := Option.bind_eq_some_iff.mp H
                        obtain ⟨t164, A790, H⟩ := H
                        replace H : (if t164 = true then ((flt_Neg.f t140).bind fun t165 => (if t163 = t165 then ((fadd_Sub.f kj31 a0 a1).bind fun t166 => ((flt_Neg.f a1).bind fun t167 => ((fadd_Add.f kj31 a0 t167).bind fun t168 => (some (t166 == t168))))) else (if t140 = 0 then (if t163 = 0 then ((fadd_Sub.f kj31 a0 a1).bind fun t169 => ((flt_Neg.f a1).bind fun t170 => ((fadd_Add.f kj31 a0 t170).bind fun t171 => (some (t169 == t171))))) else (some false)) else (some false)))) else (some false)) = some r := H
                        have A79 := Aside0.mk A790
                        clear A790
                        by_cases c80 : t164 = true
                        · subst c80
                          have H1 : ((flt_Neg.f t140).bind fun t165 => (if t163 = t165 then ((fadd_Sub.f kj31 a0 a1).bind fun t166 => ((flt_Neg.f a1).bind fun t167 => ((fadd_Add.f kj31 a0 t167).bind fun t168 => (some (t166 == t168))))) else (if t140 = 0 then (if t163 = 0 then ((fadd_Sub.f kj31 a0 a1).bind fun t169 => ((flt_Neg.f a1).bind fun t170 => ((fadd_Add.f kj31 a0 t170).bind fun t171 => (some (t169 == t171))))) else (some false)) else (some false)))) = some r := by rw [if_pos rfl] at H; exact H
                          clear H
                          have H := H1
                          clear H1
                          replace H := Option.bind_eq_some_iff.mp H
                          obtain ⟨t165, A810, H⟩ := H
                          replace H : (if t163 = t165 then ((fadd_Sub.f kj31 a0 a1).bind fun t166 => ((flt_Neg.f a1).bind fun t167 => ((fadd_Add.f kj31 a0 t167).bind fun t168 => (some (t166 == t168))))) else (if t140 = 0 then (if t163 = 0 then ((fadd_Sub.f kj31 a0 a1).bind fun t169 => ((flt_Neg.f a1).bind fun t170 => ((fadd_Add.f kj31 a0 t170).bind fun t171 => (some (t169 == t171))))) else (some false)) else (some false))) = some r := H
                          have A81 := Aside0.mk A810
                          clear A810
                          by_cases c82 : t163 = t165
                          · rw [if_pos c82] at H
                            have c82b0 : (t163 == t165) = true := beq_iff_eq.mpr c82
                            have c82b1 : (t163 != t165) = false := bne_eq_false_iff_eq.mpr c82
                            clear c82
                            replace H := Option.bind_eq_some_iff.mp H
                            obtain ⟨t166, A830, H⟩ := H
                            replace H : ((flt_Neg.f a1).bind fun t167 => ((fadd_Add.f kj31 a0 t167).bind fun t168 => (some (t166 == t168)))) = some r := H
                            have A83 := Aside0.mk A830
                            clear A830
                            replace H := Option.bind_eq_some_iff.mp H
                            obtain ⟨t167, A840, H⟩ := H
                            replace H : ((fadd_Add.f kj31 a0 t167).bind fun t168 => (some (t166 == t168))) = some r := H
                            have A84 := Aside0.mk A840
                            clear A840
                            replace H := Option.bind_eq_some_iff.mp H
                            obtain ⟨t168, A850, H⟩ := H
                            replace H : (some (t166 == t168)) = some r := H
                            have A85 := Aside0.mk A850
                            clear A850
                            obtain rfl := Option.some.inj H
                            go_wp2_with (first | ((with_reducible refine gate_callee (f := 22) rfl ?_); refine goesL_ (some 91) rfl rfl Try.func22 (by kernel_rfl) rfl #[.int .u64 t140] rfl (by (try simp only [List.map_toArray, List.map_cons, List.map_nil]); first | done | rfl | (simp only [List.length_drop, List.length_take]; rfl)) ?_; (with_reducible refine (flt_Class.calls t140 t159 _ A72.out).mono ?_); rintro e w' ⟨rfl, ⟨nd, rfl⟩⟩; refine ⟨_, rfl, ?_⟩) | ((with_reducible refine gate_callee (f := 23) rfl ?_); refine goesL_ (some 95) rfl rfl Try.func23 (by kernel_rfl) rfl #[.int .u64 a0] rfl (by (try simp only [List.map_toArray, List.map_cons, List.map_nil]); first | done | rfl | (simp only [List.length_drop, List.length_take]; rfl)) ?_; (with_reducible refine (flt_Neg.calls a0 t161 _ A76.out).mono ?_); rintro e w' ⟨rfl, ⟨nd, rfl⟩⟩; refine ⟨_, rfl, ?_⟩) | ((with_reducible refine gate_callee (f := 23) rfl ?_); refine goesL_ (some 97) rfl rfl Try.func23 (by kernel_rfl) rfl #[.int .u64 a1] rfl (by (try simp only [List.map_toArray, List.map_cons, List.map_nil]); first | done | rfl | (simp only [List.length_drop, List.length_take]; rfl)) ?_; (with_reducible refine (flt_Neg.calls a1 t162 _ A77.out).mono ?_); rintro e w' ⟨rfl, ⟨nd, rfl⟩⟩; refine ⟨_, rfl, ?_⟩) | ((with_reducible refine gate_callee (f := 27) rfl ?_); refine goesL_ (some 98) rfl rfl Try.func27 (by kernel_rfl) rfl #[.int .u64 t161, .int .u64 t162] rfl (by (try simp only [List.map_toArray, List.map_cons, List.map_nil]); first | done | rfl | (simp only [List.length_drop, List.length_take]; rfl)) ?_; (with_reducible refine (fadd_Add.calls kj31 t161 t162 t163 _ A78.out).mono ?_); rintro e w86 ⟨rfl, hb⟩; refine ⟨_, rfl, ?_⟩; have n0_ := Aside0.mk (below_step (by repeat (first | (with_reducible first | exact HB.out | apply below_alloc | apply pw_below_drewN | apply below_drew1) | exact HB.out)) hb); clear HB; have HB := n0_; clear n0_; (try clear hb); (try clear hb2); (try clear hk); (try clear hi)) | ((with_reducible refine gate_callee (f := 24) rfl ?_); refine goesL_ (some 99) rfl rfl Try.func24 (by kernel_rfl) rfl #[] rfl (by (try simp only [List.map_toArray, List.map_cons, List.map_nil]); first | done | rfl | (simp only [List.length_drop, List.length_take]; rfl)) ?_; (with_reducible refine (hyglaw7_first.calls kj31  true _ A79.out).mono ?_); rintro e w87 ⟨rfl, hb⟩; refine ⟨_, rfl, ?_⟩; have n0_ := Aside0.mk (below_step (by repeat (first | (with_reducible first | exact HB.out | apply below_alloc | apply pw_below_drewN | apply below_drew1) | exact HB.out)) hb); clear HB; have HB := n0_; clear n0_; (try clear hb); (try clear hb2); (try clear hk); (try clear hi)) | (go_at_call 23; (with_reducible refine (flt_Neg.calls t140 t165 _ A81.out).mono ?_); rintro e w' ⟨rfl, ⟨nd, rfl⟩⟩) | (go_at_call 38; (with_reducible refine (fadd_Sub.calls kj31 a0 a1 t166 _ A83.out).mono ?_); rintro e w88 ⟨rfl, hb⟩; have n0_ := Aside0.mk (below_step (by repeat (first | (with_reducible first | exact HB.out | apply below_alloc | apply pw_below_drewN | apply below_drew1) | exact HB.out)) hb); clear HB; have HB := n0_; clear n0_; (try clear hb); (try clear hb2); (try clear hk); (try clear hi)) | (go_at_call 23; (with_reducible refine (flt_Neg.calls a1 t167 _ A84.out).mono ?_); rintro e w' ⟨rfl, ⟨nd, rfl⟩⟩) | (go_at_call 27; (with_reducible refine (fadd_Add.calls kj31 a0 t167 t168 _ A85.out).mono ?_); rintro e w89 ⟨rfl, hb⟩; have n0_ := Aside0.mk (below_step (by repeat (first | (with_reducible first | exact HB.out | apply below_alloc | apply pw_below_drewN | apply below_drew1) | exact HB.out)) hb); clear HB; have HB := n0_; clear n0_; (try clear hb); (try clear hb2); (try clear hk); (try clear hi)))
                            go_ret
                            exact ⟨by first | rfl | (simp [errW_none, errW_some] <;> rfl) | (simp [*, errW_none, errW_some] <;> rfl), by repeat (first | (with_reducible first | exact HB.out | apply below_alloc | apply pw_below_drewN | apply below_drew1) | exact HB.out)⟩
                          · rw [if_neg c82] at H
                            have c82b0 : (t163 == t165) = false := beq_eq_false_iff_ne.mpr c82
                            have c82b1 : (t163 != t165) = true := bne_iff_ne.mpr c82
                            by_cases c90 : t140 = 0
                            · rw [if_pos c90] at H
                              have c90b0 : (t140 == 0) = true := beq_iff_eq.mpr c90
                              have c90b1 : (t140 != 0) = false := bne_eq_false_iff_eq.mpr c90
                              clear c90
                              by_cases c91 : t163 = 0
                              · rw [if_pos c91] at H
                                have c91b0 : (t163 == 0) = true := beq_iff_eq.mpr c91
                                have c91b1 : (t163 != 0) = false := bne_eq_false_iff_eq.mpr c91
                                clear c91
                                replace H := Option.bind_eq_some_iff.mp H
                                obtain ⟨t169, A920, H⟩ := H
                                replace H : ((flt_Neg.f a1).bind fun t170 => ((fadd_Add.f kj31 a0 t170).bind fun t171 => (some (t169 == t171)))) = some r := H
                                have A92 := Aside0.mk A920
                                clear A920
                                replace H := Option.bind_eq_some_iff.mp H
                                obtain ⟨t170, A930, H⟩ := H
                                replace H : ((fadd_Add.f kj31 a0 t170).bind fun t171 => (some (t169 == t171))) = some r := H
                                have A93 := Aside0.mk A930
                                clear A930
                                replace H := Option.bind_eq_some_iff.mp H
                                obtain ⟨t171, A940, H⟩ := H
                                replace H : (some (t169 == t171)) = some r := H
                                have A94 := Aside0.mk A940
                                clear A940
                                obtain rfl := Option.some.inj H
                                go_wp2_with (first | ((with_reducible refine gate_callee (f := 22) rfl ?_); refine goesL_ (some 91) rfl rfl Try.func22 (by kernel_rfl) rfl #[.int .u64 t140] rfl (by (try simp only [List.map_toArray, List.map_cons, List.map_nil]); first | done | rfl | (simp only [List.length_drop, List.length_take]; rfl)) ?_; (with_reducible refine (flt_Class.calls t140 t159 _ A72.out).mono ?_); rintro e w' ⟨rfl, ⟨nd, rfl⟩⟩; refine ⟨_, rfl, ?_⟩) | ((with_reducible refine gate_callee (f := 23) rfl ?_); refine goesL_ (some 95) rfl rfl Try.func23 (by kernel_rfl) rfl #[.int .u64 a0] rfl (by (try simp only [List.map_toArray, List.map_cons, List.map_nil]); first | done | rfl | (simp only [List.length_drop, List.length_take]; rfl)) ?_; (with_reducible refine (flt_Neg.calls a0 t161 _ A76.out).mono ?_); rintro e w' ⟨rfl, ⟨nd, rfl⟩⟩; refine ⟨_, rfl, ?_⟩) | ((with_reducible refine gate_callee (f := 23) rfl ?_); refine goesL_ (some 97) rfl rfl Try.func23 (by kernel_rfl) rfl #[.int .u64 a1] rfl (by (try simp only [List.map_toArray, List.map_cons, List.map_nil]); first | done | rfl | (simp only [List.length_drop, List.length_take]; rfl)) ?_; (with_reducible refine (flt_Neg.calls a1 t162 _ A77.out).mono ?_); rintro e w' ⟨rfl, ⟨nd, rfl⟩⟩; refine ⟨_, rfl, ?_⟩) | ((with_reducible refine gate_callee (f := 27) rfl ?_); refine goesL_ (some 98) rfl rfl Try.func27 (by kernel_rfl) rfl #[.int .u64 t161, .int .u64 t162] rfl (by (try simp only [List.map_toArray, List.map_cons, List.map_nil]); first | done | rfl | (simp only [List.length_drop, List.length_take]; rfl)) ?_; (with_reducible refine (fadd_Add.calls kj31 t161 t162 t163 _ A78.out).mono ?_); rintro e w95 ⟨rfl, hb⟩; refine ⟨_, rfl, ?_⟩; have n0_ := Aside0.mk (below_step (by repeat (first | (with_reducible first | exact HB.out | apply below_alloc | apply pw_below_drewN | apply below_drew1) | exact HB.out)) hb); clear HB; have HB := n0_; clear n0_; (try clear hb); (try clear hb2); (try clear hk); (try clear hi)) | ((with_reducible refine gate_callee (f := 24) rfl ?_); refine goesL_ (some 99) rfl rfl Try.func24 (by kernel_rfl) rfl #[] rfl (by (try simp only [List.map_toArray, List.map_cons, List.map_nil]); first | done | rfl | (simp only [List.length_drop, List.length_take]; rfl)) ?_; (with_reducible refine (hyglaw7_first.calls kj31  true _ A79.out).mono ?_); rintro e w96 ⟨rfl, hb⟩; refine ⟨_, rfl, ?_⟩; have n0_ := Aside0.mk (below_step (by repeat (first | (with_reducible first | exact HB.out | apply below_alloc | apply pw_below_drewN | apply below_drew1) | exact HB.out)) hb); clear HB; have HB := n0_; clear n0_; (try clear hb); (try clear hb2); (try clear hk); (try clear hi)) | (go_at_call 23; (with_reducible refine (flt_Neg.calls t140 t165 _ A81.out).mono ?_); rintro e w' ⟨rfl, ⟨nd, rfl⟩⟩) | (go_at_call 38; (with_reducible refine (fadd_Sub.calls kj31 a0 a1 t169 _ A92.out).mono ?_); rintro e w97 ⟨rfl, hb⟩; have n0_ := Aside0.mk (below_step (by repeat (first | (with_reducible first | exact HB.out | apply below_alloc | apply pw_below_drewN | apply below_drew1) | exact HB.out)) hb); clear HB; have HB := n0_; clear n0_; (try clear hb); (try clear hb2); (try clear hk); (try clear hi)) | (go_at_call 23; (with_reducible refine (flt_Neg.calls a1 t170 _ A93.out).mono ?_); rintro e w' ⟨rfl, ⟨nd, rfl⟩⟩) | (go_at_call 27; (with_reducible refine (fadd_Add.calls kj31 a0 t170 t171 _ A94.out).mono ?_); rintro e w98 ⟨rfl, hb⟩; have n0_ := Aside0.mk (below_step (by repeat (first | (with_reducible first | exact HB.out | apply below_alloc | apply pw_below_drewN | apply below_drew1) | exact HB.out)) hb); clear HB; have HB := n0_; clear n0_; (try clear hb); (try clear hb2); (try clear hk); (try clear hi)))
                                go_ret
                                exact ⟨by first | rfl | (simp [errW_none, errW_some] <;> rfl) | (simp [*, errW_none, errW_some] <;> rfl), by repeat (first | (with_reducible first | exact HB.out | apply below_alloc | apply pw_below_drewN | apply below_drew1) | exact HB.out)⟩
                              · rw [if_neg c91] at H
                                have c91b0 : (t163 == 0) = false := beq_eq_false_iff_ne.mpr c91
                                have c91b1 : (t163 != 0) = true := bne_iff_ne.mpr c91
                                obtain rfl := Option.some.inj H
                                go_wp2_with (first | ((with_reducible refine gate_callee (f := 22) rfl ?_); refine goesL_ (some 91) rfl rfl Try.func22 (by kernel_rfl) rfl #[.int .u64 t140] rfl (by (try simp only [List.map_toArray, List.map_cons, List.map_nil]); first | done | rfl | (simp only [List.length_drop, List.length_take]; rfl)) ?_; (with_reducible refine (flt_Class.calls t140 t159 _ A72.out).mono ?_); rintro e w' ⟨rfl, ⟨nd, rfl⟩⟩; refine ⟨_, rfl, ?_⟩) | ((with_reducible refine gate_callee (f := 23) rfl ?_); refine goesL_ (some 95) rfl rfl Try.func23 (by kernel_rfl) rfl #[.int .u64 a0] rfl (by (try simp only [List.map_toArray, List.map_cons, List.map_nil]); first | done | rfl | (simp only [List.length_drop, List.length_take]; rfl)) ?_; (with_reducible refine (flt_Neg.calls a0 t161 _ A76.out).mono ?_); rintro e w' ⟨rfl, ⟨nd, rfl⟩⟩; refine ⟨_, rfl, ?_⟩) | ((with_reducible refine gate_callee (f := 23) rfl ?_); refine goesL_ (some 97) rfl rfl Try.func23 (by kernel_rfl) rfl #[.int .u64 a1] rfl (by (try simp only [List.map_toArray, List.map_cons, List.map_nil]); first | done | rfl | (simp only [List.length_drop, List.length_take]; rfl)) ?_; (with_reducible refine (flt_Neg.calls a1 t162 _ A77.out).mono ?_); rintro e w' ⟨rfl, ⟨nd, rfl⟩⟩; refine ⟨_, rfl, ?_⟩) | ((with_reducible refine gate_callee (f := 27) rfl ?_); refine goesL_ (some 98) rfl rfl Try.func27 (by kernel_rfl) rfl #[.int .u64 t161, .int .u64 t162] rfl (by (try simp only [List.map_toArray, List.map_cons, List.map_nil]); first | done | rfl | (simp only [List.length_drop, List.length_take]; rfl)) ?_; (with_reducible refine (fadd_Add.calls kj31 t161 t162 t163 _ A78.out).mono ?_); rintro e w99 ⟨rfl, hb⟩; refine ⟨_, rfl, ?_⟩; have n0_ := Aside0.mk (below_step (by repeat (first | (with_reducible first | exact HB.out | apply below_alloc | apply pw_below_drewN | apply below_drew1) | exact HB.out)) hb); clear HB; have HB := n0_; clear n0_; (try clear hb); (try clear hb2); (try clear hk); (try clear hi)) | ((with_reducible refine gate_callee (f := 24) rfl ?_); refine goesL_ (some 99) rfl rfl Try.func24 (by kernel_rfl) rfl #[] rfl (by (try simp only [List.map_toArray, List.map_cons, List.map_nil]); first | done | rfl | (simp only [List.length_drop, List.length_take]; rfl)) ?_; (with_reducible refine (hyglaw7_first.calls kj31  true _ A79.out).mono ?_); rintro e w100 ⟨rfl, hb⟩; refine ⟨_, rfl, ?_⟩; have n0_ := Aside0.mk (below_step (by repeat (first | (with_reducible first | exact HB.out | apply below_alloc | apply pw_below_drewN | apply below_drew1) | exact HB.out)) hb); clear HB; have HB := n0_; clear n0_; (try clear hb); (try clear hb2); (try clear hk); (try clear hi)) | (go_at_call 23; (with_reducible refine (flt_Neg.calls t140 t165 _ A81.out).mono ?_); rintro e w' ⟨rfl, ⟨nd, rfl⟩⟩))
                                go_ret
                                exact ⟨by first | rfl | (simp [errW_none, errW_some] <;> rfl) | (simp [*, errW_none, errW_some] <;> rfl), by repeat (first | (with_reducible first | exact HB.out | apply below_alloc | apply pw_below_drewN | apply below_drew1) | exact HB.out)⟩
                            · rw [if_neg c90] at H
                              have c90b0 : (t140 == 0) = false := beq_eq_false_iff_ne.mpr c90
                              have c90b1 : (t140 != 0) = true := bne_iff_ne.mpr c90
                              obtain rfl := Option.some.inj H
                              go_wp2_with (first | ((with_reducible refine gate_callee (f := 22) rfl ?_); refine goesL_ (some 91) rfl rfl Try.func22 (by kernel_rfl) rfl #[.int .u64 t140] rfl (by (try simp only [List.map_toArray, List.map_cons, List.map_nil]); first | done | rfl | (simp only [List.length_drop, List.length_take]; rfl)) ?_; (with_reducible refine (flt_Class.calls t140 t159 _ A72.out).mono ?_); rintro e w' ⟨rfl, ⟨nd, rfl⟩⟩; refine ⟨_, rfl, ?_⟩) | ((with_reducible refine gate_callee (f := 23) rfl ?_); refine goesL_ (some 95) rfl rfl Try.func23 (by kernel_rfl) rfl #[.int .u64 a0] rfl (by (try simp only [List.map_toArray, List.map_cons, List.map_nil]); first | done | rfl | (simp only [List.length_drop, List.length_take]; rfl)) ?_; (with_reducible refine (flt_Neg.calls a0 t161 _ A76.out).mono ?_); rintro e w' ⟨rfl, ⟨nd, rfl⟩⟩; refine ⟨_, rfl, ?_⟩) | ((with_reducible refine gate_callee (f := 23) rfl ?_); refine goesL_ (some 97) rfl rfl Try.func23 (by kernel_rfl) rfl #[.int .u64 a1] rfl (by (try simp only [List.map_toArray, List.map_cons, List.map_nil]); first | done | rfl | (simp only [List.length_drop, List.length_take]; rfl)) ?_; (with_reducible refine (flt_Neg.calls a1 t162 _ A77.out).mono ?_); rintro e w' ⟨rfl, ⟨nd, rfl⟩⟩; refine ⟨_, rfl, ?_⟩) | ((with_reducible refine gate_callee (f := 27) rfl ?_); refine goesL_ (some 98) rfl rfl Try.func27 (by kernel_rfl) rfl #[.int .u64 t161, .int .u64 t162] rfl (by (try simp only [List.map_toArray, List.map_cons, List.map_nil]); first | done | rfl | (simp only [List.length_drop, List.length_take]; rfl)) ?_; (with_reducible refine (fadd_Add.calls kj31 t161 t162 t163 _ A78.out).mono ?_); rintro e w101 ⟨rfl, hb⟩; refine ⟨_, rfl, ?_⟩; have n0_ := Aside0.mk (below_step (by repeat (first | (with_reducible first | exact HB.out | apply below_alloc | apply pw_below_drewN | apply below_drew1) | exact HB.out)) hb); clear HB; have HB := n0_; clear n0_; (try clear hb); (try clear hb2); (try clear hk); (try clear hi)) | ((with_reducible refine gate_callee (f := 24) rfl ?_); refine goesL_ (some 99) rfl rfl Try.func24 (by kernel_rfl) rfl #[] rfl (by (try simp only [List.map_toArray, List.map_cons, List.map_nil]); first | done | rfl | (simp only [List.length_drop, List.length_take]; rfl)) ?_; (with_reducible refine (hyglaw7_first.calls kj31  true _ A79.out).mono ?_); rintro e w102 ⟨rfl, hb⟩; refine ⟨_, rfl, ?_⟩; have n0_ := Aside0.mk (below_step (by repeat (first | (with_reducible first | exact HB.out | apply below_alloc | apply pw_below_drewN | apply below_drew1) | exact HB.out)) hb); clear HB; have HB := n0_; clear n0_; (try clear hb); (try clear hb2); (try clear hk); (try clear hi)) | (go_at_call 23; (with_reducible refine (flt_Neg.calls t140 t165 _ A81.out).mono ?_); rintro e w' ⟨rfl, ⟨nd, rfl⟩⟩))
                              go_ret
                              exact ⟨by first | rfl | (simp [errW_none, errW_some] <;> rfl) | (simp [*, errW_none, errW_some] <;> rfl), by repeat (first | (with_reducible first | exact HB.out | apply below_alloc | apply pw_below_drewN | apply below_drew1) | exact HB.out)⟩
                        · replace c80 := Bool.eq_false_iff.mpr c80
                          subst c80
                          have H1 : (some false) = some r := by rw [if_neg (show ¬ (false = true) by decide)] at H; exact H
                          clear H
                          have H := H1
                          clear H1
                          obtain rfl := Option.some.inj H
                          go_wp2_with (first | ((with_reducible refine gate_callee (f := 22) rfl ?_); refine goesL_ (some 91) rfl rfl Try.func22 (by kernel_rfl) rfl #[.int .u64 t140] rfl (by (try simp only [List.map_toArray, List.map_cons, List.map_nil]); first | done | rfl | (simp only [List.length_drop, List.length_take]; rfl)) ?_; (with_reducible refine (flt_Class.calls t140 t159 _ A72.out).mono ?_); rintro e w' ⟨rfl, ⟨nd, rfl⟩⟩; refine ⟨_, rfl, ?_⟩) | ((with_reducible refine gate_callee (f := 23) rfl ?_); refine goesL_ (some 95) rfl rfl Try.func23 (by kernel_rfl) rfl #[.int .u64 a0] rfl (by (try simp only [List.map_toArray, List.map_cons, List.map_nil]); first | done | rfl | (simp only [List.length_drop, List.length_take]; rfl)) ?_; (with_reducible refine (flt_Neg.calls a0 t161 _ A76.out).mono ?_); rintro e w' ⟨rfl, ⟨nd, rfl⟩⟩; refine ⟨_, rfl, ?_⟩) | ((with_reducible refine gate_callee (f := 23) rfl ?_); refine goesL_ (some 97) rfl rfl Try.func23 (by kernel_rfl) rfl #[.int .u64 a1] rfl (by (try simp only [List.map_toArray, List.map_cons, List.map_nil]); first | done | rfl | (simp only [List.length_drop, List.length_take]; rfl)) ?_; (with_reducible refine (flt_Neg.calls a1 t162 _ A77.out).mono ?_); rintro e w' ⟨rfl, ⟨nd, rfl⟩⟩; refine ⟨_, rfl, ?_⟩) | ((with_reducible refine gate_callee (f := 27) rfl ?_); refine goesL_ (some 98) rfl rfl Try.func27 (by kernel_rfl) rfl #[.int .u64 t161, .int .u64 t162] rfl (by (try simp only [List.map_toArray, List.map_cons, List.map_nil]); first | done | rfl | (simp only [List.length_drop, List.length_take]; rfl)) ?_; (with_reducible refine (fadd_Add.calls kj31 t161 t162 t163 _ A78.out).mono ?_); rintro e w103 ⟨rfl, hb⟩; refine ⟨_, rfl, ?_⟩; have n0_ := Aside0.mk (below_step (by repeat (first | (with_reducible first | exact HB.out | apply below_alloc | apply pw_below_drewN | apply below_drew1) | exact HB.out)) hb); clear HB; have HB := n0_; clear n0_; (try clear hb); (try clear hb2); (try clear hk); (try clear hi)) | ((with_reducible refine gate_callee (f := 24) rfl ?_); refine goesL_ (some 99) rfl rfl Try.func24 (by kernel_rfl) rfl #[] rfl (by (try simp only [List.map_toArray, List.map_cons, List.map_nil]); first | done | rfl | (simp only [List.length_drop, List.length_take]; rfl)) ?_; (with_reducible refine (hyglaw7_first.calls kj31  false _ A79.out).mono ?_); rintro e w104 ⟨rfl, hb⟩; refine ⟨_, rfl, ?_⟩; have n0_ := Aside0.mk (below_step (by repeat (first | (with_reducible first | exact HB.out | apply below_alloc | apply pw_below_drewN | apply below_drew1) | exact HB.out)) hb); clear HB; have HB := n0_; clear n0_; (try clear hb); (try clear hb2); (try clear hk); (try clear hi)))
                          go_ret
                          exact ⟨by first | rfl | (simp [errW_none, errW_some] <;> rfl) | (simp [*, errW_none, errW_some] <;> rfl), by repeat (first | (with_reducible first | exact HB.out | apply below_alloc | apply pw_below_drewN | apply below_drew1) | exact HB.out)⟩
  · replace c4 := Bool.eq_false_iff.mpr c4
    subst c4
    have H1 : (some false) = some r := by rw [if_neg (show ¬ (false = true) by decide)] at H; exact H
    clear H
    have H := H1
    clear H1
    obtain rfl := Option.some.inj H
    go_enter Try.func11, Try.ntmps11
    go_wp2_with (first | ((with_reducible refine gate_callee (f := 24) rfl ?_); refine goesL_ (some 8) rfl rfl Try.func24 (by kernel_rfl) rfl #[] rfl (by (try simp only [List.map_toArray, List.map_cons, List.map_nil]); first | done | rfl | (simp only [List.length_drop, List.length_take]; rfl)) ?_; (with_reducible refine (hyglaw7_first.calls k  false _ A3.out).mono ?_); rintro e w105 ⟨rfl, hb⟩; refine ⟨_, rfl, ?_⟩; have n0_ := Aside0.mk (below_step (by repeat (first | (with_reducible first | exact HB.out | apply below_alloc | apply pw_below_drewN | apply below_drew1) | exact HB.out)) hb); clear HB; have HB := n0_; clear n0_; (try clear hb); (try clear hb2); (try clear hk); (try clear hi)))
    go_ret
    exact ⟨by first | rfl | (simp [errW_none, errW_some] <;> rfl) | (simp [*, errW_none, errW_some] <;> rfl), by repeat (first | (with_reducible first | exact HB.out | apply below_alloc | apply pw_below_drewN | apply below_drew1) | exact HB.out)⟩

/-- THE ONE PURE STATEMENT of hyglaw7_FaddTurns: yours. -/
def hyglaw7_FaddTurns.Pure : Prop := ∀ (a0 : Int) (a1 : Int), (Lit.int .u64 a0).wf = true → (Lit.int .u64 a1).wf = true → ∃ k, hyglaw7_FaddTurns.f k a0 a1 = some true
theorem hyglaw7_FaddTurns.walk (P : hyglaw7_FaddTurns.Pure) (a0 : Int) (a1 : Int) (w : World) (w0 : (Lit.int .u64 a0).wf = true) (w1 : (Lit.int .u64 a1).wf = true) :
    Calls Try.prog 11 #[.int .u64 a0, .int .u64 a1] w fun e w' => e = .returned (.bool true) ∧ Below w.heap.size w w' := by
  obtain ⟨k, h⟩ := P a0 a1 w0 w1
  refine (hyglaw7_FaddTurns.calls k a0 a1 true w h).mono ?_
  rintro e w' ⟨rfl, hd⟩
  exact ⟨rfl, hd⟩

end Go.Proofs.Ytmljncgglpckcaa.PFaddTurns
