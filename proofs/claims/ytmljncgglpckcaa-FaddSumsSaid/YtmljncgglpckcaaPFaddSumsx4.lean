-- Made by a program of this session, after the guide's print, out of the translation. Lean checks it.
import Derived.Test.YtmljncgglpckcaaPFaddSumsx0
import Derived.Test.YtmljncgglpckcaaPFaddSumsx2
import Derived.Test.YtmljncgglpckcaaPFaddSumsx3
namespace Go.Proofs.Ytmljncgglpckcaa.PFaddSums
open Go.RowKit Go.Proofs.YtmljncgglpckcaaW.PrintWords Go.Proofs.YtmljncgglpckcaaW.PrintLast Go.Proofs.YtmljncgglpckcaaW.PrintMore
attribute [local go_sem] max2_int min2_int max_two min_two max_three min_three max_four min_four   -- for this text's walks alone
set_option linter.unusedVariables false
set_option linter.unusedSimpArgs false

/-! ### hygref6_Add: function 37 -/
mutual
def hygref6_Add.j1 : Nat → Int → Int → Option (Int)
  | 0, _, _ => none
  | k + 1, x0, x1 => (hygref6_size.f x0).bind fun t145 => ((hygref6_size.f x1).bind fun t146 => (if t145 < t146 then (hygref6_Add.j2 k x1 x0) else (hygref6_Add.j2 k x0 x1)))
def hygref6_Add.j2 : Nat → Int → Int → Option (Int)
  | 0, _, _ => none
  | k + 1, x0, x1 => (hygref6_parts.f x0).bind fun bt147 => ((hygref6_parts.f x1).bind fun bt149 => (if (wrap64 ((wrap64 (bt147.2 - 10)) - (wrap64 (bt149.2 - 10)))) > 0 then (if (wrap64 ((wrap64 (bt147.2 - 10)) - (wrap64 (bt149.2 - 10)))) > 63 then (if (IntKind.u64.wrap (bt149.1 * 1024)) > 0 then (hygref6_Add.j3 k x0 x1 (IntKind.u64.wrap (bt147.1 * 1024)) (wrap64 (bt147.2 - 10)) (Go.bits .or .u64 0 1)) else (hygref6_Add.j3 k x0 x1 (IntKind.u64.wrap (bt147.1 * 1024)) (wrap64 (bt147.2 - 10)) (Go.bits .or .u64 0 0))) else (if 0 ≤ (IntKind.u64.wrap (wrap64 ((wrap64 (bt147.2 - 10)) - (wrap64 (bt149.2 - 10))))) then (if (Go.bits .and .u64 (IntKind.u64.wrap (bt149.1 * 1024)) (IntKind.u64.wrap ((shl .u64 1 (IntKind.u64.wrap (wrap64 ((wrap64 (bt147.2 - 10)) - (wrap64 (bt149.2 - 10)))))) - 1))) > 0 then (hygref6_Add.j3 k x0 x1 (IntKind.u64.wrap (bt147.1 * 1024)) (wrap64 (bt147.2 - 10)) (Go.bits .or .u64 (shr .u64 (IntKind.u64.wrap (bt149.1 * 1024)) (IntKind.u64.wrap (wrap64 ((wrap64 (bt147.2 - 10)) - (wrap64 (bt149.2 - 10)))))) 1)) else (hygref6_Add.j3 k x0 x1 (IntKind.u64.wrap (bt147.1 * 1024)) (wrap64 (bt147.2 - 10)) (Go.bits .or .u64 (shr .u64 (IntKind.u64.wrap (bt149.1 * 1024)) (IntKind.u64.wrap (wrap64 ((wrap64 (bt147.2 - 10)) - (wrap64 (bt149.2 - 10)))))) 0))) else (none))) else (hygref6_Add.j3 k x0 x1 (IntKind.u64.wrap (bt147.1 * 1024)) (wrap64 (bt147.2 - 10)) (IntKind.u64.wrap (bt149.1 * 1024)))))
def hygref6_Add.j3 : Nat → Int → Int → Int → Int → Int → Option (Int)
  | 0, _, _, _, _, _ => none
  | k + 1, x0, x1, x5, x6, x7 => (hygref6_neg.f x0).bind fun t151 => ((hygref6_neg.f x1).bind fun t152 => (if (t151 == t152) = true then ((hygref6_neg.f x0).bind fun t153 => ((hygref6_round.f k t153 (IntKind.u64.wrap (x5 + x7)) x6).bind fun t154 => (some t154))) else (if x5 = x7 then (some 0) else ((hygref6_neg.f x0).bind fun t155 => ((hygref6_round.f k t155 (IntKind.u64.wrap (x5 - x7)) x6).bind fun t156 => (some t156))))))
def hygref6_Add.j0 : Nat → Int → Int → Bool → Option (Int)
  | 0, _, _, _ => none
  | k + 1, x0, x1, x23 => if x23 = true then (some 9221120237041090560) else ((hygref6_Class.f k x0).bind fun t141 => (if t141 = 3 then (some x0) else ((hygref6_Class.f k x1).bind fun t142 => (if t142 = 3 then (some x1) else ((hygref6_size.f x0).bind fun t143 => (if t143 = 0 then ((hygref6_size.f x1).bind fun t144 => (if t144 = 0 then (some (Go.bits .and .u64 x0 x1)) else (hygref6_Add.j1 k x0 x1))) else (hygref6_Add.j1 k x0 x1)))))))
end
def hygref6_Add.f (k : Nat) (a0 : Int) (a1 : Int) : Option (Int) := (hygref6_Class.f k a0).bind fun t135 => (if t135 = 4 then ((hygref6_Quiet.f a0).bind fun t136 => (some t136)) else ((hygref6_Class.f k a1).bind fun t137 => (if t137 = 4 then ((hygref6_Quiet.f a1).bind fun t138 => (some t138)) else ((hygref6_Class.f k a0).bind fun t139 => (if t139 = 3 then ((hygref6_Class.f k a1).bind fun t140 => (if t140 = 3 then (hygref6_Add.j0 k a0 a1 (a0 != a1)) else (hygref6_Add.j0 k a0 a1 false))) else (hygref6_Add.j0 k a0 a1 false))))))
theorem hygref6_Add.mono_l : ∀ k, (∀ y0 y1, LeO (hygref6_Add.j1 k y0 y1) (hygref6_Add.j1 (k + 1) y0 y1)) ∧ (∀ y0 y1, LeO (hygref6_Add.j2 k y0 y1) (hygref6_Add.j2 (k + 1) y0 y1)) ∧ (∀ y0 y1 y2 y3 y4, LeO (hygref6_Add.j3 k y0 y1 y2 y3 y4) (hygref6_Add.j3 (k + 1) y0 y1 y2 y3 y4)) ∧ (∀ y0 y1 y2, LeO (hygref6_Add.j0 k y0 y1 y2) (hygref6_Add.j0 (k + 1) y0 y1 y2))
  | 0 => ⟨fun _ _ r h => by simp [hygref6_Add.j1] at h, fun _ _ r h => by simp [hygref6_Add.j2] at h, fun _ _ _ _ _ r h => by simp [hygref6_Add.j3] at h, fun _ _ _ r h => by simp [hygref6_Add.j0] at h⟩
  | k + 1 => by
    obtain ⟨ih0, ih1, ih2, ih3⟩ := hygref6_Add.mono_l k
    refine ⟨?_, ?_, ?_, ?_⟩
    · intro y0 y1
      unfold hygref6_Add.j1
      repeat' first
      | (with_reducible exact ih0 _ _)
      | (with_reducible exact ih1 _ _)
      | (with_reducible exact ih2 _ _ _ _ _)
      | (with_reducible exact ih3 _ _ _)
      | (with_reducible exact hygref6_Class.mono _ _)
      | (with_reducible exact hygref6_round.mono _ _ _ _)
      | (with_reducible exact LeO.refl _)
      | (with_reducible exact LeO.none _)
      | (with_reducible refine LeO.ite ?_ ?_)
      | (with_reducible refine LeO.bind ?_ (fun _ => ?_))
      | exact ih0 _ _
      | exact ih1 _ _
      | exact ih2 _ _ _ _ _
      | exact ih3 _ _ _
      | exact hygref6_Class.mono _ _
      | exact hygref6_round.mono _ _ _ _
      | exact LeO.none _
      | refine LeO.ite ?_ ?_
      | refine LeO.bind ?_ (fun _ => ?_)
    · intro y0 y1
      unfold hygref6_Add.j2
      repeat' first
      | (with_reducible exact ih0 _ _)
      | (with_reducible exact ih1 _ _)
      | (with_reducible exact ih2 _ _ _ _ _)
      | (with_reducible exact ih3 _ _ _)
      | (with_reducible exact hygref6_Class.mono _ _)
      | (with_reducible exact hygref6_round.mono _ _ _ _)
      | (with_reducible exact LeO.refl _)
      | (with_reducible exact LeO.none _)
      | (with_reducible refine LeO.ite ?_ ?_)
      | (with_reducible refine LeO.bind ?_ (fun _ => ?_))
      | exact ih0 _ _
      | exact ih1 _ _
      | exact ih2 _ _ _ _ _
      | exact ih3 _ _ _
      | exact hygref6_Class.mono _ _
      | exact hygref6_round.mono _ _ _ _
      | exact LeO.none _
      | refine LeO.ite ?_ ?_
      | refine LeO.bind ?_ (fun _ => ?_)
    · intro y0 y1 y2 y3 y4
      unfold hygref6_Add.j3
      repeat' first
      | (with_reducible exact ih0 _ _)
      | (with_reducible exact ih1 _ _)
      | (with_reducible exact ih2 _ _ _ _ _)
      | (with_reducible exact ih3 _ _ _)
      | (with_reducible exact hygref6_Class.mono _ _)
      | (with_reducible exact hygref6_round.mono _ _ _ _)
      | (with_reducible exact LeO.refl _)
      | (with_reducible exact LeO.none _)
      | (with_reducible refine LeO.ite ?_ ?_)
      | (with_reducible refine LeO.bind ?_ (fun _ => ?_))
      | exact ih0 _ _
      | exact ih1 _ _
      | exact ih2 _ _ _ _ _
      | exact ih3 _ _ _
      | exact hygref6_Class.mono _ _
      | exact hygref6_round.mono _ _ _ _
      | exact LeO.none _
      | refine LeO.ite ?_ ?_
      | refine LeO.bind ?_ (fun _ => ?_)
    · intro y0 y1 y2
      unfold hygref6_Add.j0
      repeat' first
      | (with_reducible exact ih0 _ _)
      | (with_reducible exact ih1 _ _)
      | (with_reducible exact ih2 _ _ _ _ _)
      | (with_reducible exact ih3 _ _ _)
      | (with_reducible exact hygref6_Class.mono _ _)
      | (with_reducible exact hygref6_round.mono _ _ _ _)
      | (with_reducible exact LeO.refl _)
      | (with_reducible exact LeO.none _)
      | (with_reducible refine LeO.ite ?_ ?_)
      | (with_reducible refine LeO.bind ?_ (fun _ => ?_))
      | exact ih0 _ _
      | exact ih1 _ _
      | exact ih2 _ _ _ _ _
      | exact ih3 _ _ _
      | exact hygref6_Class.mono _ _
      | exact hygref6_round.mono _ _ _ _
      | exact LeO.none _
      | refine LeO.ite ?_ ?_
      | refine LeO.bind ?_ (fun _ => ?_)
theorem hygref6_Add.mono : ∀ a0 a1 k, LeO (hygref6_Add.f k a0 a1) (hygref6_Add.f (k + 1) a0 a1) := by
  intro a0 a1 k
  obtain ⟨ih0, ih1, ih2, ih3⟩ := hygref6_Add.mono_l k
  unfold hygref6_Add.f
  repeat' first
      | (with_reducible exact ih0 _ _)
      | (with_reducible exact ih1 _ _)
      | (with_reducible exact ih2 _ _ _ _ _)
      | (with_reducible exact ih3 _ _ _)
      | (with_reducible exact hygref6_Class.mono _ _)
      | (with_reducible exact hygref6_round.mono _ _ _ _)
      | (with_reducible exact LeO.refl _)
      | (with_reducible exact LeO.none _)
      | (with_reducible refine LeO.ite ?_ ?_)
      | (with_reducible refine LeO.bind ?_ (fun _ => ?_))
      | exact ih0 _ _
      | exact ih1 _ _
      | exact ih2 _ _ _ _ _
      | exact ih3 _ _ _
      | exact hygref6_Class.mono _ _
      | exact hygref6_round.mono _ _ _ _
      | exact LeO.none _
      | refine LeO.ite ?_ ?_
      | refine LeO.bind ?_ (fun _ => ?_)
set_option maxHeartbeats 8000000 in
set_option maxRecDepth 100000 in
theorem hygref6_Add.calls (k : Nat) (a0 : Int) (a1 : Int) (r : Int) (w : World) (h : hygref6_Add.f k a0 a1 = some r) :
    Calls Try.prog 37 #[.int .u64 a0, .int .u64 a1] w fun e w' => e = .returned (.int .u64 r) ∧ Below w.heap.size w w' := by
  have HB := Aside0.mk (Below.refl w.heap.size w)
  have H : ((hygref6_Class.f k a0).bind fun t135 => (if t135 = 4 then ((hygref6_Quiet.f a0).bind fun t136 => (some t136)) else ((hygref6_Class.f k a1).bind fun t137 => (if t137 = 4 then ((hygref6_Quiet.f a1).bind fun t138 => (some t138)) else ((hygref6_Class.f k a0).bind fun t139 => (if t139 = 3 then ((hygref6_Class.f k a1).bind fun t140 => (if t140 = 3 then (hygref6_Add.j0 k a0 a1 (a0 != a1)) else (hygref6_Add.j0 k a0 a1 false))) else (hygref6_Add.j0 k a0 a1 false))))))) = some r := h
  clear h
  have HC3 := Aside0.mk H
  clear H
  go_enter Try.func37, Try.ntmps37
  go_upto_block 0 with (fail)
  go_cut [] (fun wc => ∃ (kq : Nat), Aside0 (hygref6_Add.j1 kq a0 a1 = some r) ∧ Aside0 (kq ≤ k) ∧ Aside0 (Below w.heap.size w wc))
  case first =>
    have H := HC3.out
    clear HC3
    replace H := Option.bind_eq_some_iff.mp H
    obtain ⟨t135, A40, H⟩ := H
    replace H : (if t135 = 4 then ((hygref6_Quiet.f a0).bind fun t136 => (some t136)) else ((hygref6_Class.f k a1).bind fun t137 => (if t137 = 4 then ((hygref6_Quiet.f a1).bind fun t138 => (some t138)) else ((hygref6_Class.f k a0).bind fun t139 => (if t139 = 3 then ((hygref6_Class.f k a1).bind fun t140 => (if t140 = 3 then (hygref6_Add.j0 k a0 a1 (a0 != a1)) else (hygref6_Add.j0 k a0 a1 false))) else (hygref6_Add.j0 k a0 a1 false)))))) = some r := H
    have A4 := Aside0.mk A40
    clear A40
    by_cases c5 : t135 = 4
    · rw [if_pos c5] at H
      have c5b0 : (t135 == 4) = true := beq_iff_eq.mpr c5
      have c5b1 : (t135 != 4) = false := bne_eq_false_iff_eq.mpr c5
      clear c5
      (first | rw [c5b0] | (simp only [i64_w, i32_w]; rw [c5b0]) | skip)
      replace H := Option.bind_eq_some_iff.mp H
      obtain ⟨t136, A60, H⟩ := H
      replace H : (some t136) = some r := H
      have A6 := Aside0.mk A60
      clear A60
      obtain rfl := Option.some.inj H
      go_wp2_with (first | ((with_reducible refine gate_callee (f := 30) rfl ?_); refine goesL_ (some 13) rfl rfl Try.func30 (by kernel_rfl) rfl #[.int .u64 a0] rfl (by (try simp only [List.map_toArray, List.map_cons, List.map_nil]); first | done | rfl | (simp only [List.length_drop, List.length_take]; rfl)) ?_; (with_reducible refine (hygref6_Class.calls k a0 t135 _ A4.out).mono ?_); rintro e w' ⟨rfl, ⟨nd, rfl⟩⟩; refine ⟨_, rfl, ?_⟩) | ((with_reducible refine gate_callee (f := 41) rfl ?_); refine goesL_ (some 16) rfl rfl Try.func41 (by kernel_rfl) rfl #[.int .u64 a0] rfl (by (try simp only [List.map_toArray, List.map_cons, List.map_nil]); first | done | rfl | (simp only [List.length_drop, List.length_take]; rfl)) ?_; (with_reducible refine (hygref6_Quiet.calls a0 t136 _ A6.out).mono ?_); rintro e w' ⟨rfl, ⟨nd, rfl⟩⟩; refine ⟨_, rfl, ?_⟩))
      go_ret
      exact ⟨by first | rfl | (simp [errW_none, errW_some] <;> rfl) | (simp [*, errW_none, errW_some] <;> rfl), by repeat (first | (with_reducible first | exact HB.out | apply below_alloc | apply pw_below_drewN | apply below_drew1) | exact HB.out)⟩
    · rw [if_neg c5] at H
      have c5b0 : (t135 == 4) = false := beq_eq_false_iff_ne.mpr c5
      have c5b1 : (t135 != 4) = true := bne_iff_ne.mpr c5
      (first | rw [c5b0] | (simp only [i64_w, i32_w]; rw [c5b0]) | skip)
      replace H := Option.bind_eq_some_iff.mp H
      obtain ⟨t137, A70, H⟩ := H
      replace H : (if t137 = 4 then ((hygref6_Quiet.f a1).bind fun t138 => (some t138)) else ((hygref6_Class.f k a0).bind fun t139 => (if t139 = 3 then ((hygref6_Class.f k a1).bind fun t140 => (if t140 = 3 then (hygref6_Add.j0 k a0 a1 (a0 != a1)) else (hygref6_Add.j0 k a0 a1 false))) else (hygref6_Add.j0 k a0 a1 false)))) = some r := H
      have A7 := Aside0.mk A70
      clear A70
      by_cases c8 : t137 = 4
      · rw [if_pos c8] at H
        have c8b0 : (t137 == 4) = true := beq_iff_eq.mpr c8
        have c8b1 : (t137 != 4) = false := bne_eq_false_iff_eq.mpr c8
        clear c8
        replace H := Option.bind_eq_some_iff.mp H
        obtain ⟨t138, A90, H⟩ := H
        replace H : (some t138) = some r := H
        have A9 := Aside0.mk A90
        clear A90
        obtain rfl := Option.some.inj H
        go_wp2_with (first | ((with_reducible refine gate_callee (f := 30) rfl ?_); refine goesL_ (some 13) rfl rfl Try.func30 (by kernel_rfl) rfl #[.int .u64 a0] rfl (by (try simp only [List.map_toArray, List.map_cons, List.map_nil]); first | done | rfl | (simp only [List.length_drop, List.length_take]; rfl)) ?_; (with_reducible refine (hygref6_Class.calls k a0 t135 _ A4.out).mono ?_); rintro e w' ⟨rfl, ⟨nd, rfl⟩⟩; refine ⟨_, rfl, ?_⟩) | ((with_reducible refine gate_callee (f := 30) rfl ?_); refine goesL_ (some 19) rfl rfl Try.func30 (by kernel_rfl) rfl #[.int .u64 a1] rfl (by (try simp only [List.map_toArray, List.map_cons, List.map_nil]); first | done | rfl | (simp only [List.length_drop, List.length_take]; rfl)) ?_; (with_reducible refine (hygref6_Class.calls k a1 t137 _ A7.out).mono ?_); rintro e w' ⟨rfl, ⟨nd, rfl⟩⟩; refine ⟨_, rfl, ?_⟩) | ((with_reducible refine gate_callee (f := 41) rfl ?_); refine goesL_ (some 22) rfl rfl Try.func41 (by kernel_rfl) rfl #[.int .u64 a1] rfl (by (try simp only [List.map_toArray, List.map_cons, List.map_nil]); first | done | rfl | (simp only [List.length_drop, List.length_take]; rfl)) ?_; (with_reducible refine (hygref6_Quiet.calls a1 t138 _ A9.out).mono ?_); rintro e w' ⟨rfl, ⟨nd, rfl⟩⟩; refine ⟨_, rfl, ?_⟩))
        go_ret
        exact ⟨by first | rfl | (simp [errW_none, errW_some] <;> rfl) | (simp [*, errW_none, errW_some] <;> rfl), by repeat (first | (with_reducible first | exact HB.out | apply below_alloc | apply pw_below_drewN | apply below_drew1) | exact HB.out)⟩
      · rw [if_neg c8] at H
        have c8b0 : (t137 == 4) = false := beq_eq_false_iff_ne.mpr c8
        have c8b1 : (t137 != 4) = true := bne_iff_ne.mpr c8
        have HC10 := Aside0.mk H
        clear H
        go_upto_region 5 with (first | ((with_reducible refine gate_callee (f := 30) rfl ?_); refine goesL_ (some 13) rfl rfl Try.func30 (by kernel_rfl) rfl #[.int .u64 a0] rfl (by (try simp only [List.map_toArray, List.map_cons, List.map_nil]); first | done | rfl | (simp only [List.length_drop, List.length_take]; rfl)) ?_; (with_reducible refine (hygref6_Class.calls k a0 t135 _ A4.out).mono ?_); rintro e w' ⟨rfl, ⟨nd, rfl⟩⟩; refine ⟨_, rfl, ?_⟩) | ((with_reducible refine gate_callee (f := 30) rfl ?_); refine goesL_ (some 19) rfl rfl Try.func30 (by kernel_rfl) rfl #[.int .u64 a1] rfl (by (try simp only [List.map_toArray, List.map_cons, List.map_nil]); first | done | rfl | (simp only [List.length_drop, List.length_take]; rfl)) ?_; (with_reducible refine (hygref6_Class.calls k a1 t137 _ A7.out).mono ?_); rintro e w' ⟨rfl, ⟨nd, rfl⟩⟩; refine ⟨_, rfl, ?_⟩))
        (try simp only [Act.put, List.setIfInBounds_toArray, List.set_cons_zero, List.set_cons_succ])
        go_cut [23] (fun v23 wc => ∃ (kq : Nat) (x23_9 : Bool), v23 = .bool x23_9 ∧ Aside0 (hygref6_Add.j0 kq a0 a1 x23_9 = some r) ∧ Aside0 (kq ≤ k) ∧ Aside0 (Below w.heap.size w wc))
        case first =>
          have H := HC10.out
          clear HC10
          replace H := Option.bind_eq_some_iff.mp H
          obtain ⟨t139, A110, H⟩ := H
          replace H : (if t139 = 3 then ((hygref6_Class.f k a1).bind fun t140 => (if t140 = 3 then (hygref6_Add.j0 k a0 a1 (a0 != a1)) else (hygref6_Add.j0 k a0 a1 false))) else (hygref6_Add.j0 k a0 a1 false)) = some r := H
          have A11 := Aside0.mk A110
          clear A110
          by_cases c12 : t139 = 3
          · rw [if_pos c12] at H
            have c12b0 : (t139 == 3) = true := beq_iff_eq.mpr c12
            have c12b1 : (t139 != 3) = false := bne_eq_false_iff_eq.mpr c12
            clear c12
            (first | rw [c12b0] | (simp only [i64_w, i32_w]; rw [c12b0]) | skip)
            replace H := Option.bind_eq_some_iff.mp H
            obtain ⟨t140, A130, H⟩ := H
            replace H : (if t140 = 3 then (hygref6_Add.j0 k a0 a1 (a0 != a1)) else (hygref6_Add.j0 k a0 a1 false)) = some r := H
            have A13 := Aside0.mk A130
            clear A130
            by_cases c14 : t140 = 3
            · rw [if_pos c14] at H
              have c14b0 : (t140 == 3) = true := beq_iff_eq.mpr c14
              have c14b1 : (t140 != 3) = false := bne_eq_false_iff_eq.mpr c14
              clear c14
              have H' := Aside0.mk H
              clear H
              go_wp2_with (first | ((with_reducible refine gate_callee (f := 30) rfl ?_); refine goesL_ (some 25) rfl rfl Try.func30 (by kernel_rfl) rfl #[.int .u64 a0] rfl (by (try simp only [List.map_toArray, List.map_cons, List.map_nil]); first | done | rfl | (simp only [List.length_drop, List.length_take]; rfl)) ?_; (with_reducible refine (hygref6_Class.calls k a0 t139 _ A11.out).mono ?_); rintro e w' ⟨rfl, ⟨nd, rfl⟩⟩; refine ⟨_, rfl, ?_⟩) | (go_at_call 30; (with_reducible refine (hygref6_Class.calls k a1 t140 _ A13.out).mono ?_); rintro e w' ⟨rfl, ⟨nd, rfl⟩⟩))
              go_meet
              case rel => exact ⟨_, ((a0 != a1)), (by first | rfl | (simp; done) | (simp [*]; done)), H', ⟨by first | omega | exact Nat.le_refl _⟩, ⟨by repeat (first | (with_reducible first | exact HB.out | apply below_alloc | apply pw_below_drewN | apply below_drew1) | exact HB.out)⟩⟩
            · rw [if_neg c14] at H
              have c14b0 : (t140 == 3) = false := beq_eq_false_iff_ne.mpr c14
              have c14b1 : (t140 != 3) = true := bne_iff_ne.mpr c14
              have H' := Aside0.mk H
              clear H
              go_wp2_with (first | ((with_reducible refine gate_callee (f := 30) rfl ?_); refine goesL_ (some 25) rfl rfl Try.func30 (by kernel_rfl) rfl #[.int .u64 a0] rfl (by (try simp only [List.map_toArray, List.map_cons, List.map_nil]); first | done | rfl | (simp only [List.length_drop, List.length_take]; rfl)) ?_; (with_reducible refine (hygref6_Class.calls k a0 t139 _ A11.out).mono ?_); rintro e w' ⟨rfl, ⟨nd, rfl⟩⟩; refine ⟨_, rfl, ?_⟩) | (go_at_call 30; (with_reducible refine (hygref6_Class.calls k a1 t140 _ A13.out).mono ?_); rintro e w' ⟨rfl, ⟨nd, rfl⟩⟩))
              go_meet
              case rel => exact ⟨_, (false), (by first | rfl | (simp; done) | (simp [*]; done)), H', ⟨by first | omega | exact Nat.le_refl _⟩, ⟨by repeat (first | (with_reducible first | exact HB.out | apply below_alloc | apply pw_below_drewN | apply below_drew1) | exact HB.out)⟩⟩
          · rw [if_neg c12] at H
            have c12b0 : (t139 == 3) = false := beq_eq_false_iff_ne.mpr c12
            have c12b1 : (t139 != 3) = true := bne_iff_ne.mpr c12
            (first | rw [c12b0] | (simp only [i64_w, i32_w]; rw [c12b0]) | skip)
            have H' := Aside0.mk H
            clear H
            go_wp2_with (first | ((with_reducible refine gate_callee (f := 30) rfl ?_); refine goesL_ (some 25) rfl rfl Try.func30 (by kernel_rfl) rfl #[.int .u64 a0] rfl (by (try simp only [List.map_toArray, List.map_cons, List.map_nil]); first | done | rfl | (simp only [List.length_drop, List.length_take]; rfl)) ?_; (with_reducible refine (hygref6_Class.calls k a0 t139 _ A11.out).mono ?_); rintro e w' ⟨rfl, ⟨nd, rfl⟩⟩; refine ⟨_, rfl, ?_⟩))
            go_meet
            case rel => exact ⟨_, (false), (by first | rfl | (simp; done) | (simp [*]; done)), H', ⟨by first | omega | exact Nat.le_refl _⟩, ⟨by repeat (first | (with_reducible first | exact HB.out | apply below_alloc | apply pw_below_drewN | apply below_drew1) | exact HB.out)⟩⟩
        case rest =>
          clear HC10
          try clear c1
          try clear p2
          try clear c3
          try clear c4
          try clear c5
          try clear c5b0
          try clear c5b1
          try clear c8
          try clear c8b0
          try clear c8b1
          try clear c12
          try clear c12b0
          try clear c12b1
          try clear c14
          try clear c14b0
          try clear c14b1
          obtain ⟨kq, x23_9, rfl, HA, HJ9, HB⟩ := hcut
          cases kq with
          | zero => exact absurd HA.out (by simp [hygref6_Add.j0])
          | succ kj9 =>
            have H := HA.out
            clear HA
            simp only [hygref6_Add.j0] at H
            by_cases c15 : x23_9 = true
            · subst c15
              have H1 : (some 9221120237041090560) = some r := by rw [if_pos rfl] at H; exact H
              clear H
              have H := H1
              clear H1
              obtain rfl := Option.some.inj H
              go_wp2
              go_ret
              exact ⟨by first | rfl | (simp [errW_none, errW_some] <;> rfl) | (simp [*, errW_none, errW_some] <;> rfl), by repeat (first | (with_reducible first | exact HB.out | apply below_alloc | apply pw_below_drewN | apply below_drew1) | exact HB.out)⟩
            · replace c15 := Bool.eq_false_iff.mpr c15
              subst c15
              have H1 : ((hygref6_Class.f kj9 a0).bind fun t141 => (if t141 = 3 then (some a0) else ((hygref6_Class.f kj9 a1).bind fun t142 => (if t142 = 3 then (some a1) else ((hygref6_size.f a0).bind fun t143 => (if t143 = 0 then ((hygref6_size.f a1).bind fun t144 => (if t144 = 0 then (some (Go.bits .and .u64 a0 a1)) else (hygref6_Add.j1 kj9 a0 a1))) else (hygref6_Add.j1 kj9 a0 a1))))))) = some r := by rw [if_neg (show ¬ (false = true) by decide)] at H; exact H
              clear H
              have H := H1
              clear H1
              replace H := Option.bind_eq_some_iff.mp H
              obtain ⟨t141, A160, H⟩ := H
              replace H : (if t141 = 3 then (some a0) else ((hygref6_Class.f kj9 a1).bind fun t142 => (if t142 = 3 then (some a1) else ((hygref6_size.f a0).bind fun t143 => (if t143 = 0 then ((hygref6_size.f a1).bind fun t144 => (if t144 = 0 then (some (Go.bits .and .u64 a0 a1)) else (hygref6_Add.j1 kj9 a0 a1))) else (hygref6_Add.j1 kj9 a0 a1)))))) = some r := H
              have A16 := Aside0.mk A160
              clear A160
              by_cases c17 : t141 = 3
              · rw [if_pos c17] at H
                have c17b0 : (t141 == 3) = true := beq_iff_eq.mpr c17
                have c17b1 : (t141 != 3) = false := bne_eq_false_iff_eq.mpr c17
                clear c17
                obtain rfl := Option.some.inj H
                go_wp2_with (first | ((with_reducible refine gate_callee (f := 30) rfl ?_); refine goesL_ (some 39) rfl rfl Try.func30 (by kernel_rfl) rfl #[.int .u64 a0] rfl (by (try simp only [List.map_toArray, List.map_cons, List.map_nil]); first | done | rfl | (simp only [List.length_drop, List.length_take]; rfl)) ?_; (with_reducible refine (hygref6_Class.calls kj9 a0 t141 _ A16.out).mono ?_); rintro e w' ⟨rfl, ⟨nd, rfl⟩⟩; refine ⟨_, rfl, ?_⟩))
                go_ret
                exact ⟨by first | rfl | (simp [errW_none, errW_some] <;> rfl) | (simp [*, errW_none, errW_some] <;> rfl), by repeat (first | (with_reducible first | exact HB.out | apply below_alloc | apply pw_below_drewN | apply below_drew1) | exact HB.out)⟩
              · rw [if_neg c17] at H
                have c17b0 : (t141 == 3) = false := beq_eq_false_iff_ne.mpr c17
                have c17b1 : (t141 != 3) = true := bne_iff_ne.mpr c17
                replace H := Option.bind_eq_some_iff.mp H
                obtain ⟨t142, A180, H⟩ := H
                replace H : (if t142 = 3 then (some a1) else ((hygref6_size.f a0).bind fun t143 => (if t143 = 0 then ((hygref6_size.f a1).bind fun t144 => (if t144 = 0 then (some (Go.bits .and .u64 a0 a1)) else (hygref6_Add.j1 kj9 a0 a1))) else (hygref6_Add.j1 kj9 a0 a1)))) = some r := H
                have A18 := Aside0.mk A180
                clear A180
                by_cases c19 : t142 = 3
                · rw [if_pos c19] at H
                  have c19b0 : (t142 == 3) = true := beq_iff_eq.mpr c19
                  have c19b1 : (t142 != 3) = false := bne_eq_false_iff_eq.mpr c19
                  clear c19
                  obtain rfl := Option.some.inj H
                  go_wp2_with (first | ((with_reducible refine gate_callee (f := 30) rfl ?_); refine goesL_ (some 39) rfl rfl Try.func30 (by kernel_rfl) rfl #[.int .u64 a0] rfl (by (try simp only [List.map_toArray, List.map_cons, List.map_nil]); first | done | rfl | (simp only [List.length_drop, List.length_take]; rfl)) ?_; (with_reducible refine (hygref6_Class.calls kj9 a0 t141 _ A16.out).mono ?_); rintro e w' ⟨rfl, ⟨nd, rfl⟩⟩; refine ⟨_, rfl, ?_⟩) | ((with_reducible refine gate_callee (f := 30) rfl ?_); refine goesL_ (some 44) rfl rfl Try.func30 (by kernel_rfl) rfl #[.int .u64 a1] rfl (by (try simp only [List.map_toArray, List.map_cons, List.map_nil]); first | done | rfl | (simp only [List.length_drop, List.length_take]; rfl)) ?_; (with_reducible refine (hygref6_Class.calls kj9 a1 t142 _ A18.out).mono ?_); rintro e w' ⟨rfl, ⟨nd, rfl⟩⟩; refine ⟨_, rfl, ?_⟩))
                  go_ret
                  exact ⟨by first | rfl | (simp [errW_none, errW_some] <;> rfl) | (simp [*, errW_none, errW_some] <;> rfl), by repeat (first | (with_reducible first | exact HB.out | apply below_alloc | apply pw_below_drewN | apply below_drew1) | exact HB.out)⟩
                · rw [if_neg c19] at H
                  have c19b0 : (t142 == 3) = false := beq_eq_false_iff_ne.mpr c19
                  have c19b1 : (t142 != 3) = true := bne_iff_ne.mpr c19
                  replace H := Option.bind_eq_some_iff.mp H
                  obtain ⟨t143, A200, H⟩ := H
                  replace H : (if t143 = 0 then ((hygref6_size.f a1).bind fun t144 => (if t144 = 0 then (some (Go.bits .and .u64 a0 a1)) else (hygref6_Add.j1 kj9 a0 a1))) else (hygref6_Add.j1 kj9 a0 a1)) = some r := H
                  have A20 := Aside0.mk A200
                  clear A200
                  by_cases c21 : t143 = 0
                  · rw [if_pos c21] at H
                    have c21b0 : (t143 == 0) = true := beq_iff_eq.mpr c21
                    have c21b1 : (t143 != 0) = false := bne_eq_false_iff_eq.mpr c21
                    clear c21
                    replace H := Option.bind_eq_some_iff.mp H
                    obtain ⟨t144, A220, H⟩ := H
                    replace H : (if t144 = 0 then (some (Go.bits .and .u64 a0 a1)) else (hygref6_Add.j1 kj9 a0 a1)) = some r := H
                    have A22 := Aside0.mk A220
                    clear A220
                    by_cases c23 : t144 = 0
                    · rw [if_pos c23] at H
                      have c23b0 : (t144 == 0) = true := beq_iff_eq.mpr c23
                      have c23b1 : (t144 != 0) = false := bne_eq_false_iff_eq.mpr c23
                      clear c23
                      obtain rfl := Option.some.inj H
                      go_wp2_with (first | ((with_reducible refine gate_callee (f := 30) rfl ?_); refine goesL_ (some 39) rfl rfl Try.func30 (by kernel_rfl) rfl #[.int .u64 a0] rfl (by (try simp only [List.map_toArray, List.map_cons, List.map_nil]); first | done | rfl | (simp only [List.length_drop, List.length_take]; rfl)) ?_; (with_reducible refine (hygref6_Class.calls kj9 a0 t141 _ A16.out).mono ?_); rintro e w' ⟨rfl, ⟨nd, rfl⟩⟩; refine ⟨_, rfl, ?_⟩) | ((with_reducible refine gate_callee (f := 30) rfl ?_); refine goesL_ (some 44) rfl rfl Try.func30 (by kernel_rfl) rfl #[.int .u64 a1] rfl (by (try simp only [List.map_toArray, List.map_cons, List.map_nil]); first | done | rfl | (simp only [List.length_drop, List.length_take]; rfl)) ?_; (with_reducible refine (hygref6_Class.calls kj9 a1 t142 _ A18.out).mono ?_); rintro e w' ⟨rfl, ⟨nd, rfl⟩⟩; refine ⟨_, rfl, ?_⟩) | ((with_reducible refine gate_callee (f := 52) rfl ?_); refine goesL_ (some 49) rfl rfl Try.func52 (by kernel_rfl) rfl #[.int .u64 a0] rfl (by (try simp only [List.map_toArray, List.map_cons, List.map_nil]); first | done | rfl | (simp only [List.length_drop, List.length_take]; rfl)) ?_; (with_reducible refine (hygref6_size.calls a0 t143 _ A20.out).mono ?_); rintro e w' ⟨rfl, ⟨nd, rfl⟩⟩; refine ⟨_, rfl, ?_⟩) | (go_at_call 52; (with_reducible refine (hygref6_size.calls a1 t144 _ A22.out).mono ?_); rintro e w' ⟨rfl, ⟨nd, rfl⟩⟩))
                      go_ret
                      exact ⟨by first | rfl | (simp [errW_none, errW_some] <;> rfl) | (simp [*, errW_none, errW_some] <;> rfl), by repeat (first | (with_reducible first | exact HB.out | apply below_alloc | apply pw_below_drewN | apply below_drew1) | exact HB.out)⟩
                    · rw [if_neg c23] at H
                      have c23b0 : (t144 == 0) = false := beq_eq_false_iff_ne.mpr c23
                      have c23b1 : (t144 != 0) = true := bne_iff_ne.mpr c23
                      have H' := Aside0.mk H
                      clear H
                      go_wp2_with (first | ((with_reducible refine gate_callee (f := 30) rfl ?_); refine goesL_ (some 39) rfl rfl Try.func30 (by kernel_rfl) rfl #[.int .u64 a0] rfl (by (try simp only [List.map_toArray, List.map_cons, List.map_nil]); first | done | rfl | (simp only [List.length_drop, List.length_take]; rfl)) ?_; (with_reducible refine (hygref6_Class.calls kj9 a0 t141 _ A16.out).mono ?_); rintro e w' ⟨rfl, ⟨nd, rfl⟩⟩; refine ⟨_, rfl, ?_⟩) | ((with_reducible refine gate_callee (f := 30) rfl ?_); refine goesL_ (some 44) rfl rfl Try.func30 (by kernel_rfl) rfl #[.int .u64 a1] rfl (by (try simp only [List.map_toArray, List.map_cons, List.map_nil]); first | done | rfl | (simp only [List.length_drop, List.length_take]; rfl)) ?_; (with_reducible refine (hygref6_Class.calls kj9 a1 t142 _ A18.out).mono ?_); rintro e w' ⟨rfl, ⟨nd, rfl⟩⟩; refine ⟨_, rfl, ?_⟩) | ((with_reducible refine gate_callee (f := 52) rfl ?_); refine goesL_ (some 49) rfl rfl Try.func52 (by kernel_rfl) rfl #[.int .u64 a0] rfl (by (try simp only [List.map_toArray, List.map_cons, List.map_nil]); first | done | rfl | (simp only [List.length_drop, List.length_take]; rfl)) ?_; (with_reducible refine (hygref6_size.calls a0 t143 _ A20.out).mono ?_); rintro e w' ⟨rfl, ⟨nd, rfl⟩⟩; refine ⟨_, rfl, ?_⟩) | (go_at_call 52; (with_reducible refine (hygref6_size.calls a1 t144 _ A22.out).mono ?_); rintro e w' ⟨rfl, ⟨nd, rfl⟩⟩))
                      go_meet
                      case rel => exact ⟨_, H', ⟨by have := HJ9.out; first | omega | exact Nat.le_refl _⟩, ⟨by repeat (first | (with_reducible first | exact HB.out | apply below_alloc | apply pw_below_drewN | apply below_drew1) | exact HB.out)⟩⟩
                  · rw [if_neg c21] at H
                    have c21b0 : (t143 == 0) = false := beq_eq_false_iff_ne.mpr c21
                    have c21b1 : (t143 != 0) = true := bne_iff_ne.mpr c21
                    have H' := Aside0.mk H
                    clear H
                    go_wp2_with (first | ((with_reducible refine gate_callee (f := 30) rfl ?_); refine goesL_ (some 39) rfl rfl Try.func30 (by kernel_rfl) rfl #[.int .u64 a0] rfl (by (try simp only [List.map_toArray, List.map_cons, List.map_nil]); first | done | rfl | (simp only [List.length_drop, List.length_take]; rfl)) ?_; (with_reducible refine (hygref6_Class.calls kj9 a0 t141 _ A16.out).mono ?_); rintro e w' ⟨rfl, ⟨nd, rfl⟩⟩; refine ⟨_, rfl, ?_⟩) | ((with_reducible refine gate_callee (f := 30) rfl ?_); refine goesL_ (some 44) rfl rfl Try.func30 (by kernel_rfl) rfl #[.int .u64 a1] rfl (by (try simp only [List.map_toArray, List.map_cons, List.map_nil]); first | done | rfl | (simp only [List.length_drop, List.length_take]; rfl)) ?_; (with_reducible refine (hygref6_Class.calls kj9 a1 t142 _ A18.out).mono ?_); rintro e w' ⟨rfl, ⟨nd, rfl⟩⟩; refine ⟨_, rfl, ?_⟩) | ((with_reducible refine gate_callee (f := 52) rfl ?_); refine goesL_ (some 49) rfl rfl Try.func52 (by kernel_rfl) rfl #[.int .u64 a0] rfl (by (try simp only [List.map_toArray, List.map_cons, List.map_nil]); first | done | rfl | (simp only [List.length_drop, List.length_take]; rfl)) ?_; (with_reducible refine (hygref6_size.calls a0 t143 _ A20.out).mono ?_); rintro e w' ⟨rfl, ⟨nd, rfl⟩⟩; refine ⟨_, rfl, ?_⟩))
                    go_meet
                    case rel => exact ⟨_, H', ⟨by have := HJ9.out; first | omega | exact Nat.le_refl _⟩, ⟨by repeat (first | (with_reducible first | exact HB.out | apply below_alloc | apply pw_below_drewN | apply below_drew1) | exact HB.out)⟩⟩
  case rest =>
    clear HC3
    try clear c1
    try clear c2
    try clear p2
    try clear c3
    try clear c4
    try clear c5
    try clear c5b0
    try clear c5b1
    try clear c8
    try clear c8b0
    try clear c8b1
    try clear c12
    try clear c12b0
    try clear c12b1
    try clear c14
    try clear c14b0
    try clear c14b1
    try clear c15
    try clear c17
    try clear c17b0
    try clear c17b1
    try clear c19
    try clear c19b0
    try clear c19b1
    try clear c21
    try clear c21b0
    try clear c21b1
    try clear c23
    try clear c23b0
    try clear c23b1
    try clear p2
    obtain ⟨kq, HA, HJ2, HB⟩ := hcut
    cases kq with
    | zero => exact absurd HA.out (by simp [hygref6_Add.j1])
    | succ kj2 =>
      have H := HA.out
      clear HA
      simp only [hygref6_Add.j1] at H
      replace H := Option.bind_eq_some_iff.mp H
      obtain ⟨t145, A240, H⟩ := H
      replace H : ((hygref6_size.f a1).bind fun t146 => (if t145 < t146 then (hygref6_Add.j2 kj2 a1 a0) else (hygref6_Add.j2 kj2 a0 a1))) = some r := H
      have A24 := Aside0.mk A240
      clear A240
      replace H := Option.bind_eq_some_iff.mp H
      obtain ⟨t146, A250, H⟩ := H
      replace H : (if t145 < t146 then (hygref6_Add.j2 kj2 a1 a0) else (hygref6_Add.j2 kj2 a0 a1)) = some r := H
      have A25 := Aside0.mk A250
      clear A250
      have HC26 := Aside0.mk H
      clear H
      go_upto_if 63 with (first | ((with_reducible refine gate_callee (f := 52) rfl ?_); refine goesL_ (some 60) rfl rfl Try.func52 (by kernel_rfl) rfl #[.int .u64 a0] rfl (by (try simp only [List.map_toArray, List.map_cons, List.map_nil]); first | done | rfl | (simp only [List.length_drop, List.length_take]; rfl)) ?_; (with_reducible refine (hygref6_size.calls a0 t145 _ A24.out).mono ?_); rintro e w' ⟨rfl, ⟨nd, rfl⟩⟩; refine ⟨_, rfl, ?_⟩) | ((with_reducible refine gate_callee (f := 52) rfl ?_); refine goesL_ (some 62) rfl rfl Try.func52 (by kernel_rfl) rfl #[.int .u64 a1] rfl (by (try simp only [List.map_toArray, List.map_cons, List.map_nil]); first | done | rfl | (simp only [List.length_drop, List.length_take]; rfl)) ?_; (with_reducible refine (hygref6_size.calls a1 t146 _ A25.out).mono ?_); rintro e w' ⟨rfl, ⟨nd, rfl⟩⟩; refine ⟨_, rfl, ?_⟩))
      (try simp only [Act.put, List.setIfInBounds_toArray, List.set_cons_zero, List.set_cons_succ])
      go_cut [0, 1] (fun v0 v1 wc => ∃ (kq : Nat) (x0_25 : Int) (x1_25 : Int), v0 = .int .u64 x0_25 ∧ v1 = .int .u64 x1_25 ∧ Aside0 (hygref6_Add.j2 kq x0_25 x1_25 = some r) ∧ Aside0 (kq ≤ kj2) ∧ Aside0 (Below w.heap.size w wc))
      case first =>
        have H := HC26.out
        clear HC26
        by_cases c27 : t145 < t146
        · rw [if_pos c27] at H
          have c27b0 : decide (t145 < t146) = true := decide_eq_true c27
          clear c27
          (first | rw [c27b0] | (simp only [i64_w, i32_w]; rw [c27b0]) | skip)
          have H' := Aside0.mk H
          clear H
          go_wp2
          go_meet
          case rel => exact ⟨_, (a1), (a0), (by first | rfl | (simp; done) | (simp [*]; done)), (by first | rfl | (simp; done) | (simp [*]; done)), H', ⟨by have := HJ2.out; first | omega | exact Nat.le_refl _⟩, ⟨by repeat (first | (with_reducible first | exact HB.out | apply below_alloc | apply pw_below_drewN | apply below_drew1) | exact HB.out)⟩⟩
        · rw [if_neg c27] at H
          have c27b0 : decide (t145 < t146) = false := decide_eq_false c27
          clear c27
          (first | rw [c27b0] | (simp only [i64_w, i32_w]; rw [c27b0]) | skip)
          have H' := Aside0.mk H
          clear H
          go_wp2
          go_meet
          case rel => exact ⟨_, (a0), (a1), (by first | rfl | (simp; done) | (simp [*]; done)), (by first | rfl | (simp; done) | (simp [*]; done)), H', ⟨by have := HJ2.out; first | omega | exact Nat.le_refl _⟩, ⟨by repeat (first | (with_reducible first | exact HB.out | apply below_alloc | apply pw_below_drewN | apply below_drew1) | exact HB.out)⟩⟩
      case rest =>
        clear HC26
        try clear c1
        try clear c2
        try clear p2
        try clear c3
        try clear c4
        try clear c5
        try clear c5b0
        try clear c5b1
        try clear c8
        try clear c8b0
        try clear c8b1
        try clear c12
        try clear c12b0
        try clear c12b1
        try clear c14
        try clear c14b0
        try clear c14b1
        try clear c15
        try clear c17
        try clear c17b0
        try clear c17b1
        try clear c19
        try clear c19b0
        try clear c19b1
        try clear c21
        try clear c21b0
        try clear c21b1
        try clear c23
        try clear c23b0
        try clear c23b1
        try clear c27
        try clear c27b0
        try clear p2
        obtain ⟨kq, x0_25, x1_25, rfl, rfl, HA, HJ25, HB⟩ := hcut
        cases kq with
        | zero => exact absurd HA.out (by simp [hygref6_Add.j2])
        | succ kj25 =>
          have H := HA.out
          clear HA
          simp only [hygref6_Add.j2] at H
          replace H := Option.bind_eq_some_iff.mp H
          obtain ⟨⟨t147, t148⟩, A280, H⟩ := H
          replace H : ((hygref6_parts.f x1_25).bind fun bt149 => (if (wrap64 ((wrap64 (t148 - 10)) - (wrap64 (bt149.2 - 10)))) > 0 then (if (wrap64 ((wrap64 (t148 - 10)) - (wrap64 (bt149.2 - 10)))) > 63 then (if (IntKind.u64.wrap (bt149.1 * 1024)) > 0 then (hygref6_Add.j3 kj25 x0_25 x1_25 (IntKind.u64.wrap (t147 * 1024)) (wrap64 (t148 - 10)) (Go.bits .or .u64 0 1)) else (hygref6_Add.j3 kj25 x0_25 x1_25 (IntKind.u64.wrap (t147 * 1024)) (wrap64 (t148 - 10)) (Go.bits .or .u64 0 0))) else (if 0 ≤ (IntKind.u64.wrap (wrap64 ((wrap64 (t148 - 10)) - (wrap64 (bt149.2 - 10))))) then (if (Go.bits .and .u64 (IntKind.u64.wrap (bt149.1 * 1024)) (IntKind.u64.wrap ((shl .u64 1 (IntKind.u64.wrap (wrap64 ((wrap64 (t148 - 10)) - (wrap64 (bt149.2 - 10)))))) - 1))) > 0 then (hygref6_Add.j3 kj25 x0_25 x1_25 (IntKind.u64.wrap (t147 * 1024)) (wrap64 (t148 - 10)) (Go.bits .or .u64 (shr .u64 (IntKind.u64.wrap (bt149.1 * 1024)) (IntKind.u64.wrap (wrap64 ((wrap64 (t148 - 10)) - (wrap64 (bt149.2 - 10)))))) 1)) else (hygref6_Add.j3 kj25 x0_25 x1_25 (IntKind.u64.wrap (t147 * 1024)) (wrap64 (t148 - 10)) (Go.bits .or .u64 (shr .u64 (IntKind.u64.wrap (bt149.1 * 1024)) (IntKind.u64.wrap (wrap64 ((wrap64 (t148 - 10)) - (wrap64 (bt149.2 - 10)))))) 0))) else (none))) else (hygref6_Add.j3 kj25 x0_25 x1_25 (IntKind.u64.wrap (t147 * 1024)) (wrap64 (t148 - 10)) (IntKind.u64.wrap (bt149.1 * 1024))))) = some r := H
          have A28 := Aside0.mk A280
          clear A280
          replace H := Option.bind_eq_some_iff.mp H
          obtain ⟨⟨t149, t150⟩, A290, H⟩ := H
          replace H : (if (wrap64 ((wrap64 (t148 - 10)) - (wrap64 (t150 - 10)))) > 0 then (if (wrap64 ((wrap64 (t148 - 10)) - (wrap64 (t150 - 10)))) > 63 then (if (IntKind.u64.wrap (t149 * 1024)) > 0 then (hygref6_Add.j3 kj25 x0_25 x1_25 (IntKind.u64.wrap (t147 * 1024)) (wrap64 (t148 - 10)) (Go.bits .or .u64 0 1)) else (hygref6_Add.j3 kj25 x0_25 x1_25 (IntKind.u64.wrap (t147 * 1024)) (wrap64 (t148 - 10)) (Go.bits .or .u64 0 0))) else (if 0 ≤ (IntKind.u64.wrap (wrap64 ((wrap64 (t148 - 10)) - (wrap64 (t150 - 10))))) then (if (Go.bits .and .u64 (IntKind.u64.wrap (t149 * 1024)) (IntKind.u64.wrap ((shl .u64 1 (IntKind.u64.wrap (wrap64 ((wrap64 (t148 - 10)) - (wrap64 (t150 - 10)))))) - 1))) > 0 then (hygref6_Add.j3 kj25 x0_25 x1_25 (IntKind.u64.wrap (t147 * 1024)) (wrap64 (t148 - 10)) (Go.bits .or .u64 (shr .u64 (IntKind.u64.wrap (t149 * 1024)) (IntKind.u64.wrap (wrap64 ((wrap64 (t148 - 10)) - (wrap64 (t150 - 10)))))) 1)) else (hygref6_Add.j3 kj25 x0_25 x1_25 (IntKind.u64.wrap (t147 * 1024)) (wrap64 (t148 - 10)) (Go.bits .or .u64 (shr .u64 (IntKind.u64.wrap (t149 * 1024)) (IntKind.u64.wrap (wrap64 ((wrap64 (t148 - 10)) - (wrap64 (t150 - 10)))))) 0))) else (none))) else (hygref6_Add.j3 kj25 x0_25 x1_25 (IntKind.u64.wrap (t147 * 1024)) (wrap64 (t148 - 10)) (IntKind.u64.wrap (t149 * 1024)))) = some r := H
          have A29 := Aside0.mk A290
          clear A290
          have HC30 := Aside0.mk H
          clear H
          go_upto_if 88 with (first | ((with_reducible refine gate_callee (f := 43) rfl ?_); refine goesL_ (some 68) rfl rfl Try.func43 (by kernel_rfl) rfl #[.int .u64 x0_25] rfl (by (try simp only [List.map_toArray, List.map_cons, List.map_nil]); first | done | rfl | (simp only [List.length_drop, List.length_take]; rfl)) ?_; (with_reducible refine (hygref6_parts.calls x0_25 t147 t148 _ A28.out).mono ?_); rintro e w' ⟨rfl, ⟨nd, rfl⟩⟩; refine ⟨_, rfl, ?_⟩) | ((with_reducible refine gate_callee (f := 43) rfl ?_); refine goesL_ (some 73) rfl rfl Try.func43 (by kernel_rfl) rfl #[.int .u64 x1_25] rfl (by (try simp only [List.map_toArray, List.map_cons, List.map_nil]); first | done | rfl | (simp only [List.length_drop, List.length_take]; rfl)) ?_; (with_reducible refine (hygref6_parts.calls x1_25 t149 t150 _ A29.out).mono ?_); rintro e w' ⟨rfl, ⟨nd, rfl⟩⟩; refine ⟨_, rfl, ?_⟩))
          (try simp only [Act.put, List.setIfInBounds_toArray, List.set_cons_zero, List.set_cons_succ])
          go_cut [7] (fun v7 wc => ∃ (kq : Nat) (x7_29 : Int), v7 = .int .u64 x7_29 ∧ Aside0 (hygref6_Add.j3 kq x0_25 x1_25 (IntKind.u64.wrap (t147 * 1024)) (wrap64 (t148 - 10)) x7_29 = some r) ∧ Aside0 (kq ≤ kj25) ∧ Aside0 (Below w.heap.size w wc))
          case first =>
            have H := HC30.out
            clear HC30
            by_cases c31 : (wrap64 ((wrap64 (t148 - 10)) - (wrap64 (t150 - 10)))) > 0
            · rw [if_pos c31] at H
              have c31b0 : decide (0 < (wrap64 ((wrap64 (t148 - 10)) - (wrap64 (t150 - 10))))) = true := decide_eq_true c31
              clear c31
              (first | rw [c31b0] | (simp only [i64_w, i32_w]; rw [c31b0]) | skip)
              by_cases c32 : (wrap64 ((wrap64 (t148 - 10)) - (wrap64 (t150 - 10)))) > 63
              · rw [if_pos c32] at H
                have c32b0 : decide (63 < (wrap64 ((wrap64 (t148 - 10)) - (wrap64 (t150 - 10))))) = true := decide_eq_true c32
                clear c32
                by_cases c33 : (IntKind.u64.wrap (t149 * 1024)) > 0
                · rw [if_pos c33] at H
                  have c33b0 : decide (0 < (IntKind.u64.wrap (t149 * 1024))) = true := decide_eq_true c33
                  clear c33
                  have H' := Aside0.mk H
                  clear H
                  go_wp2
                  go_meet
                  case rel => exact ⟨_, (Go.bits .or .u64 0 1), (by first | rfl | (simp; done) | (simp [*]; done)), H', ⟨by have := HJ2.out; have := HJ25.out; first | omega | exact Nat.le_refl _⟩, ⟨by repeat (first | (with_reducible first | exact HB.out | apply below_alloc | apply pw_below_drewN | apply below_drew1) | exact HB.out)⟩⟩
                · rw [if_neg c33] at H
                  have c33b0 : decide (0 < (IntKind.u64.wrap (t149 * 1024))) = false := decide_eq_false c33
                  clear c33
                  have H' := Aside0.mk H
                  clear H
                  go_wp2
                  go_meet
                  case rel => exact ⟨_, (Go.bits .or .u64 0 0), (by first | rfl | (simp; done) | (simp [*]; done)), H', ⟨by have := HJ2.out; have := HJ25.out; first | omega | exact Nat.le_refl _⟩, ⟨by repeat (first | (with_reducible first | exact HB.out | apply below_alloc | apply pw_below_drewN | apply below_drew1) | exact HB.out)⟩⟩
              · rw [if_neg c32] at H
                have c32b0 : decide (63 < (wrap64 ((wrap64 (t148 - 10)) - (wrap64 (t150 - 10))))) = false := decide_eq_false c32
                clear c32
                obtain ⟨ji34, hji34⟩ : ∃ j_ : Int, (IntKind.u64.wrap (wrap64 ((wrap64 (t148 - 10)) - (wrap64 (t150 - 10))))) = j_ := ⟨_, rfl⟩
                replace H : (if 0 ≤ (ji34) then (if (Go.bits .and .u64 (IntKind.u64.wrap (t149 * 1024)) (IntKind.u64.wrap ((shl .u64 1 (ji34)) - 1))) > 0 then (hygref6_Add.j3 kj25 x0_25 x1_25 (IntKind.u64.wrap (t147 * 1024)) (wrap64 (t148 - 10)) (Go.bits .or .u64 (shr .u64 (IntKind.u64.wrap (t149 * 1024)) (ji34)) 1)) else (hygref6_Add.j3 kj25 x0_25 x1_25 (IntKind.u64.wrap (t147 * 1024)) (wrap64 (t148 - 10)) (Go.bits .or .u64 (shr .u64 (IntKind.u64.wrap (t149 * 1024)) (ji34)) 0))) else (none)) = some r := by first | (rw [hji34] at H; exact H) | (simp only [hji34] at H ⊢; exact H)
                by_cases c35 : 0 ≤ (ji34)
                · rw [if_pos c35] at H
                  have c35b0 := eq_true c35
                  have c35b1 : decide (0 ≤ (ji34)) = true := decide_eq_true c35
                  clear c35
                  obtain ⟨ji36, hji36⟩ : ∃ j_ : Int, (shl .u64 1 (ji34)) = j_ := ⟨_, rfl⟩
                  replace H : (if (Go.bits .and .u64 (IntKind.u64.wrap (t149 * 1024)) (IntKind.u64.wrap ((ji36) - 1))) > 0 then (hygref6_Add.j3 kj25 x0_25 x1_25 (IntKind.u64.wrap (t147 * 1024)) (wrap64 (t148 - 10)) (Go.bits .or .u64 (shr .u64 (IntKind.u64.wrap (t149 * 1024)) (ji34)) 1)) else (hygref6_Add.j3 kj25 x0_25 x1_25 (IntKind.u64.wrap (t147 * 1024)) (wrap64 (t148 - 10)) (Go.bits .or .u64 (shr .u64 (IntKind.u64.wrap (t149 * 1024)) (ji34)) 0))) = some r := by first | (rw [hji36] at H; exact H) | (simp only [hji36] at H ⊢; exact H)
                  have hji36_ : (IntKind.u64.wrap (1 * 2 ^ min (ji34).toNat 64)) = ji36 := hji36
                  have hji36z : (ji34) ≤ 64 → (IntKind.u64.wrap (1 * 2 ^ (ji34).toNat)) = ji36 := shl_small hji36
                  have hji36u : (IntKind.u64.wrap (2 ^ min (ji34).toNat 64)) = ji36 := by have h_ := hji36_; rw [Int.one_mul] at h_; exact h_
                  have hji36v : (ji34) ≤ 64 → (IntKind.u64.wrap (2 ^ (ji34).toNat)) = ji36 := fun hle_ => by have h_ := hji36z hle_; rw [Int.one_mul] at h_; exact h_
                  by_cases c37 : (Go.bits .and .u64 (IntKind.u64.wrap (t149 * 1024)) (IntKind.u64.wrap ((ji36) - 1))) > 0
                  · rw [if_pos c37] at H
                    have c37b0 : decide (0 < (Go.bits .and .u64 (IntKind.u64.wrap (t149 * 1024)) (IntKind.u64.wrap ((ji36) - 1)))) = true := decide_eq_true c37
                    clear c37
                    have c38b0 := eq_true (of_decide_eq_true (by first | (with_reducible assumption) | assumption) : 0 ≤ (ji34))
                    obtain ⟨ji39, hji39⟩ : ∃ j_ : Int, (shr .u64 (IntKind.u64.wrap (t149 * 1024)) (ji34)) = j_ := ⟨_, rfl⟩
                    replace H : (hygref6_Add.j3 kj25 x0_25 x1_25 (IntKind.u64.wrap (t147 * 1024)) (wrap64 (t148 - 10)) (Go.bits .or .u64 (ji39) 1)) = some r := by first | (rw [hji39] at H; exact H) | (simp only [hji39] at H ⊢; exact H)
                    have hji39_ : ((IntKind.u64.wrap (t149 * 1024)) / 2 ^ min (ji34).toNat 64) = ji39 := hji39
                    have hji39z : (ji34) ≤ 64 → ((IntKind.u64.wrap (t149 * 1024)) / 2 ^ (ji34).toNat) = ji39 := shr_small hji39
                    have H' := Aside0.mk H
                    clear H
                    go_wp2
                    go_meet
                    case rel => exact ⟨_, (Go.bits .or .u64 (ji39) 1), (by first | rfl | (simp; done) | (simp only [← hji39] <;> (first | rfl | simp)) | (simp [*]; done)), H', ⟨by have := HJ2.out; have := HJ25.out; first | omega | exact Nat.le_refl _⟩, ⟨by repeat (first | (with_reducible first | exact HB.out | apply below_alloc | apply pw_below_drewN | apply below_drew1) | exact HB.out)⟩⟩
                  · rw [if_neg c37] at H
                    have c37b0 : decide (0 < (Go.bits .and .u64 (IntKind.u64.wrap (t149 * 1024)) (IntKind.u64.wrap ((ji36) - 1)))) = false := decide_eq_false c37
                    clear c37
                    have c40b0 := eq_true (of_decide_eq_true (by first | (with_reducible assumption) | assumption) : 0 ≤ (ji34))
                    obtain ⟨ji41, hji41⟩ : ∃ j_ : Int, (shr .u64 (IntKind.u64.wrap (t149 * 1024)) (ji34)) = j_ := ⟨_, rfl⟩
                    replace H : (hygref6_Add.j3 kj25 x0_25 x1_25 (IntKind.u64.wrap (t147 * 1024)) (wrap64 (t148 - 10)) (Go.bits .or .u64 (ji41) 0)) = some r := by first | (rw [hji41] at H; exact H) | (simp only [hji41] at H ⊢; exact H)
                    have hji41_ : ((IntKind.u64.wrap (t149 * 1024)) / 2 ^ min (ji34).toNat 64) = ji41 := hji41
                    have hji41z : (ji34) ≤ 64 → ((IntKind.u64.wrap (t149 * 1024)) / 2 ^ (ji34).toNat) = ji41 := shr_small hji41
                    have H' := Aside0.mk H
                    clear H
                    go_wp2
                    go_meet
                    case rel => exact ⟨_, (Go.bits .or .u64 (ji41) 0), (by first | rfl | (simp; done) | (simp only [← hji41] <;> (first | rfl | simp)) | (simp [*]; done)), H', ⟨by have := HJ2.out; have := HJ25.out; first | omega | exact Nat.le_refl _⟩, ⟨by repeat (first | (with_reducible first | exact HB.out | apply below_alloc | apply pw_below_drewN | apply below_drew1) | exact HB.out)⟩⟩
                · rw [if_neg c35] at H
                  exact absurd H (by simp)
            · rw [if_neg c31] at H
              have c31b0 : decide (0 < (wrap64 ((wrap64 (t148 - 10)) - (wrap64 (t150 - 10))))) = false := decide_eq_false c31
              clear c31
              (first | rw [c31b0] | (simp only [i64_w, i32_w]; rw [c31b0]) | skip)
              have H' := Aside0.mk H
              clear H
              go_wp2
              go_meet
              case rel => exact ⟨_, (IntKind.u64.wrap (t149 * 1024)), (by first | rfl | (simp; done) | (simp [*]; done)), H', ⟨by have := HJ2.out; have := HJ25.out; first | omega | exact Nat.le_refl _⟩, ⟨by repeat (first | (with_reducible first | exact HB.out | apply below_alloc | apply pw_below_drewN | apply below_drew1) | exact HB.out)⟩⟩
          case rest =>
            clear HC30
            try clear c1
            try clear c2
            try clear p2
            try clear c3
            try clear c4
            try clear c5
            try clear c5b0
            try clear c5b1
            try clear p6
            try clear c8
            try clear c8b0
            try clear c8b1
            try clear c12
            try clear c12b0
            try clear c12b1
            try clear c14
            try clear c14b0
            try clear c14b1
            try clear c15
            try clear c17
            try clear c17b0
            try clear c17b1
            try clear c19
            try clear c19b0
            try clear c19b1
            try clear c21
            try clear c21b0
            try clear c21b1
            try clear c23
            try clear c23b0
            try clear c23b1
            try clear c27
            try clear c27b0
            try clear c30
            try clear c31
            try clear c31b0
            try clear c32
            try clear c32b0
            try clear c33
            try clear c33b0
            try clear c35
            try clear c35b0
            try clear c35b1
            try clear c37
            try clear c37b0
            try clear c38
            try clear c38b0
            try clear c40
            try clear c40b0
            try clear c41
            try clear p2
            obtain ⟨kq, x7_29, rfl, HA, HJ29, HB⟩ := hcut
            cases kq with
            | zero => exact absurd HA.out (by simp [hygref6_Add.j3])
            | succ kj29 =>
              have H := HA.out
              clear HA
              simp only [hygref6_Add.j3] at H
              replace H := Option.bind_eq_some_iff.mp H
              obtain ⟨t151, A420, H⟩ := H
              replace H : ((hygref6_neg.f x1_25).bind fun t152 => (if (t151 == t152) = true then ((hygref6_neg.f x0_25).bind fun t153 => ((hygref6_round.f kj29 t153 (IntKind.u64.wrap ((IntKind.u64.wrap (t147 * 1024)) + x7_29)) (wrap64 (t148 - 10))).bind fun t154 => (some t154))) else (if (IntKind.u64.wrap (t147 * 1024)) = x7_29 then (some 0) else ((hygref6_neg.f x0_25).bind fun t155 => ((hygref6_round.f kj29 t155 (IntKind.u64.wrap ((IntKind.u64.wrap (t147 * 1024)) - x7_29)) (wrap64 (t148 - 10))).bind fun t156 => (some t156)))))) = some r := H
              have A42 := Aside0.mk A420
              clear A420
              replace H := Option.bind_eq_some_iff.mp H
              obtain ⟨t152, A430, H⟩ := H
              replace H : (if (t151 == t152) = true then ((hygref6_neg.f x0_25).bind fun t153 => ((hygref6_round.f kj29 t153 (IntKind.u64.wrap ((IntKind.u64.wrap (t147 * 1024)) + x7_29)) (wrap64 (t148 - 10))).bind fun t154 => (some t154))) else (if (IntKind.u64.wrap (t147 * 1024)) = x7_29 then (some 0) else ((hygref6_neg.f x0_25).bind fun t155 => ((hygref6_round.f kj29 t155 (IntKind.u64.wrap ((IntKind.u64.wrap (t147 * 1024)) - x7_29)) (wrap64 (t148 - 10))).bind fun t156 => (some t156))))) = some r := H
              have A43 := Aside0.mk A430
              clear A430
              by_cases c44 : (t151 == t152) = true
              · rw [if_pos c44] at H
                have c44b0 : (t151 == t152) = true := c44
                (try (have c44b1 : decide (t151 = t152) = true := by simpa using c44))
                (try (have c44b2 : (t151 == t152) = true := by simpa using c44))
                clear c44
                replace H := Option.bind_eq_some_iff.mp H
                obtain ⟨t153, A450, H⟩ := H
                replace H : ((hygref6_round.f kj29 t153 (IntKind.u64.wrap ((IntKind.u64.wrap (t147 * 1024)) + x7_29)) (wrap64 (t148 - 10))).bind fun t154 => (some t154)) = some r := H
                have A45 := Aside0.mk A450
                clear A450
                replace H := Option.bind_eq_some_iff.mp H
                obtain ⟨t154, A460, H⟩ := H
                replace H : (some t154) = some r := H
                have A46 := Aside0.mk A460
                clear A460
                obtain rfl := Option.some.inj H
                go_wp2_with (first | ((with_reducible refine gate_callee (f := 44) rfl ?_); refine goesL_ (some 108) rfl rfl Try.func44 (by kernel_rfl) rfl #[.int .u64 x0_25] rfl (by (try simp only [List.map_toArray, List.map_cons, List.map_nil]); first | done | rfl | (simp only [List.length_drop, List.length_take]; rfl)) ?_; (with_reducible refine (hygref6_neg.calls x0_25 t151 _ A42.out).mono ?_); rintro e w' ⟨rfl, ⟨nd, rfl⟩⟩; refine ⟨_, rfl, ?_⟩) | ((with_reducible refine gate_callee (f := 44) rfl ?_); refine goesL_ (some 110) rfl rfl Try.func44 (by kernel_rfl) rfl #[.int .u64 x1_25] rfl (by (try simp only [List.map_toArray, List.map_cons, List.map_nil]); first | done | rfl | (simp only [List.length_drop, List.length_take]; rfl)) ?_; (with_reducible refine (hygref6_neg.calls x1_25 t152 _ A43.out).mono ?_); rintro e w' ⟨rfl, ⟨nd, rfl⟩⟩; refine ⟨_, rfl, ?_⟩) | ((with_reducible refine gate_callee (f := 44) rfl ?_); refine goesL_ (some 113) rfl rfl Try.func44 (by kernel_rfl) rfl #[.int .u64 x0_25] rfl (by (try simp only [List.map_toArray, List.map_cons, List.map_nil]); first | done | rfl | (simp only [List.length_drop, List.length_take]; rfl)) ?_; (with_reducible refine (hygref6_neg.calls x0_25 t153 _ A45.out).mono ?_); rintro e w' ⟨rfl, ⟨nd, rfl⟩⟩; refine ⟨_, rfl, ?_⟩) | ((with_reducible refine gate_callee (f := 46) rfl ?_); refine goesL_ (some 118) rfl rfl Try.func46 (by kernel_rfl) rfl #[.bool t153, .int .u64 (IntKind.u64.wrap ((IntKind.u64.wrap (t147 * 1024)) + x7_29)), .int .i64 (wrap64 (t148 - 10))] rfl (by (try simp only [List.map_toArray, List.map_cons, List.map_nil]); first | done | rfl | (simp only [List.length_drop, List.length_take]; rfl)) ?_; (with_reducible refine (hygref6_round.calls kj29 t153 (IntKind.u64.wrap ((IntKind.u64.wrap (t147 * 1024)) + x7_29)) (wrap64 (t148 - 10)) t154 _ A46.out).mono ?_); rintro e w47 ⟨rfl, hb⟩; refine ⟨_, rfl, ?_⟩; have n0_ := Aside0.mk (below_step (by repeat (first | (with_reducible first | exact HB.out | apply below_alloc | apply pw_below_drewN | apply below_drew1) | exact HB.out)) hb); clear HB; have HB := n0_; clear n0_; (try clear hb); (try clear hb2); (try clear hk); (try clear hi)))
                go_ret
                exact ⟨by first | rfl | (simp [errW_none, errW_some] <;> rfl) | (simp [*, errW_none, errW_some] <;> rfl), by repeat (first | (with_reducible first | exact HB.out | apply below_alloc | apply pw_below_drewN | apply below_drew1) | exact HB.out)⟩
              · rw [if_neg c44] at H
                have c44b0 : (t151 == t152) = false := by simpa using c44
                (try (have c44b1 : decide (t151 = t152) = false := by simpa using c44))
                (try (have c44b2 : (t151 == t152) = false := by simpa using c44))
                (try (have c44b3 : ¬ (t151 = t152) := by simpa using c44))
                clear c44
                by_cases c48 : (IntKind.u64.wrap (t147 * 1024)) = x7_29
                · rw [if_pos c48] at H
                  have c48b0 : ((IntKind.u64.wrap (t147 * 1024)) == x7_29) = true := beq_iff_eq.mpr c48
                  have c48b1 : ((IntKind.u64.wrap (t147 * 1024)) != x7_29) = false := bne_eq_false_iff_eq.mpr c48
                  clear c48
                  obtain rfl := Option.some.inj H
                  go_wp2_with (first | ((with_reducible refine gate_callee (f := 44) rfl ?_); refine goesL_ (some 108) rfl rfl Try.func44 (by kernel_rfl) rfl #[.int .u64 x0_25] rfl (by (try simp only [List.map_toArray, List.map_cons, List.map_nil]); first | done | rfl | (simp only [List.length_drop, List.length_take]; rfl)) ?_; (with_reducible refine (hygref6_neg.calls x0_25 t151 _ A42.out).mono ?_); rintro e w' ⟨rfl, ⟨nd, rfl⟩⟩; refine ⟨_, rfl, ?_⟩) | ((with_reducible refine gate_callee (f := 44) rfl ?_); refine goesL_ (some 110) rfl rfl Try.func44 (by kernel_rfl) rfl #[.int .u64 x1_25] rfl (by (try simp only [List.map_toArray, List.map_cons, List.map_nil]); first | done | rfl | (simp only [List.length_drop, List.length_take]; rfl)) ?_; (with_reducible refine (hygref6_neg.calls x1_25 t152 _ A43.out).mono ?_); rintro e w' ⟨rfl, ⟨nd, rfl⟩⟩; refine ⟨_, rfl, ?_⟩))
                  go_ret
                  exact ⟨by first | rfl | (simp [errW_none, errW_some] <;> rfl) | (simp [*, errW_none, errW_some] <;> rfl), by repeat (first | (with_reducible first | exact HB.out | apply below_alloc | apply pw_below_drewN | apply below_drew1) | exact HB.out)⟩
                · rw [if_neg c48] at H
                  have c48b0 : ((IntKind.u64.wrap (t147 * 1024)) == x7_29) = false := beq_eq_false_iff_ne.mpr c48
                  have c48b1 : ((IntKind.u64.wrap (t147 * 1024)) != x7_29) = true := bne_iff_ne.mpr c48
                  replace H := Option.bind_eq_some_iff.mp H
                  obtain ⟨t155, A490, H⟩ := H
                  replace H : ((hygref6_round.f kj29 t155 (IntKind.u64.wrap ((IntKind.u64.wrap (t147 * 1024)) - x7_29)) (wrap64 (t148 - 10))).bind fun t156 => (some t156)) = some r := H
                  have A49 := Aside0.mk A490
                  clear A490
                  replace H := Option.bind_eq_some_iff.mp H
                  obtain ⟨t156, A500, H⟩ := H
                  replace H : (some t156) = some r := H
                  have A50 := Aside0.mk A500
                  clear A500
                  obtain rfl := Option.some.inj H
                  go_wp2_with (first | ((with_reducible refine gate_callee (f := 44) rfl ?_); refine goesL_ (some 108) rfl rfl Try.func44 (by kernel_rfl) rfl #[.int .u64 x0_25] rfl (by (try simp only [List.map_toArray, List.map_cons, List.map_nil]); first | done | rfl | (simp only [List.length_drop, List.length_take]; rfl)) ?_; (with_reducible refine (hygref6_neg.calls x0_25 t151 _ A42.out).mono ?_); rintro e w' ⟨rfl, ⟨nd, rfl⟩⟩; refine ⟨_, rfl, ?_⟩) | ((with_reducible refine gate_callee (f := 44) rfl ?_); refine goesL_ (some 110) rfl rfl Try.func44 (by kernel_rfl) rfl #[.int .u64 x1_25] rfl (by (try simp only [List.map_toArray, List.map_cons, List.map_nil]); first | done | rfl | (simp only [List.length_drop, List.length_take]; rfl)) ?_; (with_reducible refine (hygref6_neg.calls x1_25 t152 _ A43.out).mono ?_); rintro e w' ⟨rfl, ⟨nd, rfl⟩⟩; refine ⟨_, rfl, ?_⟩) | ((with_reducible refine gate_callee (f := 44) rfl ?_); refine goesL_ (some 123) rfl rfl Try.func44 (by kernel_rfl) rfl #[.int .u64 x0_25] rfl (by (try simp only [List.map_toArray, List.map_cons, List.map_nil]); first | done | rfl | (simp only [List.length_drop, List.length_take]; rfl)) ?_; (with_reducible refine (hygref6_neg.calls x0_25 t155 _ A49.out).mono ?_); rintro e w' ⟨rfl, ⟨nd, rfl⟩⟩; refine ⟨_, rfl, ?_⟩) | ((with_reducible refine gate_callee (f := 46) rfl ?_); refine goesL_ (some 128) rfl rfl Try.func46 (by kernel_rfl) rfl #[.bool t155, .int .u64 (IntKind.u64.wrap ((IntKind.u64.wrap (t147 * 1024)) - x7_29)), .int .i64 (wrap64 (t148 - 10))] rfl (by (try simp only [List.map_toArray, List.map_cons, List.map_nil]); first | done | rfl | (simp only [List.length_drop, List.length_take]; rfl)) ?_; (with_reducible refine (hygref6_round.calls kj29 t155 (IntKind.u64.wrap ((IntKind.u64.wrap (t147 * 1024)) - x7_29)) (wrap64 (t148 - 10)) t156 _ A50.out).mono ?_); rintro e w51 ⟨rfl, hb⟩; refine ⟨_, rfl, ?_⟩; have n0_ := Aside0.mk (below_step (by repeat (first | (with_reducible first | exact HB.out | apply below_alloc | apply pw_below_drewN | apply below_drew1) | exact HB.out)) hb); clear HB; have HB := n0_; clear n0_; (try clear hb); (try clear hb2); (try clear hk); (try clear hi)))
                  go_ret
                  exact ⟨by first | rfl | (simp [errW_none, errW_some] <;> rfl) | (simp [*, errW_none, errW_some] <;> rfl), by repeat (first | (with_reducible first | exact HB.out | apply below_alloc | apply pw_below_drewN | apply below_drew1) | exact HB.out)⟩

/-! ### hygref6_Sum: function 26 -/
def hygref6_Sum.l0 : Nat → List Int → Int → Int → Option (Int)
  | 0, _, _, _ => none
  | k + 1, x0, x3, x4 => if x4 < (x0.length : Int) then (if 0 ≤ x4 then ((hygref6_Add.f k x3 (rd x0 x4)).bind fun t158 => (hygref6_Sum.l0 k x0 t158 (wrap64 (x4 + 1)))) else (none)) else (some x3)
def hygref6_Sum.f (k : Nat) (l0 : List Int) : Option (Int) := hygref6_Sum.l0 k l0 0 0
theorem hygref6_Sum.mono_l : ∀ k, (∀ y0 y1 y2, LeO (hygref6_Sum.l0 k y0 y1 y2) (hygref6_Sum.l0 (k + 1) y0 y1 y2))
  | 0 => fun _ _ _ r h => by simp [hygref6_Sum.l0] at h
  | k + 1 => by
    have ih0 := hygref6_Sum.mono_l k
    · intro y0 y1 y2
      unfold hygref6_Sum.l0
      repeat' first
      | (with_reducible exact ih0 _ _ _)
      | (with_reducible exact hygref6_Add.mono _ _ _)
      | (with_reducible exact LeO.refl _)
      | (with_reducible exact LeO.none _)
      | (with_reducible refine LeO.ite ?_ ?_)
      | (with_reducible refine LeO.bind ?_ (fun _ => ?_))
      | exact ih0 _ _ _
      | exact hygref6_Add.mono _ _ _
      | exact LeO.none _
      | refine LeO.ite ?_ ?_
      | refine LeO.bind ?_ (fun _ => ?_)
theorem hygref6_Sum.mono : ∀ a0 k, LeO (hygref6_Sum.f k a0) (hygref6_Sum.f (k + 1) a0) := by
  intro a0 k
  have ih0 := hygref6_Sum.mono_l k
  unfold hygref6_Sum.f
  repeat' first
      | (with_reducible exact ih0 _ _ _)
      | (with_reducible exact hygref6_Add.mono _ _ _)
      | (with_reducible exact LeO.refl _)
      | (with_reducible exact LeO.none _)
      | (with_reducible refine LeO.ite ?_ ?_)
      | (with_reducible refine LeO.bind ?_ (fun _ => ?_))
      | exact ih0 _ _ _
      | exact hygref6_Add.mono _ _ _
      | exact LeO.none _
      | refine LeO.ite ?_ ?_
      | refine LeO.bind ?_ (fun _ => ?_)
set_option maxHeartbeats 8000000 in
set_option maxRecDepth 100000 in
theorem hygref6_Sum.calls (k : Nat) (A0 : Option Addr) (c0 : Nat) (l0 : List Int) (r : Int) (w : World) (hr0 : Kd.C (Kd.int .u64) w A0 l0.length l0) (hc0 : l0.length ≤ c0) (h : hygref6_Sum.f k l0 = some r) :
    Calls Try.prog 26 #[.slice A0 l0.length c0] w fun e w' => e = .returned (.int .u64 r) ∧ Below w.heap.size w w' := by
  have HR0 := Aside0.mk hr0
  have HC0 := Aside0.mk hc0
  clear hr0 hc0
  have HB := Aside0.mk (Below.refl w.heap.size w)
  have H : (hygref6_Sum.l0 k l0 0 0) = some r := h
  clear h
  have H' := Aside0.mk H
  clear H
  go_enter Try.func26, Try.ntmps26
  go_wp2
  go_loopg [3, 4] k (fun kq v3 v4 w' => ∃ (x3_1 : Int) (x4_1 : Int), v3 = .int .u64 x3_1 ∧ v4 = .int .i64 x4_1 ∧ Aside0 (hygref6_Sum.l0 kq l0 x3_1 x4_1 = some r) ∧ Aside0 (kq ≤ k) ∧ Aside0 (Below w.heap.size w w'))
  case atStart => exact ⟨(0), (0), (by first | rfl | (simp; done) | (simp [*]; done)), (by first | rfl | (simp; done) | (simp [*]; done)), H', ⟨Nat.le_refl _⟩, ⟨by repeat (first | (with_reducible first | exact HB.out | apply below_alloc | apply pw_below_drewN | apply below_drew1) | exact HB.out)⟩⟩
  case round =>
    clear H'
    obtain ⟨x3_1, x4_1, rfl, rfl, HA, HK1, HB⟩ := hrel
    cases gk with
    | zero => exact absurd HA.out (by simp [hygref6_Sum.l0])
    | succ k1 =>
      have H := HA.out
      clear HA
      simp only [hygref6_Sum.l0] at H
      by_cases c2 : x4_1 < (l0.length : Int)
      · rw [if_pos c2] at H
        have c2b0 : decide (x4_1 < (l0.length : Int)) = true := decide_eq_true c2
        clear c2
        by_cases c3 : 0 ≤ x4_1
        · rw [if_pos c3] at H
          have c3b0 : decide (0 ≤ x4_1) = true := decide_eq_true c3
          clear c3
          replace H := Option.bind_eq_some_iff.mp H
          obtain ⟨t158, A40, H⟩ := H
          replace H : (hygref6_Sum.l0 k1 l0 t158 (wrap64 (x4_1 + 1))) = some r := H
          have A4 := Aside0.mk A40
          clear A40
          have H' := Aside0.mk H
          clear H
          have p157 : 0 ≤ (x4_1 : Int) := of_decide_eq_true (by first | (with_reducible assumption) | assumption)
          have q157 : x4_1 < (l0.length : Int) := of_decide_eq_true (by first | (with_reducible assumption) | assumption)
          obtain ⟨ad157, e157, hx157_0⟩ := Kd.at_int HR0.out x4_1 p157 q157
          cases e157
          replace hx157_0 := (HB.out.cell (World.block_lt_of_cell? w _ hx157_0)).trans hx157_0
          replace p157 := eq_true p157
          replace q157 := eq_true q157
          go_wp2_with (first | ((with_reducible refine gate_callee (f := 37) rfl ?_); refine goesL_ (some 16) rfl rfl Try.func37 (by kernel_rfl) rfl #[.int .u64 x3_1, .int .u64 (rd l0 x4_1)] rfl (by (try simp only [List.map_toArray, List.map_cons, List.map_nil]); first | done | rfl | (simp only [List.length_drop, List.length_take]; rfl)) ?_; (with_reducible refine (hygref6_Add.calls k1 x3_1 (rd l0 x4_1) t158 _ A4.out).mono ?_); rintro e w5 ⟨rfl, hb⟩; refine ⟨_, rfl, ?_⟩; have n0_ := Aside0.mk (below_step (by repeat (first | (with_reducible first | exact HB.out | apply below_alloc | apply pw_below_drewN | apply below_drew1) | exact HB.out)) hb); clear HB; have HB := n0_; clear n0_; (try clear hb); (try clear hb2); (try clear hk); (try clear hi)))
          go_roundg k1
          case measure => have := HK1.out; omega
          case rel => exact ⟨(t158), (wrap64 (x4_1 + 1)), (by first | rfl | (simp; done) | (simp [*]; done)), (by first | rfl | (simp; done) | (simp [*]; done)), H', ⟨by have := HK1.out; omega⟩, ⟨by repeat (first | (with_reducible first | exact HB.out | apply below_alloc | apply pw_below_drewN | apply below_drew1) | exact HB.out)⟩⟩
        · rw [if_neg c3] at H
          exact absurd H (by simp)
      · rw [if_neg c2] at H
        have c2b0 : decide (x4_1 < (l0.length : Int)) = false := decide_eq_false c2
        clear c2
        obtain rfl := Option.some.inj H
        go_wp2
        go_ret
        exact ⟨by first | rfl | (simp [errW_none, errW_some] <;> rfl) | (simp [*, errW_none, errW_some] <;> rfl), by repeat (first | (with_reducible first | exact HB.out | apply below_alloc | apply pw_below_drewN | apply below_drew1) | exact HB.out)⟩

end Go.Proofs.Ytmljncgglpckcaa.PFaddSums
