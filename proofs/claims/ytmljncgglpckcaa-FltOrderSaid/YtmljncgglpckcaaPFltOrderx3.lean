-- Made by a program of this session, after the guide's print, out of the translation. Lean checks it.
import Derived.Test.YtmljncgglpckcaaPFltOrderx0
import Derived.Test.YtmljncgglpckcaaPFltOrderx1
import Derived.Test.YtmljncgglpckcaaPFltOrderx2
namespace Go.Proofs.Ytmljncgglpckcaa.PFltOrder
open Go.RowKit Go.Proofs.YtmljncgglpckcaaW.PrintWords Go.Proofs.YtmljncgglpckcaaW.PrintLast Go.Proofs.YtmljncgglpckcaaW.PrintMore
attribute [local go_sem] max2_int min2_int max_two min_two max_three min_three max_four min_four   -- for this text's walks alone
set_option linter.unusedVariables false
set_option linter.unusedSimpArgs false

/-! ### hyglaw6_FltOrder: function 5 -/
mutual
def hyglaw6_FltOrder.j0 : Nat → Int → Int → Int → Bool → Option (Bool)
  | 0, _, _, _, _ => none
  | k + 1, x0, x1, x7, x68 => if x68 = true then (some false) else ((flt_Less.f x0 x1).bind fun t131 => (if t131 = true then (if x7 = (-1) then ((flt_Less.f x1 x0).bind fun t132 => (if t132 = true then (hyglaw6_FltOrder.j1 k x0 x1 x7 true) else ((flt_Equal.f x0 x1).bind fun t133 => (hyglaw6_FltOrder.j1 k x0 x1 x7 t133)))) else (hyglaw6_FltOrder.j1 k x0 x1 x7 true)) else (hyglaw6_FltOrder.j1 k x0 x1 x7 false)))
def hyglaw6_FltOrder.j1 : Nat → Int → Int → Int → Bool → Option (Bool)
  | 0, _, _, _, _ => none
  | k + 1, x0, x1, x7, x85 => if x85 = true then (some false) else ((flt_Class.f x0).bind fun t134 => (if t134 = 4 then (hyglaw6_FltOrder.j2 k x0 x1 x7 true) else ((flt_Class.f x1).bind fun t135 => (hyglaw6_FltOrder.j2 k x0 x1 x7 (t135 == 4)))))
def hyglaw6_FltOrder.j2 : Nat → Int → Int → Int → Bool → Option (Bool)
  | 0, _, _, _, _ => none
  | k + 1, x0, x1, x7, x10 => (flt_Less.f x0 x1).bind fun t136 => (if t136 = true then (hyglaw6_FltOrder.j3 k x0 x1 x7 x10 true) else ((flt_Less.f x1 x0).bind fun t137 => (if t137 = true then (hyglaw6_FltOrder.j3 k x0 x1 x7 x10 true) else ((flt_Equal.f x0 x1).bind fun t138 => (hyglaw6_FltOrder.j3 k x0 x1 x7 x10 t138)))))
def hyglaw6_FltOrder.j3 : Nat → Int → Int → Int → Bool → Bool → Option (Bool)
  | 0, _, _, _, _, _ => none
  | k + 1, x0, x1, x7, x10, x11 => (hyglaw6_first.f k).bind fun t139 => (if t139 = true then (if (x11 != x10) = true then ((flt_Neg.f x0).bind fun t140 => ((flt_Neg.f x1).bind fun t141 => ((flt_Order.f t140 t141).bind fun t142 => (if t142 = (wrap64 (-x7)) then ((flt_Neg.f x0).bind fun t140 => ((flt_Neg.f t140).bind fun t144 => (if t144 = x0 then ((flt_Less.f x0 x1).bind fun t145 => ((flt_Neg.f x1).bind fun t141 => ((flt_Neg.f x0).bind fun t140 => ((flt_Less.f t141 t140).bind fun t148 => (some (t145 == t148)))))) else (some false)))) else (some false))))) else (some false)) else (some false))
end
def hyglaw6_FltOrder.f (k : Nat) (a0 : Int) (a1 : Int) (a2 : Int) : Option (Bool) := (hyglaw6_first.f k).bind fun t126 => (if t126 = true then ((flt_Order.f a0 a1).bind fun t127 => ((flt_Order.f a1 a2).bind fun t128 => ((flt_Order.f a0 a2).bind fun t129 => (if t127 < (-1) then (hyglaw6_FltOrder.j0 k a0 a1 t127 true) else (if t127 > 1 then (hyglaw6_FltOrder.j0 k a0 a1 t127 true) else ((flt_Order.f a1 a0).bind fun t130 => (if t127 = (wrap64 (-t130)) then (if ((t127 == 0) != (a0 == a1)) = true then (hyglaw6_FltOrder.j0 k a0 a1 t127 true) else (if t127 ≤ 0 then (if t128 ≤ 0 then (if t129 > 0 then (hyglaw6_FltOrder.j0 k a0 a1 t127 true) else (if t127 ≥ 0 then (if t128 ≥ 0 then (hyglaw6_FltOrder.j0 k a0 a1 t127 (decide (t129 < 0))) else (hyglaw6_FltOrder.j0 k a0 a1 t127 false)) else (hyglaw6_FltOrder.j0 k a0 a1 t127 false))) else (if t127 ≥ 0 then (if t128 ≥ 0 then (hyglaw6_FltOrder.j0 k a0 a1 t127 (decide (t129 < 0))) else (hyglaw6_FltOrder.j0 k a0 a1 t127 false)) else (hyglaw6_FltOrder.j0 k a0 a1 t127 false))) else (if t127 ≥ 0 then (if t128 ≥ 0 then (hyglaw6_FltOrder.j0 k a0 a1 t127 (decide (t129 < 0))) else (hyglaw6_FltOrder.j0 k a0 a1 t127 false)) else (hyglaw6_FltOrder.j0 k a0 a1 t127 false)))) else (hyglaw6_FltOrder.j0 k a0 a1 t127 true)))))))) else (some false))
theorem hyglaw6_FltOrder.mono_l : ∀ k, (∀ y0 y1 y2 y3, LeO (hyglaw6_FltOrder.j0 k y0 y1 y2 y3) (hyglaw6_FltOrder.j0 (k + 1) y0 y1 y2 y3)) ∧ (∀ y0 y1 y2 y3, LeO (hyglaw6_FltOrder.j1 k y0 y1 y2 y3) (hyglaw6_FltOrder.j1 (k + 1) y0 y1 y2 y3)) ∧ (∀ y0 y1 y2 y3, LeO (hyglaw6_FltOrder.j2 k y0 y1 y2 y3) (hyglaw6_FltOrder.j2 (k + 1) y0 y1 y2 y3)) ∧ (∀ y0 y1 y2 y3 y4, LeO (hyglaw6_FltOrder.j3 k y0 y1 y2 y3 y4) (hyglaw6_FltOrder.j3 (k + 1) y0 y1 y2 y3 y4))
  | 0 => ⟨fun _ _ _ _ r h => by simp [hyglaw6_FltOrder.j0] at h, fun _ _ _ _ r h => by simp [hyglaw6_FltOrder.j1] at h, fun _ _ _ _ r h => by simp [hyglaw6_FltOrder.j2] at h, fun _ _ _ _ _ r h => by simp [hyglaw6_FltOrder.j3] at h⟩
  | k + 1 => by
    obtain ⟨ih0, ih1, ih2, ih3⟩ := hyglaw6_FltOrder.mono_l k
    refine ⟨?_, ?_, ?_, ?_⟩
    · intro y0 y1 y2 y3
      unfold hyglaw6_FltOrder.j0
      repeat' first
      | (with_reducible exact ih0 _ _ _ _)
      | (with_reducible exact ih1 _ _ _ _)
      | (with_reducible exact ih2 _ _ _ _)
      | (with_reducible exact ih3 _ _ _ _ _)
      | (with_reducible exact hyglaw6_first.mono _)
      | (with_reducible exact LeO.refl _)
      | (with_reducible exact LeO.none _)
      | (with_reducible refine LeO.ite ?_ ?_)
      | (with_reducible refine LeO.bind ?_ (fun _ => ?_))
      | exact ih0 _ _ _ _
      | exact ih1 _ _ _ _
      | exact ih2 _ _ _ _
      | exact ih3 _ _ _ _ _
      | exact hyglaw6_first.mono _
      | exact LeO.none _
      | refine LeO.ite ?_ ?_
      | refine LeO.bind ?_ (fun _ => ?_)
    · intro y0 y1 y2 y3
      unfold hyglaw6_FltOrder.j1
      repeat' first
      | (with_reducible exact ih0 _ _ _ _)
      | (with_reducible exact ih1 _ _ _ _)
      | (with_reducible exact ih2 _ _ _ _)
      | (with_reducible exact ih3 _ _ _ _ _)
      | (with_reducible exact hyglaw6_first.mono _)
      | (with_reducible exact LeO.refl _)
      | (with_reducible exact LeO.none _)
      | (with_reducible refine LeO.ite ?_ ?_)
      | (with_reducible refine LeO.bind ?_ (fun _ => ?_))
      | exact ih0 _ _ _ _
      | exact ih1 _ _ _ _
      | exact ih2 _ _ _ _
      | exact ih3 _ _ _ _ _
      | exact hyglaw6_first.mono _
      | exact LeO.none _
      | refine LeO.ite ?_ ?_
      | refine LeO.bind ?_ (fun _ => ?_)
    · intro y0 y1 y2 y3
      unfold hyglaw6_FltOrder.j2
      repeat' first
      | (with_reducible exact ih0 _ _ _ _)
      | (with_reducible exact ih1 _ _ _ _)
      | (with_reducible exact ih2 _ _ _ _)
      | (with_reducible exact ih3 _ _ _ _ _)
      | (with_reducible exact hyglaw6_first.mono _)
      | (with_reducible exact LeO.refl _)
      | (with_reducible exact LeO.none _)
      | (with_reducible refine LeO.ite ?_ ?_)
      | (with_reducible refine LeO.bind ?_ (fun _ => ?_))
      | exact ih0 _ _ _ _
      | exact ih1 _ _ _ _
      | exact ih2 _ _ _ _
      | exact ih3 _ _ _ _ _
      | exact hyglaw6_first.mono _
      | exact LeO.none _
      | refine LeO.ite ?_ ?_
      | refine LeO.bind ?_ (fun _ => ?_)
    · intro y0 y1 y2 y3 y4
      unfold hyglaw6_FltOrder.j3
      repeat' first
      | (with_reducible exact ih0 _ _ _ _)
      | (with_reducible exact ih1 _ _ _ _)
      | (with_reducible exact ih2 _ _ _ _)
      | (with_reducible exact ih3 _ _ _ _ _)
      | (with_reducible exact hyglaw6_first.mono _)
      | (with_reducible exact LeO.refl _)
      | (with_reducible exact LeO.none _)
      | (with_reducible refine LeO.ite ?_ ?_)
      | (with_reducible refine LeO.bind ?_ (fun _ => ?_))
      | exact ih0 _ _ _ _
      | exact ih1 _ _ _ _
      | exact ih2 _ _ _ _
      | exact ih3 _ _ _ _ _
      | exact hyglaw6_first.mono _
      | exact LeO.none _
      | refine LeO.ite ?_ ?_
      | refine LeO.bind ?_ (fun _ => ?_)
theorem hyglaw6_FltOrder.mono : ∀ a0 a1 a2 k, LeO (hyglaw6_FltOrder.f k a0 a1 a2) (hyglaw6_FltOrder.f (k + 1) a0 a1 a2) := by
  intro a0 a1 a2 k
  obtain ⟨ih0, ih1, ih2, ih3⟩ := hyglaw6_FltOrder.mono_l k
  unfold hyglaw6_FltOrder.f
  repeat' first
      | (with_reducible exact ih0 _ _ _ _)
      | (with_reducible exact ih1 _ _ _ _)
      | (with_reducible exact ih2 _ _ _ _)
      | (with_reducible exact ih3 _ _ _ _ _)
      | (with_reducible exact hyglaw6_first.mono _)
      | (with_reducible exact LeO.refl _)
      | (with_reducible exact LeO.none _)
      | (with_reducible refine LeO.ite ?_ ?_)
      | (with_reducible refine LeO.bind ?_ (fun _ => ?_))
      | exact ih0 _ _ _ _
      | exact ih1 _ _ _ _
      | exact ih2 _ _ _ _
      | exact ih3 _ _ _ _ _
      | exact hyglaw6_first.mono _
      | exact LeO.none _
      | refine LeO.ite ?_ ?_
      | refine LeO.bind ?_ (fun _ => ?_)
set_option maxHeartbeats 8000000 in
set_option maxRecDepth 100000 in
theorem hyglaw6_FltOrder.calls (k : Nat) (a0 : Int) (a1 : Int) (a2 : Int) (r : Bool) (w : World) (h : hyglaw6_FltOrder.f k a0 a1 a2 = some r) :
    Calls Try.prog 5 #[.int .u64 a0, .int .u64 a1, .int .u64 a2] w fun e w' => e = .returned (.bool r) ∧ Drawn0 w w' := by
  have H : ((hyglaw6_first.f k).bind fun t126 => (if t126 = true then ((flt_Order.f a0 a1).bind fun t127 => ((flt_Order.f a1 a2).bind fun t128 => ((flt_Order.f a0 a2).bind fun t129 => (if t127 < (-1) then (hyglaw6_FltOrder.j0 k a0 a1 t127 true) else (if t127 > 1 then (hyglaw6_FltOrder.j0 k a0 a1 t127 true) else ((flt_Order.f a1 a0).bind fun t130 => (if t127 = (wrap64 (-t130)) then (if ((t127 == 0) != (a0 == a1)) = true then (hyglaw6_FltOrder.j0 k a0 a1 t127 true) else (if t127 ≤ 0 then (if t128 ≤ 0 then (if t129 > 0 then (hyglaw6_FltOrder.j0 k a0 a1 t127 true) else (if t127 ≥ 0 then (if t128 ≥ 0 then (hyglaw6_FltOrder.j0 k a0 a1 t127 (decide (t129 < 0))) else (hyglaw6_FltOrder.j0 k a0 a1 t127 false)) else (hyglaw6_FltOrder.j0 k a0 a1 t127 false))) else (if t127 ≥ 0 then (if t128 ≥ 0 then (hyglaw6_FltOrder.j0 k a0 a1 t127 (decide (t129 < 0))) else (hyglaw6_FltOrder.j0 k a0 a1 t127 false)) else (hyglaw6_FltOrder.j0 k a0 a1 t127 false))) else (if t127 ≥ 0 then (if t128 ≥ 0 then (hyglaw6_FltOrder.j0 k a0 a1 t127 (decide (t129 < 0))) else (hyglaw6_FltOrder.j0 k a0 a1 t127 false)) else (hyglaw6_FltOrder.j0 k a0 a1 t127 false)))) else (hyglaw6_FltOrder.j0 k a0 a1 t127 true)))))))) else (some false))) = some r := h
  clear h
  replace H := Option.bind_eq_some_iff.mp H
  obtain ⟨t126, A40, H⟩ := H
  replace H : (if t126 = true then ((flt_Order.f a0 a1).bind fun t127 => ((flt_Order.f a1 a2).bind fun t128 => ((flt_Order.f a0 a2).bind fun t129 => (if t127 < (-1) then (hyglaw6_FltOrder.j0 k a0 a1 t127 true) else (if t127 > 1 then (hyglaw6_FltOrder.j0 k a0 a1 t127 true) else ((flt_Order.f a1 a0).bind fun t130 => (if t127 = (wrap64 (-t130)) then (if ((t127 == 0) != (a0 == a1)) = true then (hyglaw6_FltOrder.j0 k a0 a1 t127 true) else (if t127 ≤ 0 then (if t128 ≤ 0 then (if t129 > 0 then (hyglaw6_FltOrder.j0 k a0 a1 t127 true) else (if t127 ≥ 0 then (if t128 ≥ 0 then (hyglaw6_FltOrder.j0 k a0 a1 t127 (decide (t129 < 0))) else (hyglaw6_FltOrder.j0 k a0 a1 t127 false)) else (hyglaw6_FltOrder.j0 k a0 a1 t127 false))) else (if t127 ≥ 0 then (if t128 ≥ 0 then (hyglaw6_FltOrder.j0 k a0 a1 t127 (decide (t129 < 0))) else (hyglaw6_FltOrder.j0 k a0 a1 t127 false)) else (hyglaw6_FltOrder.j0 k a0 a1 t127 false))) else (if t127 ≥ 0 then (if t128 ≥ 0 then (hyglaw6_FltOrder.j0 k a0 a1 t127 (decide (t129 < 0))) else (hyglaw6_FltOrder.j0 k a0 a1 t127 false)) else (hyglaw6_FltOrder.j0 k a0 a1 t127 false)))) else (hyglaw6_FltOrder.j0 k a0 a1 t127 true)))))))) else (some false)) = some r := H
  have A4 := Aside0.mk A40
  clear A40
  by_cases c5 : t126 = true
  · subst c5
    have H1 : ((flt_Order.f a0 a1).bind fun t127 => ((flt_Order.f a1 a2).bind fun t128 => ((flt_Order.f a0 a2).bind fun t129 => (if t127 < (-1) then (hyglaw6_FltOrder.j0 k a0 a1 t127 true) else (if t127 > 1 then (hyglaw6_FltOrder.j0 k a0 a1 t127 true) else ((flt_Order.f a1 a0).bind fun t130 => (if t127 = (wrap64 (-t130)) then (if ((t127 == 0) != (a0 == a1)) = true then (hyglaw6_FltOrder.j0 k a0 a1 t127 true) else (if t127 ≤ 0 then (if t128 ≤ 0 then (if t129 > 0 then (hyglaw6_FltOrder.j0 k a0 a1 t127 true) else (if t127 ≥ 0 then (if t128 ≥ 0 then (hyglaw6_FltOrder.j0 k a0 a1 t127 (decide (t129 < 0))) else (hyglaw6_FltOrder.j0 k a0 a1 t127 false)) else (hyglaw6_FltOrder.j0 k a0 a1 t127 false))) else (if t127 ≥ 0 then (if t128 ≥ 0 then (hyglaw6_FltOrder.j0 k a0 a1 t127 (decide (t129 < 0))) else (hyglaw6_FltOrder.j0 k a0 a1 t127 false)) else (hyglaw6_FltOrder.j0 k a0 a1 t127 false))) else (if t127 ≥ 0 then (if t128 ≥ 0 then (hyglaw6_FltOrder.j0 k a0 a1 t127 (decide (t129 < 0))) else (hyglaw6_FltOrder.j0 k a0 a1 t127 false)) else (hyglaw6_FltOrder.j0 k a0 a1 t127 false)))) else (hyglaw6_FltOrder.j0 k a0 a1 t127 true)))))))) = some r := by rw [if_pos rfl] at H; exact H
    clear H
    have H := H1
    clear H1
    replace H := Option.bind_eq_some_iff.mp H
    obtain ⟨t127, A60, H⟩ := H
    replace H : ((flt_Order.f a1 a2).bind fun t128 => ((flt_Order.f a0 a2).bind fun t129 => (if t127 < (-1) then (hyglaw6_FltOrder.j0 k a0 a1 t127 true) else (if t127 > 1 then (hyglaw6_FltOrder.j0 k a0 a1 t127 true) else ((flt_Order.f a1 a0).bind fun t130 => (if t127 = (wrap64 (-t130)) then (if ((t127 == 0) != (a0 == a1)) = true then (hyglaw6_FltOrder.j0 k a0 a1 t127 true) else (if t127 ≤ 0 then (if t128 ≤ 0 then (if t129 > 0 then (hyglaw6_FltOrder.j0 k a0 a1 t127 true) else (if t127 ≥ 0 then (if t128 ≥ 0 then (hyglaw6_FltOrder.j0 k a0 a1 t127 (decide (t129 < 0))) else (hyglaw6_FltOrder.j0 k a0 a1 t127 false)) else (hyglaw6_FltOrder.j0 k a0 a1 t127 false))) else (if t127 ≥ 0 then (if t128 ≥ 0 then (hyglaw6_FltOrder.j0 k a0 a1 t127 (decide (t129 < 0))) else (hyglaw6_FltOrder.j0 k a0 a1 t127 false)) else (hyglaw6_FltOrder.j0 k a0 a1 t127 false))) else (if t127 ≥ 0 then (if t128 ≥ 0 then (hyglaw6_FltOrder.j0 k a0 a1 t127 (decide (t129 < 0))) else (hyglaw6_FltOrder.j0 k a0 a1 t127 false)) else (hyglaw6_FltOrder.j0 k a0 a1 t127 false)))) else (hyglaw6_FltOrder.j0 k a0 a1 t127 true))))))) = some r := H
    have A6 := Aside0.mk A60
    clear A60
    replace H := Option.bind_eq_some_iff.mp H
    obtain ⟨t128, A70, H⟩ := H
    replace H : ((flt_Order.f a0 a2).bind fun t129 => (if t127 < (-1) then (hyglaw6_FltOrder.j0 k a0 a1 t127 true) else (if t127 > 1 then (hyglaw6_FltOrder.j0 k a0 a1 t127 true) else ((flt_Order.f a1 a0).bind fun t130 => (if t127 = (wrap64 (-t130)) then (if ((t127 == 0) != (a0 == a1)) = true then (hyglaw6_FltOrder.j0 k a0 a1 t127 true) else (if t127 ≤ 0 then (if t128 ≤ 0 then (if t129 > 0 then (hyglaw6_FltOrder.j0 k a0 a1 t127 true) else (if t127 ≥ 0 then (if t128 ≥ 0 then (hyglaw6_FltOrder.j0 k a0 a1 t127 (decide (t129 < 0))) else (hyglaw6_FltOrder.j0 k a0 a1 t127 false)) else (hyglaw6_FltOrder.j0 k a0 a1 t127 false))) else (if t127 ≥ 0 then (if t128 ≥ 0 then (hyglaw6_FltOrder.j0 k a0 a1 t127 (decide (t129 < 0))) else (hyglaw6_FltOrder.j0 k a0 a1 t127 false)) else (hyglaw6_FltOrder.j0 k a0 a1 t127 false))) else (if t127 ≥ 0 then (if t128 ≥ 0 then (hyglaw6_FltOrder.j0 k a0 a1 t127 (decide (t129 < 0))) else (hyglaw6_FltOrder.j0 k a0 a1 t127 false)) else (hyglaw6_FltOrder.j0 k a0 a1 t127 false)))) else (hyglaw6_FltOrder.j0 k a0 a1 t127 true)))))) = some r := H
    have A7 := Aside0.mk A70
    clear A70
    replace H := Option.bind_eq_some_iff.mp H
    obtain ⟨t129, A80, H⟩ := H
    replace H : (if t127 < (-1) then (hyglaw6_FltOrder.j0 k a0 a1 t127 true) else (if t127 > 1 then (hyglaw6_FltOrder.j0 k a0 a1 t127 true) else ((flt_Order.f a1 a0).bind fun t130 => (if t127 = (wrap64 (-t130)) then (if ((t127 == 0) != (a0 == a1)) = true then (hyglaw6_FltOrder.j0 k a0 a1 t127 true) else (if t127 ≤ 0 then (if t128 ≤ 0 then (if t129 > 0 then (hyglaw6_FltOrder.j0 k a0 a1 t127 true) else (if t127 ≥ 0 then (if t128 ≥ 0 then (hyglaw6_FltOrder.j0 k a0 a1 t127 (decide (t129 < 0))) else (hyglaw6_FltOrder.j0 k a0 a1 t127 false)) else (hyglaw6_FltOrder.j0 k a0 a1 t127 false))) else (if t127 ≥ 0 then (if t128 ≥ 0 then (hyglaw6_FltOrder.j0 k a0 a1 t127 (decide (t129 < 0))) else (hyglaw6_FltOrder.j0 k a0 a1 t127 false)) else (hyglaw6_FltOrder.j0 k a0 a1 t127 false))) else (if t127 ≥ 0 then (if t128 ≥ 0 then (hyglaw6_FltOrder.j0 k a0 a1 t127 (decide (t129 < 0))) else (hyglaw6_FltOrder.j0 k a0 a1 t127 false)) else (hyglaw6_FltOrder.j0 k a0 a1 t127 false)))) else (hyglaw6_FltOrder.j0 k a0 a1 t127 true))))) = some r := H
    have A8 := Aside0.mk A80
    clear A80
    have HC9 := Aside0.mk H
    clear H
    go_enter Try.func5, Try.ntmps5
    go_upto_region 4 with (first | ((with_reducible refine gate_callee (f := 14) rfl ?_); refine goesL_ (some 12) rfl rfl Try.func14 (by kernel_rfl) rfl #[] rfl (by (try simp only [List.map_toArray, List.map_cons, List.map_nil]); first | done | rfl | (simp only [List.length_drop, List.length_take]; rfl)) ?_; (with_reducible refine (hyglaw6_first.calls k  true _ A4.out).mono ?_); rintro e w' ⟨rfl, ⟨nd, rfl⟩⟩; refine ⟨_, rfl, ?_⟩) | ((with_reducible refine gate_callee (f := 20) rfl ?_); refine goesL_ (some 16) rfl rfl Try.func20 (by kernel_rfl) rfl #[.int .u64 a0, .int .u64 a1] rfl (by (try simp only [List.map_toArray, List.map_cons, List.map_nil]); first | done | rfl | (simp only [List.length_drop, List.length_take]; rfl)) ?_; (with_reducible refine (flt_Order.calls a0 a1 t127 _ A6.out).mono ?_); rintro e w' ⟨rfl, ⟨nd, rfl⟩⟩; refine ⟨_, rfl, ?_⟩) | ((with_reducible refine gate_callee (f := 20) rfl ?_); refine goesL_ (some 19) rfl rfl Try.func20 (by kernel_rfl) rfl #[.int .u64 a1, .int .u64 a2] rfl (by (try simp only [List.map_toArray, List.map_cons, List.map_nil]); first | done | rfl | (simp only [List.length_drop, List.length_take]; rfl)) ?_; (with_reducible refine (flt_Order.calls a1 a2 t128 _ A7.out).mono ?_); rintro e w' ⟨rfl, ⟨nd, rfl⟩⟩; refine ⟨_, rfl, ?_⟩) | ((with_reducible refine gate_callee (f := 20) rfl ?_); refine goesL_ (some 22) rfl rfl Try.func20 (by kernel_rfl) rfl #[.int .u64 a0, .int .u64 a2] rfl (by (try simp only [List.map_toArray, List.map_cons, List.map_nil]); first | done | rfl | (simp only [List.length_drop, List.length_take]; rfl)) ?_; (with_reducible refine (flt_Order.calls a0 a2 t129 _ A8.out).mono ?_); rintro e w' ⟨rfl, ⟨nd, rfl⟩⟩; refine ⟨_, rfl, ?_⟩))
    (try simp only [Act.put, List.setIfInBounds_toArray, List.set_cons_zero, List.set_cons_succ])
    go_cut [68] (fun v68 wc => ∃ (kq : Nat) (x68_8 : Bool), v68 = .bool x68_8 ∧ Aside0 (hyglaw6_FltOrder.j0 kq a0 a1 t127 x68_8 = some r) ∧ Aside0 (kq ≤ k) ∧ Drawn0 w wc)
    case first =>
      have H := HC9.out
      clear HC9
      by_cases c10 : t127 < (-1)
      · rw [if_pos c10] at H
        have c10b0 : decide (t127 < (-1)) = true := decide_eq_true c10
        clear c10
        (first | rw [c10b0] | (simp only [i64_w, i32_w]; rw [c10b0]) | skip)
        have H' := Aside0.mk H
        clear H
        go_wp2
        go_meet
        case rel => exact ⟨_, (true), (by first | rfl | (simp; done) | (simp [*]; done)), H', ⟨by first | omega | exact Nat.le_refl _⟩, by repeat (first | exact Drawn0.refl _ | apply Drawn0.step)⟩
      · rw [if_neg c10] at H
        have c10b0 : decide (t127 < (-1)) = false := decide_eq_false c10
        clear c10
        (first | rw [c10b0] | (simp only [i64_w, i32_w]; rw [c10b0]) | skip)
        by_cases c11 : t127 > 1
        · rw [if_pos c11] at H
          have c11b0 : decide (1 < t127) = true := decide_eq_true c11
          clear c11
          have H' := Aside0.mk H
          clear H
          go_wp2
          go_meet
          case rel => exact ⟨_, (true), (by first | rfl | (simp; done) | (simp [*]; done)), H', ⟨by first | omega | exact Nat.le_refl _⟩, by repeat (first | exact Drawn0.refl _ | apply Drawn0.step)⟩
        · rw [if_neg c11] at H
          have c11b0 : decide (1 < t127) = false := decide_eq_false c11
          clear c11
          replace H := Option.bind_eq_some_iff.mp H
          obtain ⟨t130, A120, H⟩ := H
          replace H : (if t127 = (wrap64 (-t130)) then (if ((t127 == 0) != (a0 == a1)) = true then (hyglaw6_FltOrder.j0 k a0 a1 t127 true) else (if t127 ≤ 0 then (if t128 ≤ 0 then (if t129 > 0 then (hyglaw6_FltOrder.j0 k a0 a1 t127 true) else (if t127 ≥ 0 then (if t128 ≥ 0 then (hyglaw6_FltOrder.j0 k a0 a1 t127 (decide (t129 < 0))) else (hyglaw6_FltOrder.j0 k a0 a1 t127 false)) else (hyglaw6_FltOrder.j0 k a0 a1 t127 false))) else (if t127 ≥ 0 then (if t128 ≥ 0 then (hyglaw6_FltOrder.j0 k a0 a1 t127 (decide (t129 < 0))) else (hyglaw6_FltOrder.j0 k a0 a1 t127 false)) else (hyglaw6_FltOrder.j0 k a0 a1 t127 false))) else (if t127 ≥ 0 then (if t128 ≥ 0 then (hyglaw6_FltOrder.j0 k a0 a1 t127 (decide (t129 < 0))) else (hyglaw6_FltOrder.j0 k a0 a1 t127 false)) else (hyglaw6_FltOrder.j0 k a0 a1 t127 false)))) else (hyglaw6_FltOrder.j0 k a0 a1 t127 true)) = some r := H
          have A12 := Aside0.mk A120
          clear A120
          by_cases c13 : t127 = (wrap64 (-t130))
          · rw [if_pos c13] at H
            have c13b0 : (t127 == (wrap64 (-t130))) = true := beq_iff_eq.mpr c13
            have c13b1 : (t127 != (wrap64 (-t130))) = false := bne_eq_false_iff_eq.mpr c13
            clear c13
            by_cases c14 : ((t127 == 0) != (a0 == a1)) = true
            · rw [if_pos c14] at H
              have c14b0 : ((t127 == 0) != (a0 == a1)) = true := c14
              (try (have c14b1 : decide ((t127 == 0) = (a0 == a1)) = false := by simpa using c14))
              (try (have c14b2 : ((t127 == 0) == (a0 == a1)) = false := by simpa using c14))
              (try (have c14b3 : ¬ ((t127 == 0) = (a0 == a1)) := by simpa using c14))
              clear c14
              have H' := Aside0.mk H
              clear H
              go_wp2_with (first | (go_at_call 20; (with_reducible refine (flt_Order.calls a1 a0 t130 _ A12.out).mono ?_); rintro e w' ⟨rfl, ⟨nd, rfl⟩⟩))
              go_meet
              case rel => exact ⟨_, (true), (by first | rfl | (simp; done) | (simp [*]; done)), H', ⟨by first | omega | exact Nat.le_refl _⟩, by repeat (first | exact Drawn0.refl _ | apply Drawn0.step)⟩
            · rw [if_neg c14] at H
              have c14b0 : ((t127 == 0) != (a0 == a1)) = false := by simpa using c14
              (try (have c14b1 : decide ((t127 == 0) = (a0 == a1)) = true := by simpa using c14))
              (try (have c14b2 : ((t127 == 0) == (a0 == a1)) = true := by simpa using c14))
              clear c14
              by_cases c15 : t127 ≤ 0
              · rw [if_pos c15] at H
                have c15b0 : decide (t127 ≤ 0) = true := decide_eq_true c15
                clear c15
                by_cases c16 : t128 ≤ 0
                · rw [if_pos c16] at H
                  have c16b0 : decide (t128 ≤ 0) = true := decide_eq_true c16
                  clear c16
                  by_cases c17 : t129 > 0
                  · rw [if_pos c17] at H
                    have c17b0 : decide (0 < t129) = true := decide_eq_true c17
                    clear c17
                    have H' := Aside0.mk H
                    clear H
                    go_wp2_with (first | (go_at_call 20; (with_reducible refine (flt_Order.calls a1 a0 t130 _ A12.out).mono ?_); rintro e w' ⟨rfl, ⟨nd, rfl⟩⟩))
                    go_meet
                    case rel => exact ⟨_, (true), (by first | rfl | (simp; done) | (simp [*]; done)), H', ⟨by first | omega | exact Nat.le_refl _⟩, by repeat (first | exact Drawn0.refl _ | apply Drawn0.step)⟩
                  · rw [if_neg c17] at H
                    have c17b0 : decide (0 < t129) = false := decide_eq_false c17
                    clear c17
                    by_cases c18 : t127 ≥ 0
                    · rw [if_pos c18] at H
                      have c18b0 : decide (0 ≤ t127) = true := decide_eq_true c18
                      clear c18
                      by_cases c19 : t128 ≥ 0
                      · rw [if_pos c19] at H
                        have c19b0 : decide (0 ≤ t128) = true := decide_eq_true c19
                        clear c19
                        have H' := Aside0.mk H
                        clear H
                        go_wp2_with (first | (go_at_call 20; (with_reducible refine (flt_Order.calls a1 a0 t130 _ A12.out).mono ?_); rintro e w' ⟨rfl, ⟨nd, rfl⟩⟩))
                        go_meet
                        case rel => exact ⟨_, (decide (t129 < 0)), (by first | rfl | (simp; done) | (simp [*]; done)), H', ⟨by first | omega | exact Nat.le_refl _⟩, by repeat (first | exact Drawn0.refl _ | apply Drawn0.step)⟩
                      · rw [if_neg c19] at H
                        have c19b0 : decide (0 ≤ t128) = false := decide_eq_false c19
                        clear c19
                        have H' := Aside0.mk H
                        clear H
                        go_wp2_with (first | (go_at_call 20; (with_reducible refine (flt_Order.calls a1 a0 t130 _ A12.out).mono ?_); rintro e w' ⟨rfl, ⟨nd, rfl⟩⟩))
                        go_meet
                        case rel => exact ⟨_, (false), (by first | rfl | (simp; done) | (simp [*]; done)), H', ⟨by first | omega | exact Nat.le_refl _⟩, by repeat (first | exact Drawn0.refl _ | apply Drawn0.step)⟩
                    · rw [if_neg c18] at H
                      have c18b0 : decide (0 ≤ t127) = false := decide_eq_false c18
                      clear c18
                      have H' := Aside0.mk H
                      clear H
                      go_wp2_with (first | (go_at_call 20; (with_reducible refine (flt_Order.calls a1 a0 t130 _ A12.out).mono ?_); rintro e w' ⟨rfl, ⟨nd, rfl⟩⟩))
                      go_meet
                      case rel => exact ⟨_, (false), (by first | rfl | (simp; done) | (simp [*]; done)), H', ⟨by first | omega | exact Nat.le_refl _⟩, by repeat (first | exact Drawn0.refl _ | apply Drawn0.step)⟩
                · rw [if_neg c16] at H
                  have c16b0 : decide (t128 ≤ 0) = false := decide_eq_false c16
                  clear c16
                  by_cases c20 : t127 ≥ 0
                  · rw [if_pos c20] at H
                    have c20b0 : decide (0 ≤ t127) = true := decide_eq_true c20
                    clear c20
                    by_cases c21 : t128 ≥ 0
                    · rw [if_pos c21] at H
                      have c21b0 : decide (0 ≤ t128) = true := decide_eq_true c21
                      clear c21
                      have H' := Aside0.mk H
                      clear H
                      go_wp2_with (first | (go_at_call 20; (with_reducible refine (flt_Order.calls a1 a0 t130 _ A12.out).mono ?_); rintro e w' ⟨rfl, ⟨nd, rfl⟩⟩))
                      go_meet
                      case rel => exact ⟨_, (decide (t129 < 0)), (by first | rfl | (simp; done) | (simp [*]; done)), H', ⟨by first | omega | exact Nat.le_refl _⟩, by repeat (first | exact Drawn0.refl _ | apply Drawn0.step)⟩
                    · rw [if_neg c21] at H
                      have c21b0 : decide (0 ≤ t128) = false := decide_eq_false c21
                      clear c21
                      have H' := Aside0.mk H
                      clear H
                      go_wp2_with (first | (go_at_call 20; (with_reducible refine (flt_Order.calls a1 a0 t130 _ A12.out).mono ?_); rintro e w' ⟨rfl, ⟨nd, rfl⟩⟩))
                      go_meet
                      case rel => exact ⟨_, (false), (by first | rfl | (simp; done) | (simp [*]; done)), H', ⟨by first | omega | exact Nat.le_refl _⟩, by repeat (first | exact Drawn0.refl _ | apply Drawn0.step)⟩
                  · rw [if_neg c20] at H
                    have c20b0 : decide (0 ≤ t127) = false := decide_eq_false c20
                    clear c20
                    have H' := Aside0.mk H
                    clear H
                    go_wp2_with (first | (go_at_call 20; (with_reducible refine (flt_Order.calls a1 a0 t130 _ A12.out).mono ?_); rintro e w' ⟨rfl, ⟨nd, rfl⟩⟩))
                    go_meet
                    case rel => exact ⟨_, (false), (by first | rfl | (simp; done) | (simp [*]; done)), H', ⟨by first | omega | exact Nat.le_refl _⟩, by repeat (first | exact Drawn0.refl _ | apply Drawn0.step)⟩
              · rw [if_neg c15] at H
                have c15b0 : decide (t127 ≤ 0) = false := decide_eq_false c15
                clear c15
                by_cases c22 : t127 ≥ 0
                · rw [if_pos c22] at H
                  have c22b0 : decide (0 ≤ t127) = true := decide_eq_true c22
                  clear c22
                  by_cases c23 : t128 ≥ 0
                  · rw [if_pos c23] at H
                    have c23b0 : decide (0 ≤ t128) = true := decide_eq_true c23
                    clear c23
                    have H' := Aside0.mk H
                    clear H
                    go_wp2_with (first | (go_at_call 20; (with_reducible refine (flt_Order.calls a1 a0 t130 _ A12.out).mono ?_); rintro e w' ⟨rfl, ⟨nd, rfl⟩⟩))
                    go_meet
                    case rel => exact ⟨_, (decide (t129 < 0)), (by first | rfl | (simp; done) | (simp [*]; done)), H', ⟨by first | omega | exact Nat.le_refl _⟩, by repeat (first | exact Drawn0.refl _ | apply Drawn0.step)⟩
                  · rw [if_neg c23] at H
                    have c23b0 : decide (0 ≤ t128) = false := decide_eq_false c23
                    clear c23
                    have H' := Aside0.mk H
                    clear H
                    go_wp2_with (first | (go_at_call 20; (with_reducible refine (flt_Order.calls a1 a0 t130 _ A12.out).mono ?_); rintro e w' ⟨rfl, ⟨nd, rfl⟩⟩))
                    go_meet
                    case rel => exact ⟨_, (false), (by first | rfl | (simp; done) | (simp [*]; done)), H', ⟨by first | omega | exact Nat.le_refl _⟩, by repeat (first | exact Drawn0.refl _ | apply Drawn0.step)⟩
                · rw [if_neg c22] at H
                  have c22b0 : decide (0 ≤ t127) = false := decide_eq_false c22
                  clear c22
                  have H' := Aside0.mk H
                  clear H
                  go_wp2_with (first | (go_at_call 20; (with_reducible refine (flt_Order.calls a1 a0 t130 _ A12.out).mono ?_); rintro e w' ⟨rfl, ⟨nd, rfl⟩⟩))
                  go_meet
                  case rel => exact ⟨_, (false), (by first | rfl | (simp; done) | (simp [*]; done)), H', ⟨by first | omega | exact Nat.le_refl _⟩, by repeat (first | exact Drawn0.refl _ | apply Drawn0.step)⟩
          · rw [if_neg c13] at H
            have c13b0 : (t127 == (wrap64 (-t130))) = false := beq_eq_false_iff_ne.mpr c13
            have c13b1 : (t127 != (wrap64 (-t130))) = true := bne_iff_ne.mpr c13
            have H' := Aside0.mk H
            clear H
            go_wp2_with (first | (go_at_call 20; (with_reducible refine (flt_Order.calls a1 a0 t130 _ A12.out).mono ?_); rintro e w' ⟨rfl, ⟨nd, rfl⟩⟩))
            go_meet
            case rel => exact ⟨_, (true), (by first | rfl | (simp; done) | (simp [*]; done)), H', ⟨by first | omega | exact Nat.le_refl _⟩, by repeat (first | exact Drawn0.refl _ | apply Drawn0.step)⟩
    case rest =>
      clear HC9
      try clear c1
      try clear c2
      try clear p2
      try clear c5
      try clear p6
      try clear c10
      try clear c10b0
      try clear c11
      try clear c11b0
      try clear c13
      try clear c13b0
      try clear c13b1
      try clear c14
      try clear c14b0
      try clear c14b1
      try clear c14b2
      try clear c15
      try clear c15b0
      try clear c16
      try clear c16b0
      try clear c17
      try clear c17b0
      try clear c18
      try clear c18b0
      try clear c19
      try clear c19b0
      try clear c20
      try clear c20b0
      try clear c21
      try clear c21b0
      try clear c22
      try clear c22b0
      try clear c23
      try clear c23b0
      obtain ⟨kq, x68_8, rfl, HA, HJ8, ⟨mc8, rfl⟩⟩ := hcut
      cases kq with
      | zero => exact absurd HA.out (by simp [hyglaw6_FltOrder.j0])
      | succ kj8 =>
        have H := HA.out
        clear HA
        simp only [hyglaw6_FltOrder.j0] at H
        by_cases c24 : x68_8 = true
        · subst c24
          have H1 : (some false) = some r := by rw [if_pos rfl] at H; exact H
          clear H
          have H := H1
          clear H1
          obtain rfl := Option.some.inj H
          go_wp2
          go_ret
          exact ⟨by first | rfl | (simp; done) | (simp [*]; done), by repeat (first | exact Drawn0.refl _ | apply Drawn0.step)⟩
        · replace c24 := Bool.eq_false_iff.mpr c24
          subst c24
          have H1 : ((flt_Less.f a0 a1).bind fun t131 => (if t131 = true then (if t127 = (-1) then ((flt_Less.f a1 a0).bind fun t132 => (if t132 = true then (hyglaw6_FltOrder.j1 kj8 a0 a1 t127 true) else ((flt_Equal.f a0 a1).bind fun t133 => (hyglaw6_FltOrder.j1 kj8 a0 a1 t127 t133)))) else (hyglaw6_FltOrder.j1 kj8 a0 a1 t127 true)) else (hyglaw6_FltOrder.j1 kj8 a0 a1 t127 false))) = some r := by rw [if_neg (show ¬ (false = true) by decide)] at H; exact H
          clear H
          have H := H1
          clear H1
          have HC25 := Aside0.mk H
          clear H
          go_upto_region 6 with (fail)
          go_cut [85] (fun v85 wc => ∃ (kq : Nat) (x85_24 : Bool), v85 = .bool x85_24 ∧ Aside0 (hyglaw6_FltOrder.j1 kq a0 a1 t127 x85_24 = some r) ∧ Aside0 (kq ≤ kj8) ∧ Drawn0 w wc)
          case first =>
            have H := HC25.out
            clear HC25
            replace H := Option.bind_eq_some_iff.mp H
            obtain ⟨t131, A260, H⟩ := H
            replace H : (if t131 = true then (if t127 = (-1) then ((flt_Less.f a1 a0).bind fun t132 => (if t132 = true then (hyglaw6_FltOrder.j1 kj8 a0 a1 t127 true) else ((flt_Equal.f a0 a1).bind fun t133 => (hyglaw6_FltOrder.j1 kj8 a0 a1 t127 t133)))) else (hyglaw6_FltOrder.j1 kj8 a0 a1 t127 true)) else (hyglaw6_FltOrder.j1 kj8 a0 a1 t127 false)) = some r := H
            have A26 := Aside0.mk A260
            clear A260
            by_cases c27 : t131 = true
            · subst c27
              have H1 : (if t127 = (-1) then ((flt_Less.f a1 a0).bind fun t132 => (if t132 = true then (hyglaw6_FltOrder.j1 kj8 a0 a1 t127 true) else ((flt_Equal.f a0 a1).bind fun t133 => (hyglaw6_FltOrder.j1 kj8 a0 a1 t127 t133)))) else (hyglaw6_FltOrder.j1 kj8 a0 a1 t127 true)) = some r := by rw [if_pos rfl] at H; exact H
              clear H
              have H := H1
              clear H1
              by_cases c28 : t127 = (-1)
              · rw [if_pos c28] at H
                have c28b0 : (t127 == (-1)) = true := beq_iff_eq.mpr c28
                have c28b1 : (t127 != (-1)) = false := bne_eq_false_iff_eq.mpr c28
                clear c28
                (first | rw [c28b0] | (simp only [i64_w, i32_w]; rw [c28b0]) | skip)
                replace H := Option.bind_eq_some_iff.mp H
                obtain ⟨t132, A290, H⟩ := H
                replace H : (if t132 = true then (hyglaw6_FltOrder.j1 kj8 a0 a1 t127 true) else ((flt_Equal.f a0 a1).bind fun t133 => (hyglaw6_FltOrder.j1 kj8 a0 a1 t127 t133))) = some r := H
                have A29 := Aside0.mk A290
                clear A290
                by_cases c30 : t132 = true
                · subst c30
                  have H1 : (hyglaw6_FltOrder.j1 kj8 a0 a1 t127 true) = some r := by rw [if_pos rfl] at H; exact H
                  clear H
                  have H := H1
                  clear H1
                  have H' := Aside0.mk H
                  clear H
                  go_wp2_with (first | ((with_reducible refine gate_callee (f := 19) rfl ?_); refine goesL_ (some 71) rfl rfl Try.func19 (by kernel_rfl) rfl #[.int .u64 a0, .int .u64 a1] rfl (by (try simp only [List.map_toArray, List.map_cons, List.map_nil]); first | done | rfl | (simp only [List.length_drop, List.length_take]; rfl)) ?_; (with_reducible refine (flt_Less.calls a0 a1 true _ A26.out).mono ?_); rintro e w' ⟨rfl, ⟨nd, rfl⟩⟩; refine ⟨_, rfl, ?_⟩) | (go_at_call 19; (with_reducible refine (flt_Less.calls a1 a0 true _ A29.out).mono ?_); rintro e w' ⟨rfl, ⟨nd, rfl⟩⟩))
                  go_meet
                  case rel => exact ⟨_, (true), (by first | rfl | (simp; done) | (simp [*]; done)), H', ⟨by have := HJ8.out; first | omega | exact Nat.le_refl _⟩, by repeat (first | exact Drawn0.refl _ | apply Drawn0.step)⟩
                · replace c30 := Bool.eq_false_iff.mpr c30
                  subst c30
                  have H1 : ((flt_Equal.f a0 a1).bind fun t133 => (hyglaw6_FltOrder.j1 kj8 a0 a1 t127 t133)) = some r := by rw [if_neg (show ¬ (false = true) by decide)] at H; exact H
                  clear H
                  have H := H1
                  clear H1
                  replace H := Option.bind_eq_some_iff.mp H
                  obtain ⟨t133, A310, H⟩ := H
                  replace H : (hyglaw6_FltOrder.j1 kj8 a0 a1 t127 t133) = some r := H
                  have A31 := Aside0.mk A310
                  clear A310
                  have H' := Aside0.mk H
                  clear H
                  go_wp2_with (first | ((with_reducible refine gate_callee (f := 19) rfl ?_); refine goesL_ (some 71) rfl rfl Try.func19 (by kernel_rfl) rfl #[.int .u64 a0, .int .u64 a1] rfl (by (try simp only [List.map_toArray, List.map_cons, List.map_nil]); first | done | rfl | (simp only [List.length_drop, List.length_take]; rfl)) ?_; (with_reducible refine (flt_Less.calls a0 a1 true _ A26.out).mono ?_); rintro e w' ⟨rfl, ⟨nd, rfl⟩⟩; refine ⟨_, rfl, ?_⟩) | (go_at_call 19; (with_reducible refine (flt_Less.calls a1 a0 false _ A29.out).mono ?_); rintro e w' ⟨rfl, ⟨nd, rfl⟩⟩) | (go_at_call 21; (with_reducible refine (flt_Equal.calls a0 a1 t133 _ A31.out).mono ?_); rintro e w' ⟨rfl, ⟨nd, rfl⟩⟩))
                  go_meet
                  case rel => exact ⟨_, (t133), (by first | rfl | (simp; done) | (simp [*]; done)), H', ⟨by have := HJ8.out; first | omega | exact Nat.le_refl _⟩, by repeat (first | exact Drawn0.refl _ | apply Drawn0.step)⟩
              · rw [if_neg c28] at H
                have c28b0 : (t127 == (-1)) = false := beq_eq_false_iff_ne.mpr c28
                have c28b1 : (t127 != (-1)) = true := bne_iff_ne.mpr c28
                (first | rw [c28b0] | (simp only [i64_w, i32_w]; rw [c28b0]) | skip)
                have H' := Aside0.mk H
                clear H
                go_wp2_with (first | ((with_reducible refine gate_callee (f := 19) rfl ?_); refine goesL_ (some 71) rfl rfl Try.func19 (by kernel_rfl) rfl #[.int .u64 a0, .int .u64 a1] rfl (by (try simp only [List.map_toArray, List.map_cons, List.map_nil]); first | done | rfl | (simp only [List.length_drop, List.length_take]; rfl)) ?_; (with_reducible refine (flt_Less.calls a0 a1 true _ A26.out).mono ?_); rintro e w' ⟨rfl, ⟨nd, rfl⟩⟩; refine ⟨_, rfl, ?_⟩))
                go_meet
                case rel => exact ⟨_, (true), (by first | rfl | (simp; done) | (simp [*]; done)), H', ⟨by have := HJ8.out; first | omega | exact Nat.le_refl _⟩, by repeat (first | exact Drawn0.refl _ | apply Drawn0.step)⟩
            · replace c27 := Bool.eq_false_iff.mpr c27
              subst c27
              have H1 : (hyglaw6_FltOrder.j1 kj8 a0 a1 t127 false) = some r := by rw [if_neg (show ¬ (false = true) by decide)] at H; exact H
              clear H
              have H := H1
              clear H1
              have H' := Aside0.mk H
              clear H
              go_wp2_with (first | ((with_reducible refine gate_callee (f := 19) rfl ?_); refine goesL_ (some 71) rfl rfl Try.func19 (by kernel_rfl) rfl #[.int .u64 a0, .int .u64 a1] rfl (by (try simp only [List.map_toArray, List.map_cons, List.map_nil]); first | done | rfl | (simp only [List.length_drop, List.length_take]; rfl)) ?_; (with_reducible refine (flt_Less.calls a0 a1 false _ A26.out).mono ?_); rintro e w' ⟨rfl, ⟨nd, rfl⟩⟩; refine ⟨_, rfl, ?_⟩))
              go_meet
              case rel => exact ⟨_, (false), (by first | rfl | (simp; done) | (simp [*]; done)), H', ⟨by have := HJ8.out; first | omega | exact Nat.le_refl _⟩, by repeat (first | exact Drawn0.refl _ | apply Drawn0.step)⟩
          case rest =>
            clear HC25
            try clear c1
            try clear c2
            try clear p2
            try clear c3
            try clear c5
            try clear p6
            try clear c8
            try clear c10
            try clear c10b0
            try clear c11
            try clear c11b0
            try clear c13
            try clear c13b0
            try clear c13b1
            try clear c14
            try clear c14b0
            try clear c14b1
            try clear c14b2
            try clear c15
            try clear c15b0
            try clear c16
            try clear c16b0
            try clear c17
            try clear c17b0
            try clear c18
            try clear c18b0
            try clear c19
            try clear c19b0
            try clear c20
            try clear c20b0
            try clear c21
            try clear c21b0
            try clear c22
            try clear c22b0
            try clear c23
            try clear c23b0
            try clear c24
            try clear c27
            try clear c28
            try clear c28b0
            try clear c28b1
            try clear c30
            try clear p2
            try clear p6
            obtain ⟨kq, x85_24, rfl, HA, HJ24, ⟨mc24, rfl⟩⟩ := hcut
            cases kq with
            | zero => exact absurd HA.out (by simp [hyglaw6_FltOrder.j1])
            | succ kj24 =>
              have H := HA.out
              clear HA
              simp only [hyglaw6_FltOrder.j1] at H
              by_cases c32 : x85_24 = true
              · subst c32
                have H1 : (some false) = some r := by rw [if_pos rfl] at H; exact H
                clear H
                have H := H1
                clear H1
                obtain rfl := Option.some.inj H
                go_wp2
                go_ret
                exact ⟨by first | rfl | (simp; done) | (simp [*]; done), by repeat (first | exact Drawn0.refl _ | apply Drawn0.step)⟩
              · replace c32 := Bool.eq_false_iff.mpr c32
                subst c32
                have H1 : ((flt_Class.f a0).bind fun t134 => (if t134 = 4 then (hyglaw6_FltOrder.j2 kj24 a0 a1 t127 true) else ((flt_Class.f a1).bind fun t135 => (hyglaw6_FltOrder.j2 kj24 a0 a1 t127 (t135 == 4))))) = some r := by rw [if_neg (show ¬ (false = true) by decide)] at H; exact H
                clear H
                have H := H1
                clear H1
                have HC33 := Aside0.mk H
                clear H
                go_upto_region 8 with (fail)
                go_cut [10] (fun v10 wc => ∃ (kq : Nat) (x10_32 : Bool), v10 = .bool x10_32 ∧ Aside0 (hyglaw6_FltOrder.j2 kq a0 a1 t127 x10_32 = some r) ∧ Aside0 (kq ≤ kj24) ∧ Drawn0 w wc)
                case first =>
                  have H := HC33.out
                  clear HC33
                  replace H := Option.bind_eq_some_iff.mp H
                  obtain ⟨t134, A340, H⟩ := H
                  replace H : (if t134 = 4 then (hyglaw6_FltOrder.j2 kj24 a0 a1 t127 true) else ((flt_Class.f a1).bind fun t135 => (hyglaw6_FltOrder.j2 kj24 a0 a1 t127 (t135 == 4)))) = some r := H
                  have A34 := Aside0.mk A340
                  clear A340
                  by_cases c35 : t134 = 4
                  · rw [if_pos c35] at H
                    have c35b0 : (t134 == 4) = true := beq_iff_eq.mpr c35
                    have c35b1 : (t134 != 4) = false := bne_eq_false_iff_eq.mpr c35
                    clear c35
                    (first | rw [c35b0] | (simp only [i64_w, i32_w]; rw [c35b0]) | skip)
                    have H' := Aside0.mk H
                    clear H
                    go_wp2_with (first | ((with_reducible refine gate_callee (f := 22) rfl ?_); refine goesL_ (some 87) rfl rfl Try.func22 (by kernel_rfl) rfl #[.int .u64 a0] rfl (by (try simp only [List.map_toArray, List.map_cons, List.map_nil]); first | done | rfl | (simp only [List.length_drop, List.length_take]; rfl)) ?_; (with_reducible refine (flt_Class.calls a0 t134 _ A34.out).mono ?_); rintro e w' ⟨rfl, ⟨nd, rfl⟩⟩; refine ⟨_, rfl, ?_⟩))
                    go_meet
                    case rel => exact ⟨_, (true), (by first | rfl | (simp; done) | (simp [*]; done)), H', ⟨by have := HJ8.out; have := HJ24.out; first | omega | exact Nat.le_refl _⟩, by repeat (first | exact Drawn0.refl _ | apply Drawn0.step)⟩
                  · rw [if_neg c35] at H
                    have c35b0 : (t134 == 4) = false := beq_eq_false_iff_ne.mpr c35
                    have c35b1 : (t134 != 4) = true := bne_iff_ne.mpr c35
                    (first | rw [c35b0] | (simp only [i64_w, i32_w]; rw [c35b0]) | skip)
                    replace H := Option.bind_eq_some_iff.mp H
                    obtain ⟨t135, A360, H⟩ := H
                    replace H : (hyglaw6_FltOrder.j2 kj24 a0 a1 t127 (t135 == 4)) = some r := H
                    have A36 := Aside0.mk A360
                    clear A360
                    have H' := Aside0.mk H
                    clear H
                    go_wp2_with (first | ((with_reducible refine gate_callee (f := 22) rfl ?_); refine goesL_ (some 87) rfl rfl Try.func22 (by kernel_rfl) rfl #[.int .u64 a0] rfl (by (try simp only [List.map_toArray, List.map_cons, List.map_nil]); first | done | rfl | (simp only [List.length_drop, List.length_take]; rfl)) ?_; (with_reducible refine (flt_Class.calls a0 t134 _ A34.out).mono ?_); rintro e w' ⟨rfl, ⟨nd, rfl⟩⟩; refine ⟨_, rfl, ?_⟩) | (go_at_call 22; (with_reducible refine (flt_Class.calls a1 t135 _ A36.out).mono ?_); rintro e w' ⟨rfl, ⟨nd, rfl⟩⟩))
                    go_meet
                    case rel => exact ⟨_, ((t135 == 4)), (by first | rfl | (simp; done) | (simp [*]; done)), H', ⟨by have := HJ8.out; have := HJ24.out; first | omega | exact Nat.le_refl _⟩, by repeat (first | exact Drawn0.refl _ | apply Drawn0.step)⟩
                case rest =>
                  clear HC33
                  try clear c1
                  try clear c2
                  try clear p2
                  try clear c3
                  try clear c5
                  try clear p6
                  try clear c8
                  try clear c10
                  try clear c10b0
                  try clear c11
                  try clear c11b0
                  try clear c13
                  try clear c13b0
                  try clear c13b1
                  try clear c14
                  try clear c14b0
                  try clear c14b1
                  try clear c14b2
                  try clear c15
                  try clear c15b0
                  try clear c16
                  try clear c16b0
                  try clear c17
                  try clear c17b0
                  try clear c18
                  try clear c18b0
                  try clear c19
                  try clear c19b0
                  try clear c20
                  try clear c20b0
                  try clear c21
                  try clear c21b0
                  try clear c22
                  try clear c22b0
                  try clear c23
                  try clear c23b0
                  try clear c24
                  try clear c27
                  try clear c28
                  try clear c28b0
                  try clear c28b1
                  try clear c30
                  try clear c32
                  try clear c35
                  try clear c35b0
                  try clear c35b1
                  try clear p2
                  try clear p6
                  obtain ⟨kq, x10_32, rfl, HA, HJ32, ⟨mc32, rfl⟩⟩ := hcut
                  cases kq with
                  | zero => exact absurd HA.out (by simp [hyglaw6_FltOrder.j2])
                  | succ kj32 =>
                    have H := HA.out
                    clear HA
                    simp only [hyglaw6_FltOrder.j2] at H
                    have HC37 := Aside0.mk H
                    clear H
                    go_upto_region 9 with (fail)
                    go_cut [11] (fun v11 wc => ∃ (kq : Nat) (x11_36 : Bool), v11 = .bool x11_36 ∧ Aside0 (hyglaw6_FltOrder.j3 kq a0 a1 t127 x10_32 x11_36 = some r) ∧ Aside0 (kq ≤ kj32) ∧ Drawn0 w wc)
                    case first =>
                      have H := HC37.out
                      clear HC37
                      replace H := Option.bind_eq_some_iff.mp H
                      obtain ⟨t136, A380, H⟩ := H
                      replace H : (if t136 = true then (hyglaw6_FltOrder.j3 kj32 a0 a1 t127 x10_32 true) else ((flt_Less.f a1 a0).bind fun t137 => (if t137 = true then (hyglaw6_FltOrder.j3 kj32 a0 a1 t127 x10_32 true) else ((flt_Equal.f a0 a1).bind fun t138 => (hyglaw6_FltOrder.j3 kj32 a0 a1 t127 x10_32 t138))))) = some r := H
                      have A38 := Aside0.mk A380
                      clear A380
                      by_cases c39 : t136 = true
                      · subst c39
                        have H1 : (hyglaw6_FltOrder.j3 kj32 a0 a1 t127 x10_32 true) = some r := by rw [if_pos rfl] at H; exact H
                        clear H
                        have H := H1
                        clear H1
                        have H' := Aside0.mk H
                        clear H
                        go_wp2_with (first | ((with_reducible refine gate_callee (f := 19) rfl ?_); refine goesL_ (some 96) rfl rfl Try.func19 (by kernel_rfl) rfl #[.int .u64 a0, .int .u64 a1] rfl (by (try simp only [List.map_toArray, List.map_cons, List.map_nil]); first | done | rfl | (simp only [List.length_drop, List.length_take]; rfl)) ?_; (with_reducible refine (flt_Less.calls a0 a1 true _ A38.out).mono ?_); rintro e w' ⟨rfl, ⟨nd, rfl⟩⟩; refine ⟨_, rfl, ?_⟩))
                        go_meet
                        case rel => exact ⟨_, (true), (by first | rfl | (simp; done) | (simp [*]; done)), H', ⟨by have := HJ8.out; have := HJ24.out; have := HJ32.out; first | omega | exact Nat.le_refl _⟩, by repeat (first | exact Drawn0.refl _ | apply Drawn0.step)⟩
                      · replace c39 := Bool.eq_false_iff.mpr c39
                        subst c39
                        have H1 : ((flt_Less.f a1 a0).bind fun t137 => (if t137 = true then (hyglaw6_FltOrder.j3 kj32 a0 a1 t127 x10_32 true) else ((flt_Equal.f a0 a1).bind fun t138 => (hyglaw6_FltOrder.j3 kj32 a0 a1 t127 x10_32 t138)))) = some r := by rw [if_neg (show ¬ (false = true) by decide)] at H; exact H
                        clear H
                        have H := H1
                        clear H1
                        replace H := Option.bind_eq_some_iff.mp H
                        obtain ⟨t137, A400, H⟩ := H
                        replace H : (if t137 = true then (hyglaw6_FltOrder.j3 kj32 a0 a1 t127 x10_32 true) else ((flt_Equal.f a0 a1).bind fun t138 => (hyglaw6_FltOrder.j3 kj32 a0 a1 t127 x10_32 t138))) = some r := H
                        have A40 := Aside0.mk A400
                        clear A400
                        by_cases c41 : t137 = true
                        · subst c41
                          have H1 : (hyglaw6_FltOrder.j3 kj32 a0 a1 t127 x10_32 true) = some r := by rw [if_pos rfl] at H; exact H
                          clear H
                          have H := H1
                          clear H1
                          have H' := Aside0.mk H
                          clear H
                          go_wp2_with (first | ((with_reducible refine gate_callee (f := 19) rfl ?_); refine goesL_ (some 96) rfl rfl Try.func19 (by kernel_rfl) rfl #[.int .u64 a0, .int .u64 a1] rfl (by (try simp only [List.map_toArray, List.map_cons, List.map_nil]); first | done | rfl | (simp only [List.length_drop, List.length_take]; rfl)) ?_; (with_reducible refine (flt_Less.calls a0 a1 false _ A38.out).mono ?_); rintro e w' ⟨rfl, ⟨nd, rfl⟩⟩; refine ⟨_, rfl, ?_⟩) | (go_at_call 19; (with_reducible refine (flt_Less.calls a1 a0 true _ A40.out).mono ?_); rintro e w' ⟨rfl, ⟨nd, rfl⟩⟩))
                          go_meet
                          case rel => exact ⟨_, (true), (by first | rfl | (simp; done) | (simp [*]; done)), H', ⟨by have := HJ8.out; have := HJ24.out; have := HJ32.out; first | omega | exact Nat.le_refl _⟩, by repeat (first | exact Drawn0.refl _ | apply Drawn0.step)⟩
                        · replace c41 := Bool.eq_false_iff.mpr c41
                          subst c41
                          have H1 : ((flt_Equal.f a0 a1).bind fun t138 => (hyglaw6_FltOrder.j3 kj32 a0 a1 t127 x10_32 t138)) = some r := by rw [if_neg (show ¬ (false = true) by decide)] at H; exact H
                          clear H
                          have H := H1
                          clear H1
                          replace H := Option.bind_eq_some_iff.mp H
                          obtain ⟨t138, A420, H⟩ := H
                          replace H : (hyglaw6_FltOrder.j3 kj32 a0 a1 t127 x10_32 t138) = some r := H
                          have A42 := Aside0.mk A420
                          clear A420
                          have H' := Aside0.mk H
                          clear H
                          go_wp2_with (first | ((with_reducible refine gate_callee (f := 19) rfl ?_); refine goesL_ (some 96) rfl rfl Try.func19 (by kernel_rfl) rfl #[.int .u64 a0, .int .u64 a1] rfl (by (try simp only [List.map_toArray, List.map_cons, List.map_nil]); first | done | rfl | (simp only [List.length_drop, List.length_take]; rfl)) ?_; (with_reducible refine (flt_Less.calls a0 a1 false _ A38.out).mono ?_); rintro e w' ⟨rfl, ⟨nd, rfl⟩⟩; refine ⟨_, rfl, ?_⟩) | (go_at_call 19; (with_reducible refine (flt_Less.calls a1 a0 false _ A40.out).mono ?_); rintro e w' ⟨rfl, ⟨nd, rfl⟩⟩) | (go_at_call 21; (with_reducible refine (flt_Equal.calls a0 a1 t138 _ A42.out).mono ?_); rintro e w' ⟨rfl, ⟨nd, rfl⟩⟩))
                          go_meet
                          case rel => exact ⟨_, (t138), (by first | rfl | (simp; done) | (simp [*]; done)), H', ⟨by have := HJ8.out; have := HJ24.out; have := HJ32.out; first | omega | exact Nat.le_refl _⟩, by repeat (first | exact Drawn0.refl _ | apply Drawn0.step)⟩
                    case rest =>
                      clear HC37
                      try clear c1
                      try clear c2
                      try clear p2
                      try clear c3
                      try clear c4
                      try clear c5
                      try clear p6
                      try clear c8
                      try clear c10
                      try clear c10b0
                      try clear c11
                      try clear c11b0
                      try clear c13
                      try clear c13b0
                      try clear c13b1
                      try clear c14
                      try clear c14b0
                      try clear c14b1
                      try clear c14b2
                      try clear c15
                      try clear c15b0
                      try clear c16
                      try clear c16b0
                      try clear c17
                      try clear c17b0
                      try clear c18
                      try clear c18b0
                      try clear c19
                      try clear c19b0
                      try clear c20
                      try clear c20b0
                      try clear c21
                      try clear c21b0
                      try clear c22
                      try clear c22b0
                      try clear c23
                      try clear c23b0
                      try clear c24
                      try clear c27
                      try clear c28
                      try clear c28b0
                      try clear c28b1
                      try clear c30
                      try clear c32
                      try clear c35
                      try clear c35b0
                      try clear c35b1
                      try clear c39
                      try clear c41
                      try clear p2
                      try clear p6
                      obtain ⟨kq, x11_36, rfl, HA, HJ36, ⟨mc36, rfl⟩⟩ := hcut
                      cases kq with
                      | zero => exact absurd HA.out (by simp [hyglaw6_FltOrder.j3])
                      | succ kj36 =>
                        have H := HA.out
                        clear HA
                        simp only [hyglaw6_FltOrder.j3] at H
                        replace H := Option.bind_eq_some_iff.mp H
                        obtain ⟨t139, A430, H⟩ := H
                        replace H : (if t139 = true then (if (x11_36 != x10_32) = true then ((flt_Neg.f a0).bind fun t140 => ((flt_Neg.f a1).bind fun t141 => ((flt_Order.f t140 t141).bind fun t142 => (if t142 = (wrap64 (-t127)) then ((flt_Neg.f a0).bind fun t140 => ((flt_Neg.f t140).bind fun t144 => (if t144 = a0 then ((flt_Less.f a0 a1).bind fun t145 => ((flt_Neg.f a1).bind fun t141 => ((flt_Neg.f a0).bind fun t140 => ((flt_Less.f t141 t140).bind fun t148 => (some (t145 == t148)))))) else (some false)))) else (some false))))) else (some false)) else (some false)) = some r := H
                        have A43 := Aside0.mk A430
                        clear A430
                        by_cases c44 : t139 = true
                        · subst c44
                          have H1 : (if (x11_36 != x10_32) = true then ((flt_Neg.f a0).bind fun t140 => ((flt_Neg.f a1).bind fun t141 => ((flt_Order.f t140 t141).bind fun t142 => (if t142 = (wrap64 (-t127)) then ((flt_Neg.f a0).bind fun t140 => ((flt_Neg.f t140).bind fun t144 => (if t144 = a0 then ((flt_Less.f a0 a1).bind fun t145 => ((flt_Neg.f a1).bind fun t141 => ((flt_Neg.f a0).bind fun t140 => ((flt_Less.f t141 t140).bind fun t148 => (some (t145 == t148)))))) else (some false)))) else (some false))))) else (some false)) = some r := by rw [if_pos rfl] at H; exact H
                          clear H
                          have H := H1
                          clear H1
                          by_cases c45 : (x11_36 != x10_32) = true
                          · rw [if_pos c45] at H
                            have c45b0 : (x11_36 != x10_32) = true := c45
                            (try (have c45b1 : decide (x11_36 = x10_32) = false := by simpa using c45))
                            (try (have c45b2 : (x11_36 == x10_32) = false := by simpa using c45))
                            (try (have c45b3 : ¬ (x11_36 = x10_32) := by simpa using c45))
                            clear c45
                            replace H := Option.bind_eq_some_iff.mp H
                            obtain ⟨t140, A460, H⟩ := H
                            replace H : ((flt_Neg.f a1).bind fun t141 => ((flt_Order.f t140 t141).bind fun t142 => (if t142 = (wrap64 (-t127)) then ((flt_Neg.f a0).bind fun t140 => ((flt_Neg.f t140).bind fun t144 => (if t144 = a0 then ((flt_Less.f a0 a1).bind fun t145 => ((flt_Neg.f a1).bind fun t141 => ((flt_Neg.f a0).bind fun t140 => ((flt_Less.f t141 t140).bind fun t148 => (some (t145 == t148)))))) else (some false)))) else (some false)))) = some r := H
                            have A46 := Aside0.mk A460
                            clear A460
                            replace H := Option.bind_eq_some_iff.mp H
                            obtain ⟨t141, A470, H⟩ := H
                            replace H : ((flt_Order.f t140 t141).bind fun t142 => (if t142 = (wrap64 (-t127)) then ((flt_Neg.f a0).bind fun t140 => ((flt_Neg.f t140).bind fun t144 => (if t144 = a0 then ((flt_Less.f a0 a1).bind fun t145 => ((flt_Neg.f a1).bind fun t141 => ((flt_Neg.f a0).bind fun t140 => ((flt_Less.f t141 t140).bind fun t148 => (some (t145 == t148)))))) else (some false)))) else (some false))) = some r := H
                            have A47 := Aside0.mk A470
                            clear A470
                            replace H := Option.bind_eq_some_iff.mp H
                            obtain ⟨t142, A480, H⟩ := H
                            replace H : (if t142 = (wrap64 (-t127)) then ((flt_Neg.f a0).bind fun t140 => ((flt_Neg.f t140).bind fun t144 => (if t144 = a0 then ((flt_Less.f a0 a1).bind fun t145 => ((flt_Neg.f a1).bind fun t141 => ((flt_Neg.f a0).bind fun t140 => ((flt_Less.f t141 t140).bind fun t148 => (some (t145 == t148)))))) else (some false)))) else (some false)) = some r := H
                            have A48 := Aside0.mk A480
                            clear A480
                            by_cases c49 : t142 = (wrap64 (-t127))
                            · rw [if_pos c49] at H
                              have c49b0 : (t142 == (wrap64 (-t127))) = true := beq_iff_eq.mpr c49
                              have c49b1 : (t142 != (wrap64 (-t127))) = false := bne_eq_false_iff_eq.mpr c49
                              clear c49
                              replace H := Option.bind_eq_some_iff.mp H
                              obtain ⟨t143, A500, H⟩ := H
                              obtain rfl : t140 = t143 := Option.some.inj (A46.out.symm.trans A500)
                              replace H : ((flt_Neg.f t140).bind fun t144 => (if t144 = a0 then ((flt_Less.f a0 a1).bind fun t145 => ((flt_Neg.f a1).bind fun t141 => ((flt_Neg.f a0).bind fun t140 => ((flt_Less.f t141 t140).bind fun t148 => (some (t145 == t148)))))) else (some false))) = some r := H
                              have A50 := Aside0.mk A500
                              clear A500
                              replace H := Option.bind_eq_some_iff.mp H
                              obtain ⟨t144, A510, H⟩ := H
                              replace H : (if t144 = a0 then ((flt_Less.f a0 a1).bind fun t145 => ((flt_Neg.f a1).bind fun t141 => ((flt_Neg.f a0).bind fun t140 => ((flt_Less.f t141 t140).bind fun t148 => (some (t145 == t148)))))) else (some false)) = some r := H
                              have A51 := Aside0.mk A510
                              clear A510
                              by_cases c52 : t144 = a0
                              · rw [if_pos c52] at H
                                have c52b0 : (t144 == a0) = true := beq_iff_eq.mpr c52
                                have c52b1 : (t144 != a0) = false := bne_eq_false_iff_eq.mpr c52
                                clear c52
                                replace H := Option.bind_eq_some_iff.mp H
                                obtain ⟨t145, A530, H⟩ := H
                                replace H : ((flt_Neg.f a1).bind fun t141 => ((flt_Neg.f a0).bind fun t140 => ((flt_Less.f t141 t140).bind fun t148 => (some (t145 == t148))))) = some r := H
                                have A53 := Aside0.mk A530
                                clear A530
                                replace H := Option.bind_eq_some_iff.mp H
                                obtain ⟨t146, A540, H⟩ := H
                                obtain rfl : t141 = t146 := Option.some.inj (A47.out.symm.trans A540)
                                replace H : ((flt_Neg.f a0).bind fun t140 => ((flt_Less.f t141 t140).bind fun t148 => (some (t145 == t148)))) = some r := H
                                have A54 := Aside0.mk A540
                                clear A540
                                replace H := Option.bind_eq_some_iff.mp H
                                obtain ⟨t147, A550, H⟩ := H
                                obtain rfl : t140 = t147 := Option.some.inj (A46.out.symm.trans A550)
                                replace H : ((flt_Less.f t141 t140).bind fun t148 => (some (t145 == t148))) = some r := H
                                have A55 := Aside0.mk A550
                                clear A550
                                replace H := Option.bind_eq_some_iff.mp H
                                obtain ⟨t148, A560, H⟩ := H
                                replace H : (some (t145 == t148)) = some r := H
                                have A56 := Aside0.mk A560
                                clear A560
                                obtain rfl := Option.some.inj H
                                go_wp2_with (first | ((with_reducible refine gate_callee (f := 14) rfl ?_); refine goesL_ (some 107) rfl rfl Try.func14 (by kernel_rfl) rfl #[] rfl (by (try simp only [List.map_toArray, List.map_cons, List.map_nil]); first | done | rfl | (simp only [List.length_drop, List.length_take]; rfl)) ?_; (with_reducible refine (hyglaw6_first.calls kj36  true _ A43.out).mono ?_); rintro e w' ⟨rfl, ⟨nd, rfl⟩⟩; refine ⟨_, rfl, ?_⟩) | (go_at_call 23; (with_reducible refine (flt_Neg.calls a0 t140 _ A46.out).mono ?_); rintro e w' ⟨rfl, ⟨nd, rfl⟩⟩) | (go_at_call 23; (with_reducible refine (flt_Neg.calls a1 t141 _ A47.out).mono ?_); rintro e w' ⟨rfl, ⟨nd, rfl⟩⟩) | (go_at_call 20; (with_reducible refine (flt_Order.calls t140 t141 t142 _ A48.out).mono ?_); rintro e w' ⟨rfl, ⟨nd, rfl⟩⟩) | (go_at_call 23; (with_reducible refine (flt_Neg.calls a0 t140 _ A50.out).mono ?_); rintro e w' ⟨rfl, ⟨nd, rfl⟩⟩) | (go_at_call 23; (with_reducible refine (flt_Neg.calls t140 t144 _ A51.out).mono ?_); rintro e w' ⟨rfl, ⟨nd, rfl⟩⟩) | (go_at_call 19; (with_reducible refine (flt_Less.calls a0 a1 t145 _ A53.out).mono ?_); rintro e w' ⟨rfl, ⟨nd, rfl⟩⟩) | (go_at_call 23; (with_reducible refine (flt_Neg.calls a1 t141 _ A54.out).mono ?_); rintro e w' ⟨rfl, ⟨nd, rfl⟩⟩) | (go_at_call 23; (with_reducible refine (flt_Neg.calls a0 t140 _ A55.out).mono ?_); rintro e w' ⟨rfl, ⟨nd, rfl⟩⟩) | (go_at_call 19; (with_reducible refine (flt_Less.calls t141 t140 t148 _ A56.out).mono ?_); rintro e w' ⟨rfl, ⟨nd, rfl⟩⟩))
                                go_ret
                                exact ⟨by first | rfl | (simp; done) | (simp [*]; done), by repeat (first | exact Drawn0.refl _ | apply Drawn0.step)⟩
                              · rw [if_neg c52] at H
                                have c52b0 : (t144 == a0) = false := beq_eq_false_iff_ne.mpr c52
                                have c52b1 : (t144 != a0) = true := bne_iff_ne.mpr c52
                                obtain rfl := Option.some.inj H
                                go_wp2_with (first | ((with_reducible refine gate_callee (f := 14) rfl ?_); refine goesL_ (some 107) rfl rfl Try.func14 (by kernel_rfl) rfl #[] rfl (by (try simp only [List.map_toArray, List.map_cons, List.map_nil]); first | done | rfl | (simp only [List.length_drop, List.length_take]; rfl)) ?_; (with_reducible refine (hyglaw6_first.calls kj36  true _ A43.out).mono ?_); rintro e w' ⟨rfl, ⟨nd, rfl⟩⟩; refine ⟨_, rfl, ?_⟩) | (go_at_call 23; (with_reducible refine (flt_Neg.calls a0 t140 _ A46.out).mono ?_); rintro e w' ⟨rfl, ⟨nd, rfl⟩⟩) | (go_at_call 23; (with_reducible refine (flt_Neg.calls a1 t141 _ A47.out).mono ?_); rintro e w' ⟨rfl, ⟨nd, rfl⟩⟩) | (go_at_call 20; (with_reducible refine (flt_Order.calls t140 t141 t142 _ A48.out).mono ?_); rintro e w' ⟨rfl, ⟨nd, rfl⟩⟩) | (go_at_call 23; (with_reducible refine (flt_Neg.calls a0 t140 _ A50.out).mono ?_); rintro e w' ⟨rfl, ⟨nd, rfl⟩⟩) | (go_at_call 23; (with_reducible refine (flt_Neg.calls t140 t144 _ A51.out).mono ?_); rintro e w' ⟨rfl, ⟨nd, rfl⟩⟩))
                                go_ret
                                exact ⟨by first | rfl | (simp; done) | (simp [*]; done), by repeat (first | exact Drawn0.refl _ | apply Drawn0.step)⟩
                            · rw [if_neg c49] at H
                              have c49b0 : (t142 == (wrap64 (-t127))) = false := beq_eq_false_iff_ne.mpr c49
                              have c49b1 : (t142 != (wrap64 (-t127))) = true := bne_iff_ne.mpr c49
                              obtain rfl := Option.some.inj H
                              go_wp2_with (first | ((with_reducible refine gate_callee (f := 14) rfl ?_); refine goesL_ (some 107) rfl rfl Try.func14 (by kernel_rfl) rfl #[] rfl (by (try simp only [List.map_toArray, List.map_cons, List.map_nil]); first | done | rfl | (simp only [List.length_drop, List.length_take]; rfl)) ?_; (with_reducible refine (hyglaw6_first.calls kj36  true _ A43.out).mono ?_); rintro e w' ⟨rfl, ⟨nd, rfl⟩⟩; refine ⟨_, rfl, ?_⟩) | (go_at_call 23; (with_reducible refine (flt_Neg.calls a0 t140 _ A46.out).mono ?_); rintro e w' ⟨rfl, ⟨nd, rfl⟩⟩) | (go_at_call 23; (with_reducible refine (flt_Neg.calls a1 t141 _ A47.out).mono ?_); rintro e w' ⟨rfl, ⟨nd, rfl⟩⟩) | (go_at_call 20; (with_reducible refine (flt_Order.calls t140 t141 t142 _ A48.out).mono ?_); rintro e w' ⟨rfl, ⟨nd, rfl⟩⟩))
                              go_ret
                              exact ⟨by first | rfl | (simp; done) | (simp [*]; done), by repeat (first | exact Drawn0.refl _ | apply Drawn0.step)⟩
                          · rw [if_neg c45] at H
                            have c45b0 : (x11_36 != x10_32) = false := by simpa using c45
                            (try (have c45b1 : decide (x11_36 = x10_32) = true := by simpa using c45))
                            (try (have c45b2 : (x11_36 == x10_32) = true := by simpa using c45))
                            clear c45
                            obtain rfl := Option.some.inj H
                            go_wp2_with (first | ((with_reducible refine gate_callee (f := 14) rfl ?_); refine goesL_ (some 107) rfl rfl Try.func14 (by kernel_rfl) rfl #[] rfl (by (try simp only [List.map_toArray, List.map_cons, List.map_nil]); first | done | rfl | (simp only [List.length_drop, List.length_take]; rfl)) ?_; (with_reducible refine (hyglaw6_first.calls kj36  true _ A43.out).mono ?_); rintro e w' ⟨rfl, ⟨nd, rfl⟩⟩; refine ⟨_, rfl, ?_⟩))
                            go_ret
                            exact ⟨by first | rfl | (simp; done) | (simp [*]; done), by repeat (first | exact Drawn0.refl _ | apply Drawn0.step)⟩
                        · replace c44 := Bool.eq_false_iff.mpr c44
                          subst c44
                          have H1 : (some false) = some r := by rw [if_neg (show ¬ (false = true) by decide)] at H; exact H
                          clear H
                          have H := H1
                          clear H1
                          obtain rfl := Option.some.inj H
                          go_wp2_with (first | ((with_reducible refine gate_callee (f := 14) rfl ?_); refine goesL_ (some 107) rfl rfl Try.func14 (by kernel_rfl) rfl #[] rfl (by (try simp only [List.map_toArray, List.map_cons, List.map_nil]); first | done | rfl | (simp only [List.length_drop, List.length_take]; rfl)) ?_; (with_reducible refine (hyglaw6_first.calls kj36  false _ A43.out).mono ?_); rintro e w' ⟨rfl, ⟨nd, rfl⟩⟩; refine ⟨_, rfl, ?_⟩))
                          go_ret
                          exact ⟨by first | rfl | (simp; done) | (simp [*]; done), by repeat (first | exact Drawn0.refl _ | apply Drawn0.step)⟩
  · replace c5 := Bool.eq_false_iff.mpr c5
    subst c5
    have H1 : (some false) = some r := by rw [if_neg (show ¬ (false = true) by decide)] at H; exact H
    clear H
    have H := H1
    clear H1
    obtain rfl := Option.some.inj H
    go_enter Try.func5, Try.ntmps5
    go_wp2_with (first | ((with_reducible refine gate_callee (f := 14) rfl ?_); refine goesL_ (some 12) rfl rfl Try.func14 (by kernel_rfl) rfl #[] rfl (by (try simp only [List.map_toArray, List.map_cons, List.map_nil]); first | done | rfl | (simp only [List.length_drop, List.length_take]; rfl)) ?_; (with_reducible refine (hyglaw6_first.calls k  false _ A4.out).mono ?_); rintro e w' ⟨rfl, ⟨nd, rfl⟩⟩; refine ⟨_, rfl, ?_⟩))
    go_ret
    exact ⟨by first | rfl | (simp; done) | (simp [*]; done), by repeat (first | exact Drawn0.refl _ | apply Drawn0.step)⟩

/-- THE ONE PURE STATEMENT of hyglaw6_FltOrder: yours. -/
def hyglaw6_FltOrder.Pure : Prop := ∀ (a0 : Int) (a1 : Int) (a2 : Int), (Lit.int .u64 a0).wf = true → (Lit.int .u64 a1).wf = true → (Lit.int .u64 a2).wf = true → ∃ k, hyglaw6_FltOrder.f k a0 a1 a2 = some true
theorem hyglaw6_FltOrder.walk (P : hyglaw6_FltOrder.Pure) (a0 : Int) (a1 : Int) (a2 : Int) (w : World) (w0 : (Lit.int .u64 a0).wf = true) (w1 : (Lit.int .u64 a1).wf = true) (w2 : (Lit.int .u64 a2).wf = true) :
    Calls Try.prog 5 #[.int .u64 a0, .int .u64 a1, .int .u64 a2] w fun e w' => e = .returned (.bool true) ∧ Below w.heap.size w w' := by
  obtain ⟨k, h⟩ := P a0 a1 a2 w0 w1 w2
  refine (hyglaw6_FltOrder.calls k a0 a1 a2 true w h).mono ?_
  rintro e w' ⟨rfl, hd⟩
  exact ⟨rfl, hd.below⟩

end Go.Proofs.Ytmljncgglpckcaa.PFltOrder
