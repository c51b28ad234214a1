-- Made by a program of this session, after the guide's print, out of the translation. Lean checks it.
import Derived.Test.YtcmghblegllmlaaDoorPMergex0
import Derived.Test.YtcmghblegllmlaaDoorPMergex8
namespace Go.Proofs.YtcmghblegllmlaaDoor.PMerge
open Go.RowKit Go.Proofs.YtcmghblegllmlaaDoorW.PrintWords Go.Proofs.YtcmghblegllmlaaDoorW.PrintLast Go.Proofs.YtcmghblegllmlaaDoorW.PrintMore
attribute [local go_sem] max2_int min2_int max_two min_two max_three min_three max_four min_four   -- for this text's walks alone
set_option linter.unusedVariables false
set_option linter.unusedSimpArgs false

/-! ### hygref25_places: function 41 -/
mutual
def hygref25_places.l0 : Nat → Int → List (S139) → Int → Int → List Int → ByteArray → Option ((List (S139)) × Bool)
  | 0, _, _, _, _, _, _ => none
  | k + 1, x1, x6, x7, x358000, x358001, x358002 => if x7 < (x358001.length : Int) then (if 0 ≤ x7 then (if (rd x358001 x7) = 0 then (hygref25_places.l0 k x1 x6 (wrap64 (x7 + 1)) x358000 x358001 x358002) else (if 0 ≤ (IntKind.u64.wrap (x1)) then (if (wrap64 ((x6.length : Int) - 1)) ≥ 0 then (if 0 ≤ (wrap64 ((x6.length : Int) - 1)) then (if (wrap64 ((x6.length : Int) - 1)) < (x6.length : Int) then (hygref25_places.j1 k x1 x6 x7 (shr .i64 (wrap64 ((wrap64 (x358000)) + x7)) (IntKind.u64.wrap (x1))) (wrap64 ((x6.length : Int) - 1)) (((rd_T139 x6 (wrap64 ((x6.length : Int) - 1))).f0) == (shr .i64 (wrap64 ((wrap64 (x358000)) + x7)) (IntKind.u64.wrap (x1)))) x358000 x358001 x358002) else (none)) else (none)) else (hygref25_places.j1 k x1 x6 x7 (shr .i64 (wrap64 ((wrap64 (x358000)) + x7)) (IntKind.u64.wrap (x1))) (wrap64 ((x6.length : Int) - 1)) false x358000 x358001 x358002)) else (none))) else (none)) else (some (x6, true))
def hygref25_places.j1 : Nat → Int → List (S139) → Int → Int → Int → Bool → Int → List Int → ByteArray → Option ((List (S139)) × Bool)
  | 0, _, _, _, _, _, _, _, _, _ => none
  | k + 1, x1, x6, x7, x8, x9, x46, x358000, x358001, x358002 => if x46 = true then (if 0 ≤ x9 then (if x9 < (x6.length : Int) then (if 0 ≤ x7 then (if x7 < (x358001.length : Int) then ((hygref25_sum.f ((rd_T139 x6 x9).f1) (rd x358001 x7)).bind fun bt362 => (if bt362.2 = true then (hygref25_places.l0 k x1 (x6.set (x9 : Int).toNat (⟨(rd_T139 x6 x9).f0, bt362.1⟩ : S139)) (wrap64 (x7 + 1)) x358000 x358001 x358002) else (some (([] : List (S139)), false)))) else (none)) else (none)) else (none)) else (none)) else (if 0 ≤ x7 then (if x7 < (x358001.length : Int) then (if x6.length < 8796093022208 then (hygref25_places.l0 k x1 (x6 ++ [(⟨x8, rd x358001 x7⟩ : S139)]) (wrap64 (x7 + 1)) x358000 x358001 x358002) else (none)) else (none)) else (none))
end
def hygref25_places.f (k : Nat) (a0_0 : Int) (l0_1 : List Int) (a0_2 : ByteArray) (a1 : Int) : Option ((List (S139)) × Bool) := hygref25_places.l0 k a1 ([] : List (S139)) 0 a0_0 l0_1 a0_2
theorem hygref25_places.mono_l : ∀ k, (∀ y0 y1 y2 y3 y4 y5, LeO (hygref25_places.l0 k y0 y1 y2 y3 y4 y5) (hygref25_places.l0 (k + 1) y0 y1 y2 y3 y4 y5)) ∧ (∀ y0 y1 y2 y3 y4 y5 y6 y7 y8, LeO (hygref25_places.j1 k y0 y1 y2 y3 y4 y5 y6 y7 y8) (hygref25_places.j1 (k + 1) y0 y1 y2 y3 y4 y5 y6 y7 y8))
  | 0 => ⟨fun _ _ _ _ _ _ r h => by simp [hygref25_places.l0] at h, fun _ _ _ _ _ _ _ _ _ r h => by simp [hygref25_places.j1] at h⟩
  | k + 1 => by
    obtain ⟨ih0, ih1⟩ := hygref25_places.mono_l k
    refine ⟨?_, ?_⟩
    · intro y0 y1 y2 y3 y4 y5
      unfold hygref25_places.l0
      repeat' first
      | (with_reducible exact ih0 _ _ _ _ _ _)
      | (with_reducible exact ih1 _ _ _ _ _ _ _ _ _)
      | (with_reducible exact LeO.refl _)
      | (with_reducible exact LeO.none _)
      | (with_reducible refine LeO.ite ?_ ?_)
      | (with_reducible refine LeO.bind ?_ (fun _ => ?_))
      | exact ih0 _ _ _ _ _ _
      | exact ih1 _ _ _ _ _ _ _ _ _
      | exact LeO.none _
      | refine LeO.ite ?_ ?_
      | refine LeO.bind ?_ (fun _ => ?_)
    · intro y0 y1 y2 y3 y4 y5 y6 y7 y8
      unfold hygref25_places.j1
      repeat' first
      | (with_reducible exact ih0 _ _ _ _ _ _)
      | (with_reducible exact ih1 _ _ _ _ _ _ _ _ _)
      | (with_reducible exact LeO.refl _)
      | (with_reducible exact LeO.none _)
      | (with_reducible refine LeO.ite ?_ ?_)
      | (with_reducible refine LeO.bind ?_ (fun _ => ?_))
      | exact ih0 _ _ _ _ _ _
      | exact ih1 _ _ _ _ _ _ _ _ _
      | exact LeO.none _
      | refine LeO.ite ?_ ?_
      | refine LeO.bind ?_ (fun _ => ?_)
theorem hygref25_places.mono : ∀ a0 a1 a2 a3 k, LeO (hygref25_places.f k a0 a1 a2 a3) (hygref25_places.f (k + 1) a0 a1 a2 a3) := by
  intro a0 a1 a2 a3 k
  obtain ⟨ih0, ih1⟩ := hygref25_places.mono_l k
  unfold hygref25_places.f
  repeat' first
      | (with_reducible exact ih0 _ _ _ _ _ _)
      | (with_reducible exact ih1 _ _ _ _ _ _ _ _ _)
      | (with_reducible exact LeO.refl _)
      | (with_reducible exact LeO.none _)
      | (with_reducible refine LeO.ite ?_ ?_)
      | (with_reducible refine LeO.bind ?_ (fun _ => ?_))
      | exact ih0 _ _ _ _ _ _
      | exact ih1 _ _ _ _ _ _ _ _ _
      | exact LeO.none _
      | refine LeO.ite ?_ ?_
      | refine LeO.bind ?_ (fun _ => ?_)
set_option maxHeartbeats 8000000 in
set_option maxRecDepth 100000 in
theorem hygref25_places.calls (k : Nat) (a0_0 : Int) (A0_1 : Option Addr) (c0_1 : Nat) (l0_1 : List Int) (a0_2 : ByteArray) (a1 : Int) (r1 : List (S139)) (r2 : Bool) (w : World) (hr0_1 : Kd.C (Kd.int .u64) w A0_1 l0_1.length l0_1) (hc0_1 : l0_1.length ≤ c0_1) (h : hygref25_places.f k a0_0 l0_1 a0_2 a1 = some (r1, r2)) :
    Calls Tryd.prog 41 #[.agg #[.int .i32 a0_0, .slice A0_1 l0_1.length c0_1, .string a0_2], .int .i64 a1] w fun e w' => ∃ v0_ : Value, e = .returned (.tuple #[v0_, .bool r2]) ∧ Kd.R k139 139 w' w.heap.size (fun _ => True) v0_ r1 ∧ Below w.heap.size w w' := by
  have hu24 := Tryd.underlying24
  have hu139 := Tryd.underlying139
  have HR0_1 := Aside0.mk hr0_1
  have HC0_1 := Aside0.mk hc0_1
  clear hr0_1 hc0_1
  have HB := Aside0.mk (Below.refl w.heap.size w)
  have H : (hygref25_places.l0 k a1 ([] : List (S139)) 0 a0_0 l0_1 a0_2) = some (r1, r2) := h
  clear h
  have H' := Aside0.mk H
  clear H
  go_enter Tryd.func41, Tryd.ntmps41
  go_wp2_with (first | ((with_reducible refine gate_dst (N := 2) rfl ?_); refine box_event ?hg (N := 2) ?hd (cs := #[.int .i32 a0_0, .slice A0_1 l0_1.length c0_1, .string a0_2]) (t := 24) ?hr ?_; (case hd => rfl); (case hg => rfl); (case hr => first | (go_simp; done) | (go_simp; rfl)); intro gb357 hg w3 hbox hb; have n0_ := Aside0.mk (below_step (by repeat (first | (with_reducible first | exact HB.out | apply below_alloc | apply pw_below_drewN | apply below_drew1) | exact HB.out)) hb); have n1_ := Aside0.mk (hbox); have n2_ := Aside0.mk ((by rw [hg]; exact (below_size (by repeat (first | (with_reducible first | exact HB.out | apply below_alloc | apply pw_below_drewN | apply below_drew1) | exact HB.out))) : w.heap.size ≤ gb357)); have n3_ := Aside0.mk ((by rw [hg]; exact (below_size (by repeat (first | (with_reducible first | exact HB.out | apply below_alloc | apply pw_below_drewN | apply below_drew1) | exact HB.out))) : w.heap.size ≤ gb357)); clear HB; have HB := n0_; have BK357 := n1_; have GW357 := n2_; have GE357 := n3_; clear n0_ n1_ n2_ n3_; clear hb hbox hg))
  repeat (go_quiet (first | ((with_reducible refine gate_dst (N := 2) rfl ?_); refine box_event ?hg (N := 2) ?hd (cs := #[.int .i32 a0_0, .slice A0_1 l0_1.length c0_1, .string a0_2]) (t := 24) ?hr ?_; (case hd => rfl); (case hg => rfl); (case hr => first | (go_simp; done) | (go_simp; rfl)); intro gb357 hg w3 hbox hb; have n0_ := Aside0.mk (below_step (by repeat (first | (with_reducible first | exact HB.out | apply below_alloc | apply pw_below_drewN | apply below_drew1) | exact HB.out)) hb); have n1_ := Aside0.mk (hbox); have n2_ := Aside0.mk ((by rw [hg]; exact (below_size (by repeat (first | (with_reducible first | exact HB.out | apply below_alloc | apply pw_below_drewN | apply below_drew1) | exact HB.out))) : w.heap.size ≤ gb357)); have n3_ := Aside0.mk ((by rw [hg]; exact (below_size (by repeat (first | (with_reducible first | exact HB.out | apply below_alloc | apply pw_below_drewN | apply below_drew1) | exact HB.out))) : w.heap.size ≤ gb357)); clear HB; have HB := n0_; have BK357 := n1_; have GW357 := n2_; have GE357 := n3_; clear n0_ n1_ n2_ n3_; clear hb hbox hg)); try go_wp2_with (first | ((with_reducible refine gate_dst (N := 2) rfl ?_); refine box_event ?hg (N := 2) ?hd (cs := #[.int .i32 a0_0, .slice A0_1 l0_1.length c0_1, .string a0_2]) (t := 24) ?hr ?_; (case hd => rfl); (case hg => rfl); (case hr => first | (go_simp; done) | (go_simp; rfl)); intro gb357 hg w3 hbox hb; have n0_ := Aside0.mk (below_step (by repeat (first | (with_reducible first | exact HB.out | apply below_alloc | apply pw_below_drewN | apply below_drew1) | exact HB.out)) hb); have n1_ := Aside0.mk (hbox); have n2_ := Aside0.mk ((by rw [hg]; exact (below_size (by repeat (first | (with_reducible first | exact HB.out | apply below_alloc | apply pw_below_drewN | apply below_drew1) | exact HB.out))) : w.heap.size ≤ gb357)); have n3_ := Aside0.mk ((by rw [hg]; exact (below_size (by repeat (first | (with_reducible first | exact HB.out | apply below_alloc | apply pw_below_drewN | apply below_drew1) | exact HB.out))) : w.heap.size ≤ gb357)); clear HB; have HB := n0_; have BK357 := n1_; have GW357 := n2_; have GE357 := n3_; clear n0_ n1_ n2_ n3_; clear hb hbox hg)))
  go_loopg [6, 7] k (fun kq v6 v7 w' => ∃ (x6_1 : List (S139)) (x7_1 : Int), v7 = .int .i64 x7_1 ∧ Aside0 (hygref25_places.l0 kq a1 x6_1 x7_1 a0_0 l0_1 a0_2 = some (r1, r2)) ∧ Aside0 (kq ≤ k) ∧ Aside0 (Kd.R k139 139 w' w.heap.size (fun _ => True) v6 x6_1) ∧ Aside0 (w'.heap[gb357]? = some (.cells #[.int .i32 a0_0, (.slice A0_1 l0_1.length c0_1), .string a0_2] 24 (0, 0))) ∧ Aside0 (Below w.heap.size w w'))
  case atStart => exact ⟨(([] : List (S139))), (0), (by first | rfl | (simp; done) | (simp [*]; done)), H', ⟨Nat.le_refl _⟩, ⟨by first | exact Kd.R_nil _ _ _ _ _ | exact Kd.N_nil _ _ _ _ _ | exact Kd.V_nil _ _ _ _ _ | exact Kd.Q_nil _ _ _ _ _ | exact Kd.S_nil _ _ _ _ _⟩, ⟨by (with_reducible repeat (first | refine blk_drewN ?_ _ | refine blk_drew ?_ | refine blk_alloc ?_ _)); exact BK357.out⟩, ⟨by repeat (first | (with_reducible first | exact HB.out | apply below_alloc | apply pw_below_drewN | apply below_drew1 | refine below_set ?_ GE357.out) | exact HB.out)⟩⟩
  case round =>
    clear H'
    try clear p2
    try clear HA
    try clear HK1
    try clear HO_6
    try clear BK357
    try clear HB
    obtain ⟨x6_1, x7_1, rfl, HA, HK1, HO_6, BK357, HB⟩ := hrel
    cases gk with
    | zero => exact absurd HA.out (by simp [hygref25_places.l0])
    | succ k1 =>
      have H := HA.out
      clear HA
      simp only [hygref25_places.l0] at H
      by_cases c4 : x7_1 < (l0_1.length : Int)
      · rw [if_pos c4] at H
        have c4b0 : decide (x7_1 < (l0_1.length : Int)) = true := decide_eq_true c4
        clear c4
        by_cases c5 : 0 ≤ x7_1
        · rw [if_pos c5] at H
          have c5b0 : decide (0 ≤ x7_1) = true := decide_eq_true c5
          clear c5
          by_cases c6 : (rd l0_1 x7_1) = 0
          · rw [if_pos c6] at H
            have c6b0 : ((rd l0_1 x7_1) == 0) = true := beq_iff_eq.mpr c6
            have c6b1 : ((rd l0_1 x7_1) != 0) = false := bne_eq_false_iff_eq.mpr c6
            clear c6
            have H' := Aside0.mk H
            clear H
            have hcz7_0 : wr.cell? ⟨gb357, 0, none⟩ = some (.int .i32 a0_0) := (blk_cell BK357.out 0).trans rfl
            have hcz7_1 : wr.cell? ⟨gb357, 1, none⟩ = some (.slice A0_1 l0_1.length c0_1) := (blk_cell BK357.out 1).trans rfl
            have hcz7_2 : wr.cell? ⟨gb357, 2, none⟩ = some (.string a0_2) := (blk_cell BK357.out 2).trans rfl
            have hfz7_0 := blk_frozen BK357.out 0
            have hfz7_1 := blk_frozen BK357.out 1
            have hfz7_2 := blk_frozen BK357.out 2
            have p358 : 0 ≤ (x7_1 : Int) := of_decide_eq_true (by first | (with_reducible assumption) | assumption)
            have q358 : x7_1 < (l0_1.length : Int) := of_decide_eq_true (by first | (with_reducible assumption) | assumption)
            obtain ⟨ad358, e358, hx358_0⟩ := Kd.at_int HR0_1.out x7_1 p358 q358
            cases e358
            replace hx358_0 := (HB.out.cell (World.block_lt_of_cell? w _ hx358_0)).trans hx358_0
            replace p358 := eq_true p358
            replace q358 := eq_true q358
            go_wp2
            repeat (go_quiet (fail); try go_wp2)
            go_roundg k1
            case measure => have := HK1.out; omega
            case rel => exact ⟨(x6_1), (wrap64 (x7_1 + 1)), (by first | rfl | (simp; done) | (simp [*]; done)), H', ⟨by have := HK1.out; omega⟩, ⟨by (with_reducible repeat (first | apply Kd.R_alloc | apply Kd.R_drewN | apply Kd.R_drew)); exact HO_6.out⟩, ⟨by (with_reducible repeat (first | refine blk_drewN ?_ _ | refine blk_drew ?_ | refine blk_alloc ?_ _)); exact BK357.out⟩, ⟨by repeat (first | (with_reducible first | exact HB.out | apply below_alloc | apply pw_below_drewN | apply below_drew1 | refine below_set ?_ GE357.out) | exact HB.out)⟩⟩
          · rw [if_neg c6] at H
            have c6b0 : ((rd l0_1 x7_1) == 0) = false := beq_eq_false_iff_ne.mpr c6
            have c6b1 : ((rd l0_1 x7_1) != 0) = true := bne_iff_ne.mpr c6
            obtain ⟨ji8, hji8⟩ : ∃ j_ : Int, (IntKind.u64.wrap (a1)) = j_ := ⟨_, rfl⟩
            replace H : (if 0 ≤ (ji8) then (if (wrap64 ((x6_1.length : Int) - 1)) ≥ 0 then (if 0 ≤ (wrap64 ((x6_1.length : Int) - 1)) then (if (wrap64 ((x6_1.length : Int) - 1)) < (x6_1.length : Int) then (hygref25_places.j1 k1 a1 x6_1 x7_1 (shr .i64 (wrap64 ((wrap64 (a0_0)) + x7_1)) (ji8)) (wrap64 ((x6_1.length : Int) - 1)) (((rd_T139 x6_1 (wrap64 ((x6_1.length : Int) - 1))).f0) == (shr .i64 (wrap64 ((wrap64 (a0_0)) + x7_1)) (ji8))) a0_0 l0_1 a0_2) else (none)) else (none)) else (hygref25_places.j1 k1 a1 x6_1 x7_1 (shr .i64 (wrap64 ((wrap64 (a0_0)) + x7_1)) (ji8)) (wrap64 ((x6_1.length : Int) - 1)) false a0_0 l0_1 a0_2)) else (none)) = some (r1, r2) := by first | (rw [hji8] at H; exact H) | (simp only [hji8] at H ⊢; exact H)
            by_cases c9 : 0 ≤ (ji8)
            · rw [if_pos c9] at H
              have c9b0 := eq_true c9
              have c9b1 : decide (0 ≤ (ji8)) = true := decide_eq_true c9
              clear c9
              obtain ⟨ji10, hji10⟩ : ∃ j_ : Int, (shr .i64 (wrap64 ((wrap64 (a0_0)) + x7_1)) (ji8)) = j_ := ⟨_, rfl⟩
              replace H : (if (wrap64 ((x6_1.length : Int) - 1)) ≥ 0 then (if 0 ≤ (wrap64 ((x6_1.length : Int) - 1)) then (if (wrap64 ((x6_1.length : Int) - 1)) < (x6_1.length : Int) then (hygref25_places.j1 k1 a1 x6_1 x7_1 ji10 (wrap64 ((x6_1.length : Int) - 1)) (((rd_T139 x6_1 (wrap64 ((x6_1.length : Int) - 1))).f0) == (ji10)) a0_0 l0_1 a0_2) else (none)) else (none)) else (hygref25_places.j1 k1 a1 x6_1 x7_1 ji10 (wrap64 ((x6_1.length : Int) - 1)) false a0_0 l0_1 a0_2)) = some (r1, r2) := by first | (rw [hji10] at H; exact H) | (simp only [hji10] at H ⊢; exact H)
              have hji10_ : ((wrap64 ((wrap64 (a0_0)) + x7_1)) / 2 ^ min (ji8).toNat 64) = ji10 := hji10
              have hji10z : (ji8) ≤ 64 → ((wrap64 ((wrap64 (a0_0)) + x7_1)) / 2 ^ (ji8).toNat) = ji10 := shr_small hji10
              have HC11 := Aside0.mk H
              clear H
              have hcz12_0 : wr.cell? ⟨gb357, 0, none⟩ = some (.int .i32 a0_0) := (blk_cell BK357.out 0).trans rfl
              have hcz12_1 : wr.cell? ⟨gb357, 1, none⟩ = some (.slice A0_1 l0_1.length c0_1) := (blk_cell BK357.out 1).trans rfl
              have hcz12_2 : wr.cell? ⟨gb357, 2, none⟩ = some (.string a0_2) := (blk_cell BK357.out 2).trans rfl
              have hfz12_0 := blk_frozen BK357.out 0
              have hfz12_1 := blk_frozen BK357.out 1
              have hfz12_2 := blk_frozen BK357.out 2
              have p358 : 0 ≤ (x7_1 : Int) := of_decide_eq_true (by first | (with_reducible assumption) | assumption)
              have q358 : x7_1 < (l0_1.length : Int) := of_decide_eq_true (by first | (with_reducible assumption) | assumption)
              obtain ⟨ad358, e358, hx358_0⟩ := Kd.at_int HR0_1.out x7_1 p358 q358
              cases e358
              replace hx358_0 := (HB.out.cell (World.block_lt_of_cell? w _ hx358_0)).trans hx358_0
              replace p358 := eq_true p358
              replace q358 := eq_true q358
              obtain ⟨Ao13, co13, eo13⟩ := Kd.R_slice HO_6.out
              subst eo13
              go_upto_region 8 with (fail)
              repeat (go_quiet (fail); go_upto_region 8 with (fail))
              go_cut [46] (fun v46 wc => ∃ (kq : Nat) (x46_10 : Bool), v46 = .bool x46_10 ∧ Aside0 (hygref25_places.j1 kq a1 x6_1 x7_1 ji10 (wrap64 ((x6_1.length : Int) - 1)) x46_10 a0_0 l0_1 a0_2 = some (r1, r2)) ∧ Aside0 (kq ≤ k1) ∧ Aside0 (Kd.R k139 139 wc w.heap.size (fun _ => True) (.slice Ao13 x6_1.length co13) x6_1) ∧ Aside0 (wc.heap[gb357]? = some (.cells #[.int .i32 a0_0, (.slice (some ad358) l0_1.length c0_1), .string a0_2] 24 (0, 0))) ∧ Aside0 (Below w.heap.size w wc))
              case first =>
                have H := HC11.out
                clear HC11
                by_cases c14 : (wrap64 ((x6_1.length : Int) - 1)) ≥ 0
                · rw [if_pos c14] at H
                  have c14b0 : decide (0 ≤ (wrap64 ((x6_1.length : Int) - 1))) = true := decide_eq_true c14
                  clear c14
                  (first | rw [c14b0] | (simp only [i64_w, i32_w]; rw [c14b0]) | skip)
                  obtain ⟨ji15, hji15⟩ : ∃ j_ : Int, (wrap64 ((x6_1.length : Int) - 1)) = j_ := ⟨_, rfl⟩
                  replace H : (if 0 ≤ (ji15) then (if (ji15) < (x6_1.length : Int) then (hygref25_places.j1 k1 a1 x6_1 x7_1 ji10 ji15 (((rd_T139 x6_1 (ji15)).f0) == (ji10)) a0_0 l0_1 a0_2) else (none)) else (none)) = some (r1, r2) := by first | (rw [hji15] at H; exact H) | (simp only [hji15] at H ⊢; exact H)
                  (try rw [hji15] at c14b0)
                  have hji15w : (IntKind.i64.wrap ((x6_1.length : Int) - 1)) = ji15 := (i64_w _).trans hji15
                  by_cases c16 : 0 ≤ (ji15)
                  · rw [if_pos c16] at H
                    have c16b0 : decide (0 ≤ (ji15)) = true := decide_eq_true c16
                    clear c16
                    by_cases c17 : (ji15) < (x6_1.length : Int)
                    · rw [if_pos c17] at H
                      have c17b0 : decide ((ji15) < (x6_1.length : Int)) = true := decide_eq_true c17
                      clear c17
                      have H' := Aside0.mk H
                      clear H
                      have p359 : 0 ≤ ((ji15) : Int) := of_decide_eq_true (by first | (with_reducible assumption) | assumption)
                      have q359 : (ji15) < (x6_1.length : Int) := of_decide_eq_true (by first | (with_reducible assumption) | assumption)
                      obtain ⟨ad359, e359, hx359_0, hx359_1⟩ := at_T139 (Kd.R_reads' HO_6.out).2.2 (ji15) p359 q359
                      cases e359
                      replace p359 := eq_true p359
                      replace q359 := eq_true q359
                      go_wp2
                      repeat (go_quiet (fail); try go_wp2)
                      go_meet
                      case rel => exact ⟨_, ((((rd_T139 x6_1 (ji15)).f0) == (ji10))), (by first | rfl | (simp; done) | (simp only [← hji10, ← hji15] <;> (first | rfl | simp)) | (simp [*]; done)), (by first | exact H' | (subst hji15; exact H') | (rw [hji15]; exact H')), ⟨by have := HK1.out; first | omega | exact Nat.le_refl _⟩, ⟨by (with_reducible repeat (first | apply Kd.R_alloc | apply Kd.R_drewN | apply Kd.R_drew)); exact HO_6.out⟩, ⟨by (with_reducible repeat (first | refine blk_drewN ?_ _ | refine blk_drew ?_ | refine blk_alloc ?_ _)); exact BK357.out⟩, ⟨by repeat (first | (with_reducible first | exact HB.out | apply below_alloc | apply pw_below_drewN | apply below_drew1 | refine below_set ?_ GE357.out) | exact HB.out)⟩⟩
                    · rw [if_neg c17] at H
                      exact absurd H (by simp)
                  · rw [if_neg c16] at H
                    exact absurd H (by simp)
                · rw [if_neg c14] at H
                  have c14b0 : decide (0 ≤ (wrap64 ((x6_1.length : Int) - 1))) = false := decide_eq_false c14
                  clear c14
                  (first | rw [c14b0] | (simp only [i64_w, i32_w]; rw [c14b0]) | skip)
                  have H' := Aside0.mk H
                  clear H
                  go_wp2
                  repeat (go_quiet (fail); try go_wp2)
                  go_meet
                  case rel => exact ⟨_, (false), (by first | rfl | (simp; done) | (simp [*]; done)), H', ⟨by have := HK1.out; first | omega | exact Nat.le_refl _⟩, ⟨by (with_reducible repeat (first | apply Kd.R_alloc | apply Kd.R_drewN | apply Kd.R_drew)); exact HO_6.out⟩, ⟨by (with_reducible repeat (first | refine blk_drewN ?_ _ | refine blk_drew ?_ | refine blk_alloc ?_ _)); exact BK357.out⟩, ⟨by repeat (first | (with_reducible first | exact HB.out | apply below_alloc | apply pw_below_drewN | apply below_drew1 | refine below_set ?_ GE357.out) | exact HB.out)⟩⟩
              case rest =>
                clear HC11
                try clear c1
                try clear p2
                try clear p3
                try clear q3
                try clear hx3
                try clear c4
                try clear c4b0
                try clear c5
                try clear c5b0
                try clear c6
                try clear c6b0
                try clear c6b1
                try clear p6
                try clear c9
                try clear c9b0
                try clear c9b1
                try clear c14
                try clear c14b0
                try clear c16
                try clear c16b0
                try clear c17
                try clear c17b0
                try clear hcz12_0
                try clear hcz12_1
                try clear hcz12_2
                try clear hcz7_0
                try clear hcz7_1
                try clear hcz7_2
                try clear hfz12_0
                try clear hfz12_1
                try clear hfz12_2
                try clear hfz7_0
                try clear hfz7_1
                try clear hfz7_2
                try clear hx358_0
                try clear hx359_0
                try clear hx359_1
                try clear p2
                try clear p358
                try clear p359
                try clear q358
                try clear q359
                obtain ⟨kq, x46_10, rfl, HA, HJ10, HO_6, BK357, HB⟩ := hcut
                cases kq with
                | zero => exact absurd HA.out (by simp [hygref25_places.j1])
                | succ kj10 =>
                  have H := HA.out
                  clear HA
                  simp only [hygref25_places.j1] at H
                  by_cases c18 : x46_10 = true
                  · subst c18
                    have H1 : (if 0 ≤ (wrap64 ((x6_1.length : Int) - 1)) then (if (wrap64 ((x6_1.length : Int) - 1)) < (x6_1.length : Int) then (if 0 ≤ x7_1 then (if x7_1 < (l0_1.length : Int) then ((hygref25_sum.f ((rd_T139 x6_1 (wrap64 ((x6_1.length : Int) - 1))).f1) (rd l0_1 x7_1)).bind fun bt362 => (if bt362.2 = true then (hygref25_places.l0 kj10 a1 (x6_1.set ((wrap64 ((x6_1.length : Int) - 1)) : Int).toNat (⟨(rd_T139 x6_1 (wrap64 ((x6_1.length : Int) - 1))).f0, bt362.1⟩ : S139)) (wrap64 (x7_1 + 1)) a0_0 l0_1 a0_2) else (some (([] : List (S139)), false)))) else (none)) else (none)) else (none)) else (none)) = some (r1, r2) := by rw [if_pos rfl] at H; exact H
                    clear H
                    have H := H1
                    clear H1
                    obtain ⟨ji19, hji19⟩ : ∃ j_ : Int, (wrap64 ((x6_1.length : Int) - 1)) = j_ := ⟨_, rfl⟩
                    replace H : (if 0 ≤ (ji19) then (if (ji19) < (x6_1.length : Int) then (if 0 ≤ x7_1 then (if x7_1 < (l0_1.length : Int) then ((hygref25_sum.f ((rd_T139 x6_1 (ji19)).f1) (rd l0_1 x7_1)).bind fun bt362 => (if bt362.2 = true then (hygref25_places.l0 kj10 a1 (x6_1.set ((ji19) : Int).toNat (⟨(rd_T139 x6_1 (ji19)).f0, bt362.1⟩ : S139)) (wrap64 (x7_1 + 1)) a0_0 l0_1 a0_2) else (some (([] : List (S139)), false)))) else (none)) else (none)) else (none)) else (none)) = some (r1, r2) := by first | (rw [hji19] at H; exact H) | (simp only [hji19] at H ⊢; exact H)
                    have hji19w : (IntKind.i64.wrap ((x6_1.length : Int) - 1)) = ji19 := (i64_w _).trans hji19
                    by_cases c20 : 0 ≤ (ji19)
                    · rw [if_pos c20] at H
                      have c20b0 : decide (0 ≤ (ji19)) = true := decide_eq_true c20
                      clear c20
                      by_cases c21 : (ji19) < (x6_1.length : Int)
                      · rw [if_pos c21] at H
                        have c21b0 : decide ((ji19) < (x6_1.length : Int)) = true := decide_eq_true c21
                        clear c21
                        by_cases c22 : 0 ≤ x7_1
                        · rw [if_pos c22] at H
                          have c22b0 : decide (0 ≤ x7_1) = true := decide_eq_true c22
                          clear c22
                          by_cases c23 : x7_1 < (l0_1.length : Int)
                          · rw [if_pos c23] at H
                            have c23b0 : decide (x7_1 < (l0_1.length : Int)) = true := decide_eq_true c23
                            clear c23
                            replace H := Option.bind_eq_some_iff.mp H
                            obtain ⟨⟨t362, t363⟩, A240, H⟩ := H
                            replace H : (if t363 = true then (hygref25_places.l0 kj10 a1 (x6_1.set ((ji19) : Int).toNat (⟨(rd_T139 x6_1 (ji19)).f0, t362⟩ : S139)) (wrap64 (x7_1 + 1)) a0_0 l0_1 a0_2) else (some (([] : List (S139)), false))) = some (r1, r2) := H
                            have A24 := Aside0.mk A240
                            clear A240
                            by_cases c25 : t363 = true
                            · subst c25
                              have H1 : (hygref25_places.l0 kj10 a1 (x6_1.set ((ji19) : Int).toNat (⟨(rd_T139 x6_1 (ji19)).f0, t362⟩ : S139)) (wrap64 (x7_1 + 1)) a0_0 l0_1 a0_2) = some (r1, r2) := by rw [if_pos rfl] at H; exact H
                              clear H
                              have H := H1
                              clear H1
                              obtain ⟨y364, hy364⟩ : ∃ y_ : List (S139), y_ = (x6_1.set ((ji19) : Int).toNat (⟨(rd_T139 x6_1 (ji19)).f0, t362⟩ : S139)) := ⟨_, rfl⟩
                              replace H : (hygref25_places.l0 kj10 a1 y364 (wrap64 (x7_1 + 1)) a0_0 l0_1 a0_2) = some (r1, r2) := by first | (rw [hy364]; with_reducible exact H) | (have H2_ := (Option.bind_some _ _).symm.trans H; rw [hy364]; with_reducible exact H2_) | (have H2_ := (Option.bind_some _ _).symm.trans H; with_reducible exact H2_) | with_reducible exact H | (rw [hy364]; exact H) | exact H
                              have Ny364 := Aside0.mk hy364
                              clear hy364
                              have H' := Aside0.mk H
                              clear H
                              have p360 : 0 ≤ ((ji19) : Int) := of_decide_eq_true (by first | (with_reducible assumption) | assumption)
                              have q360 : (ji19) < (x6_1.length : Int) := of_decide_eq_true (by first | (with_reducible assumption) | assumption)
                              obtain ⟨ad360, e360, hx360_0, hx360_1⟩ := at_T139 (Kd.R_reads' HO_6.out).2.2 (ji19) p360 q360
                              cases e360
                              replace p360 := eq_true p360
                              replace q360 := eq_true q360
                              have hcz27_0 : wc.cell? ⟨gb357, 0, none⟩ = some (.int .i32 a0_0) := (blk_cell BK357.out 0).trans rfl
                              have hcz27_1 : wc.cell? ⟨gb357, 1, none⟩ = some (.slice (some ad358) l0_1.length c0_1) := (blk_cell BK357.out 1).trans rfl
                              have hcz27_2 : wc.cell? ⟨gb357, 2, none⟩ = some (.string a0_2) := (blk_cell BK357.out 2).trans rfl
                              have hfz27_0 := blk_frozen BK357.out 0
                              have hfz27_1 := blk_frozen BK357.out 1
                              have hfz27_2 := blk_frozen BK357.out 2
                              have p361 : 0 ≤ (x7_1 : Int) := of_decide_eq_true (by first | (with_reducible assumption) | assumption)
                              have q361 : x7_1 < (l0_1.length : Int) := of_decide_eq_true (by first | (with_reducible assumption) | assumption)
                              obtain ⟨ad361, e361, hx361_0⟩ := Kd.at_int HR0_1.out x7_1 p361 q361
                              obtain rfl : ad358 = ad361 := (by injection e361)
                              replace hx361_0 := (HB.out.cell (World.block_lt_of_cell? w _ hx361_0)).trans hx361_0
                              replace p361 := eq_true p361
                              replace q361 := eq_true q361
                              go_wp2_with (first | (go_at_call 80; (with_reducible refine (hygref25_sum.calls ((rd_T139 x6_1 (ji19)).f1) (rd l0_1 x7_1) t362 true _ A24.out).mono ?_); rintro e w' ⟨rfl, ⟨nd, rfl⟩⟩; (try first | exact ⟨rfl, _, World.drewN_drewN _ _ _⟩ | exact ⟨rfl, _, Eq.trans (World.drewN_drewN _ _ _) (congrArg (World.drewN _) (Nat.add_assoc _ _ _))⟩); have p26 : 0 ≤ ((ji19) : Int) := of_decide_eq_true (by first | (with_reducible assumption) | assumption); have q26 : ((ji19) : Int) < ((x6_1.length : Int) : Int) := of_decide_eq_true (by first | (with_reducible assumption) | assumption); obtain ⟨go26, co26, eo26, gb26, gl26, cl26, HG26⟩ := Kd.R_form HO_6.out (by omega); (first | cases eo26 | (injection eo26 with ea_ en_ ec_; (first | subst ea_ | (injection ea_ with ea_; subst ea_)); subst ec_; clear en_)); have GB26 := Aside0.mk gb26; have GG26 := Aside0.mk HG26; clear gb26 gl26 HG26; (first | simp only [add_plain] at hx360_0 | skip); (first | simp only [add_plain] at hx360_1 | skip); obtain ⟨ce26, hcl26, hM26, hcc26, hfr26⟩ := Kd.R_elem HO_6.out z139 ((ji19) : Int) p26 q26; obtain rfl := k139_openM hM26; have hx26_0 : wc.cell? ⟨go26, ((ji19) : Int).toNat * 2, none⟩ = some (.int .i64 ((rd_T139 x6_1 (ji19)).f0)) := hcc26 0 _ rfl; have hx26_1 : wc.cell? ⟨go26, ((ji19) : Int).toNat * 2 + 1, none⟩ = some (.int .u64 ((rd_T139 x6_1 (ji19)).f1)) := hcc26 1 _ rfl; have hf26_0 : wc.frozen? ⟨go26, ((ji19) : Int).toNat * 2, none⟩ = false := hfr26 0; have hf26_1 : wc.frozen? ⟨go26, ((ji19) : Int).toNat * 2 + 1, none⟩ = false := hfr26 1; clear hcl26 hcc26 hfr26 hM26; replace p26 := eq_true p26; replace q26 := eq_true q26; have HX28 := Aside0.mk (show Kd.R k139 139 wc w.heap.size (fun _ => True) (.slice (some ⟨go26, 0, none⟩) x6_1.length co13) x6_1 from (by (with_reducible repeat (first | apply Kd.R_alloc | apply Kd.R_drewN | apply Kd.R_drew)); exact HO_6.out)); obtain ⟨ce28, hcl28, hM28, hcc28, hfr28⟩ := Kd.R_elem HX28.out z139 ((ji19) : Int) (of_decide_eq_true (by first | (with_reducible assumption) | assumption)) (by have h_ : ((ji19) : Int) < ((x6_1.length : Int) : Int) := of_decide_eq_true (by first | (with_reducible assumption) | assumption); first | exact h_ | (have e_ := (Kd.R_reads' HO_6.out).1; omega) | simpa using h_); obtain rfl := k139_openM hM28; have HP28 := Kd.R_seg HX28.out ((ji19) : Int) (of_decide_eq_true (by first | (with_reducible assumption) | assumption)) (by have h_ : ((ji19) : Int) < ((x6_1.length : Int) : Int) := of_decide_eq_true (by first | (with_reducible assumption) | assumption); first | exact h_ | (have e_ := (Kd.R_reads' HO_6.out).1; omega) | simpa using h_) (seg := [.int .u64 t362]) (j := 1) hcl28 hcc28 (show 2 ≤ 2 from by decide) (x' := (⟨(rd_T139 x6_1 (ji19)).f0, t362⟩ : S139)) (k139_mkM _ _ _ (⟨(rd_T139 x6_1 (ji19)).f0, t362⟩ : S139) ) (fun _ hk => hk); have hx28_1 := hcc28 1 _ rfl; (try simp only [show (k139).sz = 2 from rfl, Nat.mul_one, Nat.add_zero] at hx28_1); have hf28_1 := hfr28 1; (try simp only [show (k139).sz = 2 from rfl, Nat.mul_one, Nat.add_zero] at hf28_1); clear hcl28 hcc28 hfr28 hM28) | ((with_reducible refine gate_store (t := 41) (p := 67) rfl ?_); (try (rw [drewN_self wc]; generalize hq_ : World.drewN wc _ = wc; have n0_ := Aside0.mk (Kd.R_at hq_ HO_6.out); have n1_ := Aside0.mk (blk_at hq_ BK357.out); have n2_ := Aside0.mk (below_at hq_ HB.out); clear hq_ HO_6 BK357 HB; have HO_6 := n0_; have BK357 := n1_; have HB := n2_; clear n0_ n1_ n2_; (try (have HX28 := Aside0.mk (show Kd.R k139 139 wc w.heap.size (fun _ => True) (.slice (some ⟨go26, 0, none⟩) x6_1.length co13) x6_1 from (by (with_reducible repeat (first | apply Kd.R_alloc | apply Kd.R_drewN | apply Kd.R_drew)); exact HO_6.out)))); (try (obtain ⟨ce28, hcl28, hM28, hcc28, hfr28⟩ := Kd.R_elem HX28.out z139 ((ji19) : Int) (of_decide_eq_true (by first | (with_reducible assumption) | assumption)) (by have h_ : ((ji19) : Int) < ((x6_1.length : Int) : Int) := of_decide_eq_true (by first | (with_reducible assumption) | assumption); first | exact h_ | (have e_ := (Kd.R_reads' HO_6.out).1; omega) | simpa using h_))); (try (obtain rfl := k139_openM hM28)); (try (have HP28 := Kd.R_seg HX28.out ((ji19) : Int) (of_decide_eq_true (by first | (with_reducible assumption) | assumption)) (by have h_ : ((ji19) : Int) < ((x6_1.length : Int) : Int) := of_decide_eq_true (by first | (with_reducible assumption) | assumption); first | exact h_ | (have e_ := (Kd.R_reads' HO_6.out).1; omega) | simpa using h_) (seg := [.int .u64 t362]) (j := 1) hcl28 hcc28 (show 2 ≤ 2 from by decide) (x' := (⟨(rd_T139 x6_1 (ji19)).f0, t362⟩ : S139)) (k139_mkM _ _ _ (⟨(rd_T139 x6_1 (ji19)).f0, t362⟩ : S139) ) (fun _ hk => hk))); (try (have hx28_1 := hcc28 1 _ rfl)); (try (try simp only [show (k139).sz = 2 from rfl, Nat.mul_one, Nat.add_zero] at hx28_1)); (try (have hf28_1 := hfr28 1)); (try (try simp only [show (k139).sz = 2 from rfl, Nat.mul_one, Nat.add_zero] at hf28_1)); (try (clear hcl28 hcc28 hfr28 hM28)))); refine store_event (t := 41) (p := 67) (v := ?vo_w29) (w1 := (wc.setCell ⟨go26, ((ji19) : Int).toNat * 2 + 1, none⟩ (.int .u64 t362))) ?hg ?ho ?hn ?hr ?_; (case ho => rfl); (case hg => rfl); (case hn => rfl); (case hr => first | (go_simp; done) | (go_simp; rfl)); intro w29 hw; have hg : wc.grownBy w29 (some go26) := (by rw [hw]; exact HP28.2); have hp_ : Kd.R k139 139 w29 w.heap.size (fun _ => True) (.slice (some ⟨go26, 0, none⟩) x6_1.length co13) y364 := (by rw [hw, Ny364.out]; exact HP28.1); clear HP28; have n0_ := Aside0.mk (hp_); have n1_ := Aside0.mk (blk_grown (g := gb357) (o := .cells #[.int .i32 a0_0, .slice (some ad358) l0_1.length c0_1, .string a0_2] 24 (0, 0)) (by (with_reducible repeat (first | refine blk_drewN ?_ _ | refine blk_drew ?_ | refine blk_alloc ?_ _)); exact BK357.out) hg (Kd.R_ne HO_6.out BK357.out (by decide))); have n2_ := Aside0.mk ((by rw [hw]; exact below_set (HB.out) GB26.out : Below w.heap.size w w29)); clear HO_6; clear BK357; clear HB; have HO_6 := n0_; have BK357 := n1_; have HB := n2_; clear n0_ n1_ n2_; clear hg hw hp_))
                              repeat (go_quiet (first | (go_at_call 80; (with_reducible refine (hygref25_sum.calls ((rd_T139 x6_1 (ji19)).f1) (rd l0_1 x7_1) t362 true _ A24.out).mono ?_); rintro e w' ⟨rfl, ⟨nd, rfl⟩⟩; (try first | exact ⟨rfl, _, World.drewN_drewN _ _ _⟩ | exact ⟨rfl, _, Eq.trans (World.drewN_drewN _ _ _) (congrArg (World.drewN _) (Nat.add_assoc _ _ _))⟩); have p26 : 0 ≤ ((ji19) : Int) := of_decide_eq_true (by first | (with_reducible assumption) | assumption); have q26 : ((ji19) : Int) < ((x6_1.length : Int) : Int) := of_decide_eq_true (by first | (with_reducible assumption) | assumption); obtain ⟨go26, co26, eo26, gb26, gl26, cl26, HG26⟩ := Kd.R_form HO_6.out (by omega); (first | cases eo26 | (injection eo26 with ea_ en_ ec_; (first | subst ea_ | (injection ea_ with ea_; subst ea_)); subst ec_; clear en_)); have GB26 := Aside0.mk gb26; have GG26 := Aside0.mk HG26; clear gb26 gl26 HG26; (first | simp only [add_plain] at hx360_0 | skip); (first | simp only [add_plain] at hx360_1 | skip); obtain ⟨ce26, hcl26, hM26, hcc26, hfr26⟩ := Kd.R_elem HO_6.out z139 ((ji19) : Int) p26 q26; obtain rfl := k139_openM hM26; have hx26_0 : wc.cell? ⟨go26, ((ji19) : Int).toNat * 2, none⟩ = some (.int .i64 ((rd_T139 x6_1 (ji19)).f0)) := hcc26 0 _ rfl; have hx26_1 : wc.cell? ⟨go26, ((ji19) : Int).toNat * 2 + 1, none⟩ = some (.int .u64 ((rd_T139 x6_1 (ji19)).f1)) := hcc26 1 _ rfl; have hf26_0 : wc.frozen? ⟨go26, ((ji19) : Int).toNat * 2, none⟩ = false := hfr26 0; have hf26_1 : wc.frozen? ⟨go26, ((ji19) : Int).toNat * 2 + 1, none⟩ = false := hfr26 1; clear hcl26 hcc26 hfr26 hM26; replace p26 := eq_true p26; replace q26 := eq_true q26; have HX28 := Aside0.mk (show Kd.R k139 139 wc w.heap.size (fun _ => True) (.slice (some ⟨go26, 0, none⟩) x6_1.length co13) x6_1 from (by (with_reducible repeat (first | apply Kd.R_alloc | apply Kd.R_drewN | apply Kd.R_drew)); exact HO_6.out)); obtain ⟨ce28, hcl28, hM28, hcc28, hfr28⟩ := Kd.R_elem HX28.out z139 ((ji19) : Int) (of_decide_eq_true (by first | (with_reducible assumption) | assumption)) (by have h_ : ((ji19) : Int) < ((x6_1.length : Int) : Int) := of_decide_eq_true (by first | (with_reducible assumption) | assumption); first | exact h_ | (have e_ := (Kd.R_reads' HO_6.out).1; omega) | simpa using h_); obtain rfl := k139_openM hM28; have HP28 := Kd.R_seg HX28.out ((ji19) : Int) (of_decide_eq_true (by first | (with_reducible assumption) | assumption)) (by have h_ : ((ji19) : Int) < ((x6_1.length : Int) : Int) := of_decide_eq_true (by first | (with_reducible assumption) | assumption); first | exact h_ | (have e_ := (Kd.R_reads' HO_6.out).1; omega) | simpa using h_) (seg := [.int .u64 t362]) (j := 1) hcl28 hcc28 (show 2 ≤ 2 from by decide) (x' := (⟨(rd_T139 x6_1 (ji19)).f0, t362⟩ : S139)) (k139_mkM _ _ _ (⟨(rd_T139 x6_1 (ji19)).f0, t362⟩ : S139) ) (fun _ hk => hk); have hx28_1 := hcc28 1 _ rfl; (try simp only [show (k139).sz = 2 from rfl, Nat.mul_one, Nat.add_zero] at hx28_1); have hf28_1 := hfr28 1; (try simp only [show (k139).sz = 2 from rfl, Nat.mul_one, Nat.add_zero] at hf28_1); clear hcl28 hcc28 hfr28 hM28) | ((with_reducible refine gate_store (t := 41) (p := 67) rfl ?_); (try (rw [drewN_self wc]; generalize hq_ : World.drewN wc _ = wc; have n0_ := Aside0.mk (Kd.R_at hq_ HO_6.out); have n1_ := Aside0.mk (blk_at hq_ BK357.out); have n2_ := Aside0.mk (below_at hq_ HB.out); clear hq_ HO_6 BK357 HB; have HO_6 := n0_; have BK357 := n1_; have HB := n2_; clear n0_ n1_ n2_; (try (have HX28 := Aside0.mk (show Kd.R k139 139 wc w.heap.size (fun _ => True) (.slice (some ⟨go26, 0, none⟩) x6_1.length co13) x6_1 from (by (with_reducible repeat (first | apply Kd.R_alloc | apply Kd.R_drewN | apply Kd.R_drew)); exact HO_6.out)))); (try (obtain ⟨ce28, hcl28, hM28, hcc28, hfr28⟩ := Kd.R_elem HX28.out z139 ((ji19) : Int) (of_decide_eq_true (by first | (with_reducible assumption) | assumption)) (by have h_ : ((ji19) : Int) < ((x6_1.length : Int) : Int) := of_decide_eq_true (by first | (with_reducible assumption) | assumption); first | exact h_ | (have e_ := (Kd.R_reads' HO_6.out).1; omega) | simpa using h_))); (try (obtain rfl := k139_openM hM28)); (try (have HP28 := Kd.R_seg HX28.out ((ji19) : Int) (of_decide_eq_true (by first | (with_reducible assumption) | assumption)) (by have h_ : ((ji19) : Int) < ((x6_1.length : Int) : Int) := of_decide_eq_true (by first | (with_reducible assumption) | assumption); first | exact h_ | (have e_ := (Kd.R_reads' HO_6.out).1; omega) | simpa using h_) (seg := [.int .u64 t362]) (j := 1) hcl28 hcc28 (show 2 ≤ 2 from by decide) (x' := (⟨(rd_T139 x6_1 (ji19)).f0, t362⟩ : S139)) (k139_mkM _ _ _ (⟨(rd_T139 x6_1 (ji19)).f0, t362⟩ : S139) ) (fun _ hk => hk))); (try (have hx28_1 := hcc28 1 _ rfl)); (try (try simp only [show (k139).sz = 2 from rfl, Nat.mul_one, Nat.add_zero] at hx28_1)); (try (have hf28_1 := hfr28 1)); (try (try simp only [show (k139).sz = 2 from rfl, Nat.mul_one, Nat.add_zero] at hf28_1)); (try (clear hcl28 hcc28 hfr28 hM28)))); refine store_event (t := 41) (p := 67) (v := ?vo_w29) (w1 := (wc.setCell ⟨go26, ((ji19) : Int).toNat * 2 + 1, none⟩ (.int .u64 t362))) ?hg ?ho ?hn ?hr ?_; (case ho => rfl); (case hg => rfl); (case hn => rfl); (case hr => first | (go_simp; done) | (go_simp; rfl)); intro w29 hw; have hg : wc.grownBy w29 (some go26) := (by rw [hw]; exact HP28.2); have hp_ : Kd.R k139 139 w29 w.heap.size (fun _ => True) (.slice (some ⟨go26, 0, none⟩) x6_1.length co13) y364 := (by rw [hw, Ny364.out]; exact HP28.1); clear HP28; have n0_ := Aside0.mk (hp_); have n1_ := Aside0.mk (blk_grown (g := gb357) (o := .cells #[.int .i32 a0_0, .slice (some ad358) l0_1.length c0_1, .string a0_2] 24 (0, 0)) (by (with_reducible repeat (first | refine blk_drewN ?_ _ | refine blk_drew ?_ | refine blk_alloc ?_ _)); exact BK357.out) hg (Kd.R_ne HO_6.out BK357.out (by decide))); have n2_ := Aside0.mk ((by rw [hw]; exact below_set (HB.out) GB26.out : Below w.heap.size w w29)); clear HO_6; clear BK357; clear HB; have HO_6 := n0_; have BK357 := n1_; have HB := n2_; clear n0_ n1_ n2_; clear hg hw hp_)); try go_wp2_with (first | (go_at_call 80; (with_reducible refine (hygref25_sum.calls ((rd_T139 x6_1 (ji19)).f1) (rd l0_1 x7_1) t362 true _ A24.out).mono ?_); rintro e w' ⟨rfl, ⟨nd, rfl⟩⟩; (try first | exact ⟨rfl, _, World.drewN_drewN _ _ _⟩ | exact ⟨rfl, _, Eq.trans (World.drewN_drewN _ _ _) (congrArg (World.drewN _) (Nat.add_assoc _ _ _))⟩); have p26 : 0 ≤ ((ji19) : Int) := of_decide_eq_true (by first | (with_reducible assumption) | assumption); have q26 : ((ji19) : Int) < ((x6_1.length : Int) : Int) := of_decide_eq_true (by first | (with_reducible assumption) | assumption); obtain ⟨go26, co26, eo26, gb26, gl26, cl26, HG26⟩ := Kd.R_form HO_6.out (by omega); (first | cases eo26 | (injection eo26 with ea_ en_ ec_; (first | subst ea_ | (injection ea_ with ea_; subst ea_)); subst ec_; clear en_)); have GB26 := Aside0.mk gb26; have GG26 := Aside0.mk HG26; clear gb26 gl26 HG26; (first | simp only [add_plain] at hx360_0 | skip); (first | simp only [add_plain] at hx360_1 | skip); obtain ⟨ce26, hcl26, hM26, hcc26, hfr26⟩ := Kd.R_elem HO_6.out z139 ((ji19) : Int) p26 q26; obtain rfl := k139_openM hM26; have hx26_0 : wc.cell? ⟨go26, ((ji19) : Int).toNat * 2, none⟩ = some (.int .i64 ((rd_T139 x6_1 (ji19)).f0)) := hcc26 0 _ rfl; have hx26_1 : wc.cell? ⟨go26, ((ji19) : Int).toNat * 2 + 1, none⟩ = some (.int .u64 ((rd_T139 x6_1 (ji19)).f1)) := hcc26 1 _ rfl; have hf26_0 : wc.frozen? ⟨go26, ((ji19) : Int).toNat * 2, none⟩ = false := hfr26 0; have hf26_1 : wc.frozen? ⟨go26, ((ji19) : Int).toNat * 2 + 1, none⟩ = false := hfr26 1; clear hcl26 hcc26 hfr26 hM26; replace p26 := eq_true p26; replace q26 := eq_true q26; have HX28 := Aside0.mk (show Kd.R k139 139 wc w.heap.size (fun _ => True) (.slice (some ⟨go26, 0, none⟩) x6_1.length co13) x6_1 from (by (with_reducible repeat (first | apply Kd.R_alloc | apply Kd.R_drewN | apply Kd.R_drew)); exact HO_6.out)); obtain ⟨ce28, hcl28, hM28, hcc28, hfr28⟩ := Kd.R_elem HX28.out z139 ((ji19) : Int) (of_decide_eq_true (by first | (with_reducible assumption) | assumption)) (by have h_ : ((ji19) : Int) < ((x6_1.length : Int) : Int) := of_decide_eq_true (by first | (with_reducible assumption) | assumption); first | exact h_ | (have e_ := (Kd.R_reads' HO_6.out).1; omega) | simpa using h_); obtain rfl := k139_openM hM28; have HP28 := Kd.R_seg HX28.out ((ji19) : Int) (of_decide_eq_true (by first | (with_reducible assumption) | assumption)) (by have h_ : ((ji19) : Int) < ((x6_1.length : Int) : Int) := of_decide_eq_true (by first | (with_reducible assumption) | assumption); first | exact h_ | (have e_ := (Kd.R_reads' HO_6.out).1; omega) | simpa using h_) (seg := [.int .u64 t362]) (j := 1) hcl28 hcc28 (show 2 ≤ 2 from by decide) (x' := (⟨(rd_T139 x6_1 (ji19)).f0, t362⟩ : S139)) (k139_mkM _ _ _ (⟨(rd_T139 x6_1 (ji19)).f0, t362⟩ : S139) ) (fun _ hk => hk); have hx28_1 := hcc28 1 _ rfl; (try simp only [show (k139).sz = 2 from rfl, Nat.mul_one, Nat.add_zero] at hx28_1); have hf28_1 := hfr28 1; (try simp only [show (k139).sz = 2 from rfl, Nat.mul_one, Nat.add_zero] at hf28_1); clear hcl28 hcc28 hfr28 hM28) | ((with_reducible refine gate_store (t := 41) (p := 67) rfl ?_); (try (rw [drewN_self wc]; generalize hq_ : World.drewN wc _ = wc; have n0_ := Aside0.mk (Kd.R_at hq_ HO_6.out); have n1_ := Aside0.mk (blk_at hq_ BK357.out); have n2_ := Aside0.mk (below_at hq_ HB.out); clear hq_ HO_6 BK357 HB; have HO_6 := n0_; have BK357 := n1_; have HB := n2_; clear n0_ n1_ n2_; (try (have HX28 := Aside0.mk (show Kd.R k139 139 wc w.heap.size (fun _ => True) (.slice (some ⟨go26, 0, none⟩) x6_1.length co13) x6_1 from (by (with_reducible repeat (first | apply Kd.R_alloc | apply Kd.R_drewN | apply Kd.R_drew)); exact HO_6.out)))); (try (obtain ⟨ce28, hcl28, hM28, hcc28, hfr28⟩ := Kd.R_elem HX28.out z139 ((ji19) : Int) (of_decide_eq_true (by first | (with_reducible assumption) | assumption)) (by have h_ : ((ji19) : Int) < ((x6_1.length : Int) : Int) := of_decide_eq_true (by first | (with_reducible assumption) | assumption); first | exact h_ | (have e_ := (Kd.R_reads' HO_6.out).1; omega) | simpa using h_))); (try (obtain rfl := k139_openM hM28)); (try (have HP28 := Kd.R_seg HX28.out ((ji19) : Int) (of_decide_eq_true (by first | (with_reducible assumption) | assumption)) (by have h_ : ((ji19) : Int) < ((x6_1.length : Int) : Int) := of_decide_eq_true (by first | (with_reducible assumption) | assumption); first | exact h_ | (have e_ := (Kd.R_reads' HO_6.out).1; omega) | simpa using h_) (seg := [.int .u64 t362]) (j := 1) hcl28 hcc28 (show 2 ≤ 2 from by decide) (x' := (⟨(rd_T139 x6_1 (ji19)).f0, t362⟩ : S139)) (k139_mkM _ _ _ (⟨(rd_T139 x6_1 (ji19)).f0, t362⟩ : S139) ) (fun _ hk => hk))); (try (have hx28_1 := hcc28 1 _ rfl)); (try (try simp only [show (k139).sz = 2 from rfl, Nat.mul_one, Nat.add_zero] at hx28_1)); (try (have hf28_1 := hfr28 1)); (try (try simp only [show (k139).sz = 2 from rfl, Nat.mul_one, Nat.add_zero] at hf28_1)); (try (clear hcl28 hcc28 hfr28 hM28)))); refine store_event (t := 41) (p := 67) (v := ?vo_w29) (w1 := (wc.setCell ⟨go26, ((ji19) : Int).toNat * 2 + 1, none⟩ (.int .u64 t362))) ?hg ?ho ?hn ?hr ?_; (case ho => rfl); (case hg => rfl); (case hn => rfl); (case hr => first | (go_simp; done) | (go_simp; rfl)); intro w29 hw; have hg : wc.grownBy w29 (some go26) := (by rw [hw]; exact HP28.2); have hp_ : Kd.R k139 139 w29 w.heap.size (fun _ => True) (.slice (some ⟨go26, 0, none⟩) x6_1.length co13) y364 := (by rw [hw, Ny364.out]; exact HP28.1); clear HP28; have n0_ := Aside0.mk (hp_); have n1_ := Aside0.mk (blk_grown (g := gb357) (o := .cells #[.int .i32 a0_0, .slice (some ad358) l0_1.length c0_1, .string a0_2] 24 (0, 0)) (by (with_reducible repeat (first | refine blk_drewN ?_ _ | refine blk_drew ?_ | refine blk_alloc ?_ _)); exact BK357.out) hg (Kd.R_ne HO_6.out BK357.out (by decide))); have n2_ := Aside0.mk ((by rw [hw]; exact below_set (HB.out) GB26.out : Below w.heap.size w w29)); clear HO_6; clear BK357; clear HB; have HO_6 := n0_; have BK357 := n1_; have HB := n2_; clear n0_ n1_ n2_; clear hg hw hp_)))
                              go_roundg kj10
                              case measure => have := HK1.out; have := HJ10.out; omega
                              case rel => exact ⟨(y364), (wrap64 (x7_1 + 1)), (by first | rfl | (simp; done) | (simp [*]; done)), H', ⟨by have := HK1.out; have := HJ10.out; omega⟩, ⟨by (with_reducible repeat (first | apply Kd.R_alloc | apply Kd.R_drewN | apply Kd.R_drew)); exact HO_6.out⟩, ⟨by (with_reducible repeat (first | refine blk_drewN ?_ _ | refine blk_drew ?_ | refine blk_alloc ?_ _)); exact BK357.out⟩, ⟨by repeat (first | (with_reducible first | exact HB.out | apply below_alloc | apply pw_below_drewN | apply below_drew1 | refine below_set ?_ GE357.out) | exact HB.out)⟩⟩
                            · replace c25 := Bool.eq_false_iff.mpr c25
                              subst c25
                              have H1 : (some (([] : List (S139)), false)) = some (r1, r2) := by rw [if_neg (show ¬ (false = true) by decide)] at H; exact H
                              clear H
                              have H := H1
                              clear H1
                              simp only [Option.some.injEq, Prod.mk.injEq] at H
                              obtain ⟨rfl, rfl⟩ := H
                              have p360 : 0 ≤ ((ji19) : Int) := of_decide_eq_true (by first | (with_reducible assumption) | assumption)
                              have q360 : (ji19) < (x6_1.length : Int) := of_decide_eq_true (by first | (with_reducible assumption) | assumption)
                              obtain ⟨ad360, e360, hx360_0, hx360_1⟩ := at_T139 (Kd.R_reads' HO_6.out).2.2 (ji19) p360 q360
                              cases e360
                              replace p360 := eq_true p360
                              replace q360 := eq_true q360
                              have hcz30_0 : wc.cell? ⟨gb357, 0, none⟩ = some (.int .i32 a0_0) := (blk_cell BK357.out 0).trans rfl
                              have hcz30_1 : wc.cell? ⟨gb357, 1, none⟩ = some (.slice (some ad358) l0_1.length c0_1) := (blk_cell BK357.out 1).trans rfl
                              have hcz30_2 : wc.cell? ⟨gb357, 2, none⟩ = some (.string a0_2) := (blk_cell BK357.out 2).trans rfl
                              have hfz30_0 := blk_frozen BK357.out 0
                              have hfz30_1 := blk_frozen BK357.out 1
                              have hfz30_2 := blk_frozen BK357.out 2
                              have p361 : 0 ≤ (x7_1 : Int) := of_decide_eq_true (by first | (with_reducible assumption) | assumption)
                              have q361 : x7_1 < (l0_1.length : Int) := of_decide_eq_true (by first | (with_reducible assumption) | assumption)
                              obtain ⟨ad361, e361, hx361_0⟩ := Kd.at_int HR0_1.out x7_1 p361 q361
                              obtain rfl : ad358 = ad361 := (by injection e361)
                              replace hx361_0 := (HB.out.cell (World.block_lt_of_cell? w _ hx361_0)).trans hx361_0
                              replace p361 := eq_true p361
                              replace q361 := eq_true q361
                              go_wp2_with (first | (go_at_call 80; (with_reducible refine (hygref25_sum.calls ((rd_T139 x6_1 (ji19)).f1) (rd l0_1 x7_1) t362 false _ A24.out).mono ?_); rintro e w' ⟨rfl, ⟨nd, rfl⟩⟩; (try first | exact ⟨rfl, _, World.drewN_drewN _ _ _⟩ | exact ⟨rfl, _, Eq.trans (World.drewN_drewN _ _ _) (congrArg (World.drewN _) (Nat.add_assoc _ _ _))⟩)))
                              repeat (go_quiet (first | (go_at_call 80; (with_reducible refine (hygref25_sum.calls ((rd_T139 x6_1 (ji19)).f1) (rd l0_1 x7_1) t362 false _ A24.out).mono ?_); rintro e w' ⟨rfl, ⟨nd, rfl⟩⟩; (try first | exact ⟨rfl, _, World.drewN_drewN _ _ _⟩ | exact ⟨rfl, _, Eq.trans (World.drewN_drewN _ _ _) (congrArg (World.drewN _) (Nat.add_assoc _ _ _))⟩))); try go_wp2_with (first | (go_at_call 80; (with_reducible refine (hygref25_sum.calls ((rd_T139 x6_1 (ji19)).f1) (rd l0_1 x7_1) t362 false _ A24.out).mono ?_); rintro e w' ⟨rfl, ⟨nd, rfl⟩⟩; (try first | exact ⟨rfl, _, World.drewN_drewN _ _ _⟩ | exact ⟨rfl, _, Eq.trans (World.drewN_drewN _ _ _) (congrArg (World.drewN _) (Nat.add_assoc _ _ _))⟩))))
                              go_ret2
                              exact ⟨_, by first | rfl | (simp [errW_none, errW_some] <;> rfl) | (simp only [← hji8, ← hji10, ← hji19]; first | rfl | (simp [errW_none, errW_some] <;> rfl)) | (simp [*, errW_none, errW_some] <;> rfl), by first | exact Kd.R_nil _ _ _ _ _ | exact Kd.N_nil _ _ _ _ _ | exact Kd.V_nil _ _ _ _ _ | exact Kd.Q_nil _ _ _ _ _ | exact Kd.S_nil _ _ _ _ _, by repeat (first | (with_reducible first | exact HB.out | apply below_alloc | apply pw_below_drewN | apply below_drew1 | refine below_set ?_ GE357.out) | exact HB.out)⟩
                          · rw [if_neg c23] at H
                            exact absurd H (by simp)
                        · rw [if_neg c22] at H
                          exact absurd H (by simp)
                      · rw [if_neg c21] at H
                        exact absurd H (by simp)
                    · rw [if_neg c20] at H
                      exact absurd H (by simp)
                  · replace c18 := Bool.eq_false_iff.mpr c18
                    subst c18
                    have H1 : (if 0 ≤ x7_1 then (if x7_1 < (l0_1.length : Int) then (if x6_1.length < 8796093022208 then (hygref25_places.l0 kj10 a1 (x6_1 ++ [(⟨ji10, rd l0_1 x7_1⟩ : S139)]) (wrap64 (x7_1 + 1)) a0_0 l0_1 a0_2) else (none)) else (none)) else (none)) = some (r1, r2) := by rw [if_neg (show ¬ (false = true) by decide)] at H; exact H
                    clear H
                    have H := H1
                    clear H1
                    by_cases c31 : 0 ≤ x7_1
                    · rw [if_pos c31] at H
                      have c31b0 : decide (0 ≤ x7_1) = true := decide_eq_true c31
                      clear c31
                      by_cases c32 : x7_1 < (l0_1.length : Int)
                      · rw [if_pos c32] at H
                        have c32b0 : decide (x7_1 < (l0_1.length : Int)) = true := decide_eq_true c32
                        clear c32
                        by_cases c33 : x6_1.length < 8796093022208
                        · rw [if_pos c33] at H
                          have LMc33 := Aside0.mk c33
                          clear c33
                          obtain ⟨y366, hy366⟩ : ∃ y_ : List (S139), y_ = (x6_1 ++ [(⟨ji10, rd l0_1 x7_1⟩ : S139)]) := ⟨_, rfl⟩
                          replace H : (hygref25_places.l0 kj10 a1 y366 (wrap64 (x7_1 + 1)) a0_0 l0_1 a0_2) = some (r1, r2) := by first | (rw [hy366]; with_reducible exact H) | (have H2_ := (Option.bind_some _ _).symm.trans H; rw [hy366]; with_reducible exact H2_) | (have H2_ := (Option.bind_some _ _).symm.trans H; with_reducible exact H2_) | with_reducible exact H | (rw [hy366]; exact H) | exact H
                          have Ny366 := Aside0.mk hy366
                          clear hy366
                          have H' := Aside0.mk H
                          clear H
                          have hcz34_0 : wc.cell? ⟨gb357, 0, none⟩ = some (.int .i32 a0_0) := (blk_cell BK357.out 0).trans rfl
                          have hcz34_1 : wc.cell? ⟨gb357, 1, none⟩ = some (.slice (some ad358) l0_1.length c0_1) := (blk_cell BK357.out 1).trans rfl
                          have hcz34_2 : wc.cell? ⟨gb357, 2, none⟩ = some (.string a0_2) := (blk_cell BK357.out 2).trans rfl
                          have hfz34_0 := blk_frozen BK357.out 0
                          have hfz34_1 := blk_frozen BK357.out 1
                          have hfz34_2 := blk_frozen BK357.out 2
                          have p365 : 0 ≤ (x7_1 : Int) := of_decide_eq_true (by first | (with_reducible assumption) | assumption)
                          have q365 : x7_1 < (l0_1.length : Int) := of_decide_eq_true (by first | (with_reducible assumption) | assumption)
                          obtain ⟨ad365, e365, hx365_0⟩ := Kd.at_int HR0_1.out x7_1 p365 q365
                          obtain rfl : ad358 = ad365 := (by injection e365)
                          replace hx365_0 := (HB.out.cell (World.block_lt_of_cell? w _ hx365_0)).trans hx365_0
                          replace p365 := eq_true p365
                          replace q365 := eq_true q365
                          go_wp2_with (first | ((with_reducible refine gate_builtin (b := .append) (xs := #[.tmp 68, .tmp 76]) rfl ?_); at_builtin; refine Kd.R_append k139 (w0 := w) w.heap.size rfl (.tmp 68) (.tmp 76) 90 139 (.agg #[(.int .i64 0), (.int .u64 0)]) 16 rfl Tryd.underlying90 info139 rfl (by decide) (by omega) (.slice Ao13 x6_1.length co13) x6_1 (⟨ji10, rd l0_1 x7_1⟩ : S139) [.int .i64 ji10, .int .u64 (rd l0_1 x7_1)] (fun _ => True) (fun _ => False) rfl rfl ?aP (fun _ hk => hk.elim) ?aF ?aO ?aB ?aS ?aL ?_; (case aP => exact k139_mkM _ _ _ (⟨ji10, rd l0_1 x7_1⟩ : S139)); (case aB => exact (by repeat (first | (with_reducible first | exact HB.out | apply below_alloc | apply pw_below_drewN | apply below_drew1 | refine below_set ?_ GE357.out) | exact HB.out))); (case aF => exact (fun _ _ => trivial)); (case aO => exact (by (with_reducible repeat (first | apply Kd.R_alloc | apply Kd.R_drewN | apply Kd.R_drew)); exact HO_6.out)); (case aS => exact (below_size (by repeat (first | (with_reducible first | exact HB.out | apply below_alloc | apply pw_below_drewN | apply below_drew1 | refine below_set ?_ GE357.out) | exact HB.out)))); (case aL => have := LMc33.out; omega); intro v367 w35 ho hb hg hat; rw [← Ny366.out] at ho; have n0_ := Aside0.mk (blk_grown (g := gb357) (o := .cells #[.int .i32 a0_0, .slice (some ad358) l0_1.length c0_1, .string a0_2] 24 (0, 0)) (by (with_reducible repeat (first | refine blk_drewN ?_ _ | refine blk_drew ?_ | refine blk_alloc ?_ _)); exact BK357.out) hg (Kd.R_ne HO_6.out BK357.out (by decide))); have n1_ := Aside0.mk (hb); have n2_ := Aside0.mk (ho); clear BK357; clear HB; clear HO_6; have BK357 := n0_; have HB := n1_; have HO368 := n2_; clear n0_ n1_ n2_; clear ho hb hg hat))
                          repeat (go_quiet (first | ((with_reducible refine gate_builtin (b := .append) (xs := #[.tmp 68, .tmp 76]) rfl ?_); at_builtin; refine Kd.R_append k139 (w0 := w) w.heap.size rfl (.tmp 68) (.tmp 76) 90 139 (.agg #[(.int .i64 0), (.int .u64 0)]) 16 rfl Tryd.underlying90 info139 rfl (by decide) (by omega) (.slice Ao13 x6_1.length co13) x6_1 (⟨ji10, rd l0_1 x7_1⟩ : S139) [.int .i64 ji10, .int .u64 (rd l0_1 x7_1)] (fun _ => True) (fun _ => False) rfl rfl ?aP (fun _ hk => hk.elim) ?aF ?aO ?aB ?aS ?aL ?_; (case aP => exact k139_mkM _ _ _ (⟨ji10, rd l0_1 x7_1⟩ : S139)); (case aB => exact (by repeat (first | (with_reducible first | exact HB.out | apply below_alloc | apply pw_below_drewN | apply below_drew1 | refine below_set ?_ GE357.out) | exact HB.out))); (case aF => exact (fun _ _ => trivial)); (case aO => exact (by (with_reducible repeat (first | apply Kd.R_alloc | apply Kd.R_drewN | apply Kd.R_drew)); exact HO_6.out)); (case aS => exact (below_size (by repeat (first | (with_reducible first | exact HB.out | apply below_alloc | apply pw_below_drewN | apply below_drew1 | refine below_set ?_ GE357.out) | exact HB.out)))); (case aL => have := LMc33.out; omega); intro v367 w35 ho hb hg hat; rw [← Ny366.out] at ho; have n0_ := Aside0.mk (blk_grown (g := gb357) (o := .cells #[.int .i32 a0_0, .slice (some ad358) l0_1.length c0_1, .string a0_2] 24 (0, 0)) (by (with_reducible repeat (first | refine blk_drewN ?_ _ | refine blk_drew ?_ | refine blk_alloc ?_ _)); exact BK357.out) hg (Kd.R_ne HO_6.out BK357.out (by decide))); have n1_ := Aside0.mk (hb); have n2_ := Aside0.mk (ho); clear BK357; clear HB; clear HO_6; have BK357 := n0_; have HB := n1_; have HO368 := n2_; clear n0_ n1_ n2_; clear ho hb hg hat)); try go_wp2_with (first | ((with_reducible refine gate_builtin (b := .append) (xs := #[.tmp 68, .tmp 76]) rfl ?_); at_builtin; refine Kd.R_append k139 (w0 := w) w.heap.size rfl (.tmp 68) (.tmp 76) 90 139 (.agg #[(.int .i64 0), (.int .u64 0)]) 16 rfl Tryd.underlying90 info139 rfl (by decide) (by omega) (.slice Ao13 x6_1.length co13) x6_1 (⟨ji10, rd l0_1 x7_1⟩ : S139) [.int .i64 ji10, .int .u64 (rd l0_1 x7_1)] (fun _ => True) (fun _ => False) rfl rfl ?aP (fun _ hk => hk.elim) ?aF ?aO ?aB ?aS ?aL ?_; (case aP => exact k139_mkM _ _ _ (⟨ji10, rd l0_1 x7_1⟩ : S139)); (case aB => exact (by repeat (first | (with_reducible first | exact HB.out | apply below_alloc | apply pw_below_drewN | apply below_drew1 | refine below_set ?_ GE357.out) | exact HB.out))); (case aF => exact (fun _ _ => trivial)); (case aO => exact (by (with_reducible repeat (first | apply Kd.R_alloc | apply Kd.R_drewN | apply Kd.R_drew)); exact HO_6.out)); (case aS => exact (below_size (by repeat (first | (with_reducible first | exact HB.out | apply below_alloc | apply pw_below_drewN | apply below_drew1 | refine below_set ?_ GE357.out) | exact HB.out)))); (case aL => have := LMc33.out; omega); intro v367 w35 ho hb hg hat; rw [← Ny366.out] at ho; have n0_ := Aside0.mk (blk_grown (g := gb357) (o := .cells #[.int .i32 a0_0, .slice (some ad358) l0_1.length c0_1, .string a0_2] 24 (0, 0)) (by (with_reducible repeat (first | refine blk_drewN ?_ _ | refine blk_drew ?_ | refine blk_alloc ?_ _)); exact BK357.out) hg (Kd.R_ne HO_6.out BK357.out (by decide))); have n1_ := Aside0.mk (hb); have n2_ := Aside0.mk (ho); clear BK357; clear HB; clear HO_6; have BK357 := n0_; have HB := n1_; have HO368 := n2_; clear n0_ n1_ n2_; clear ho hb hg hat)))
                          go_roundg kj10
                          case measure => have := HK1.out; have := HJ10.out; omega
                          case rel => exact ⟨(y366), (wrap64 (x7_1 + 1)), (by first | rfl | (simp; done) | (simp [*]; done)), H', ⟨by have := HK1.out; have := HJ10.out; omega⟩, ⟨by (with_reducible repeat (first | apply Kd.R_alloc | apply Kd.R_drewN | apply Kd.R_drew)); exact HO368.out⟩, ⟨by (with_reducible repeat (first | refine blk_drewN ?_ _ | refine blk_drew ?_ | refine blk_alloc ?_ _)); exact BK357.out⟩, ⟨by repeat (first | (with_reducible first | exact HB.out | apply below_alloc | apply pw_below_drewN | apply below_drew1 | refine below_set ?_ GE357.out) | exact HB.out)⟩⟩
                        · rw [if_neg c33] at H
                          exact absurd H (by simp)
                      · rw [if_neg c32] at H
                        exact absurd H (by simp)
                    · rw [if_neg c31] at H
                      exact absurd H (by simp)
            · rw [if_neg c9] at H
              exact absurd H (by simp)
        · rw [if_neg c5] at H
          exact absurd H (by simp)
      · rw [if_neg c4] at H
        have c4b0 : decide (x7_1 < (l0_1.length : Int)) = false := decide_eq_false c4
        clear c4
        simp only [Option.some.injEq, Prod.mk.injEq] at H
        obtain ⟨rfl, rfl⟩ := H
        have hcz36_0 : wr.cell? ⟨gb357, 0, none⟩ = some (.int .i32 a0_0) := (blk_cell BK357.out 0).trans rfl
        have hcz36_1 : wr.cell? ⟨gb357, 1, none⟩ = some (.slice A0_1 l0_1.length c0_1) := (blk_cell BK357.out 1).trans rfl
        have hcz36_2 : wr.cell? ⟨gb357, 2, none⟩ = some (.string a0_2) := (blk_cell BK357.out 2).trans rfl
        have hfz36_0 := blk_frozen BK357.out 0
        have hfz36_1 := blk_frozen BK357.out 1
        have hfz36_2 := blk_frozen BK357.out 2
        go_wp2
        repeat (go_quiet (fail); try go_wp2)
        go_ret2
        exact ⟨_, by first | rfl | (simp [errW_none, errW_some] <;> rfl) | (simp [*, errW_none, errW_some] <;> rfl), by (with_reducible repeat (first | apply Kd.R_alloc | apply Kd.R_drewN | apply Kd.R_drew)); exact HO_6.out, by repeat (first | (with_reducible first | exact HB.out | apply below_alloc | apply pw_below_drewN | apply below_drew1 | refine below_set ?_ GE357.out) | exact HB.out)⟩

/-! ### hygref25_dense: function 42 -/
def hygref25_dense.l0 : Nat → List (S139) → Int → Int → Int → List Int → ByteArray → Option (Int × List Int × ByteArray × Bool)
  | 0, _, _, _, _, _, _ => none
  | k + 1, x0, x4, x6, x376000, x376001, x376002 => if x6 < (x0.length : Int) then (if 0 ≤ x6 then (if 0 ≤ (wrap64 (((rd_T139 x0 x6).f0) - x4)) then (if (wrap64 (((rd_T139 x0 x6).f0) - x4)) < (x376001.length : Int) then (hygref25_dense.l0 k x0 x4 (wrap64 (x6 + 1)) x376000 (x376001.set ((wrap64 (((rd_T139 x0 x6).f0) - x4)) : Int).toNat ((rd_T139 x0 x6).f1)) x376002) else (none)) else (none)) else (none)) else (some (x376000, x376001, x376002, true))
def hygref25_dense.f (k : Nat) (l0 : List (S139)) : Option (Int × List Int × ByteArray × Bool) := if (l0.length : Int) = 0 then (some (0, ([] : List Int), (⟨#[]⟩ : ByteArray), true)) else (if 0 < (l0.length : Int) then (if ((rd_T139 l0 0).f0) > 2147483647 then (some (0, ([] : List Int), (⟨#[]⟩ : ByteArray), false)) else (if 0 ≤ (wrap64 ((l0.length : Int) - 1)) then (if (wrap64 ((l0.length : Int) - 1)) < (l0.length : Int) then (if 0 ≤ (wrap64 ((wrap64 (((rd_T139 l0 (wrap64 ((l0.length : Int) - 1))).f0) - ((rd_T139 l0 0).f0))) + 1)) then (if (wrap64 ((wrap64 (((rd_T139 l0 (wrap64 ((l0.length : Int) - 1))).f0) - ((rd_T139 l0 0).f0))) + 1) : Int).toNat ≤ 35184372088832 then (hygref25_dense.l0 k l0 ((rd_T139 l0 0).f0) 0 (wrap32 ((rd_T139 l0 0).f0)) (List.replicate (wrap64 ((wrap64 (((rd_T139 l0 (wrap64 ((l0.length : Int) - 1))).f0) - ((rd_T139 l0 0).f0))) + 1) : Int).toNat 0) (⟨#[]⟩ : ByteArray)) else (none)) else (none)) else (none)) else (none))) else (none))
theorem hygref25_dense.mono_l : ∀ k, (∀ y0 y1 y2 y3 y4 y5, LeO (hygref25_dense.l0 k y0 y1 y2 y3 y4 y5) (hygref25_dense.l0 (k + 1) y0 y1 y2 y3 y4 y5))
  | 0 => fun _ _ _ _ _ _ r h => by simp [hygref25_dense.l0] at h
  | k + 1 => by
    have ih0 := hygref25_dense.mono_l k
    · intro y0 y1 y2 y3 y4 y5
      unfold hygref25_dense.l0
      repeat' first
      | (with_reducible exact ih0 _ _ _ _ _ _)
      | (with_reducible exact LeO.refl _)
      | (with_reducible exact LeO.none _)
      | (with_reducible refine LeO.ite ?_ ?_)
      | (with_reducible refine LeO.bind ?_ (fun _ => ?_))
      | exact ih0 _ _ _ _ _ _
      | exact LeO.none _
      | refine LeO.ite ?_ ?_
      | refine LeO.bind ?_ (fun _ => ?_)
theorem hygref25_dense.mono : ∀ a0 k, LeO (hygref25_dense.f k a0) (hygref25_dense.f (k + 1) a0) := by
  intro a0 k
  have ih0 := hygref25_dense.mono_l k
  unfold hygref25_dense.f
  repeat' first
      | (with_reducible exact ih0 _ _ _ _ _ _)
      | (with_reducible exact LeO.refl _)
      | (with_reducible exact LeO.none _)
      | (with_reducible refine LeO.ite ?_ ?_)
      | (with_reducible refine LeO.bind ?_ (fun _ => ?_))
      | exact ih0 _ _ _ _ _ _
      | exact LeO.none _
      | refine LeO.ite ?_ ?_
      | refine LeO.bind ?_ (fun _ => ?_)
def hygref25_dense.T10 : Bool × List (List Nat × List Nat) := (true, [([], []), ([0], [0]), ([], []), ([], []), ([2, 3], [2, 3]), ([4], [4]), ([5], [5]), ([], []), ([6, 7], [6, 7]), ([], []), ([], []), ([9, 10], [9, 10]), ([11], [11]), ([12], [12]), ([1, 8, 0, 1, 2, 3, 4, 5, 6, 7, 8, 9, 10, 11, 12, 13], [1, 8]), ([14, 13, 0, 1, 2, 3, 4, 5, 6, 7, 8, 9, 10, 11, 12, 13], [13, 14])])
def hygref25_dense.B10 : List Nat := [0, 1, 0, 0, 12, 28, 60, 0, 252, 0, 0, 1536, 3584, 7680, 16383, 32767]
theorem hygref25_dense.tab10 : rtab .any (opsOf Tryd.f42 10) = hygref25_dense.T10 := by kernel_rfl
theorem hygref25_dense.bits10 : waitsOk hygref25_dense.T10.2 hygref25_dense.B10 = true := by kernel_rfl
set_option maxHeartbeats 8000000 in
set_option maxRecDepth 100000 in
theorem hygref25_dense.calls (k : Nat) (A0 : Option Addr) (c0 : Nat) (l0 : List (S139)) (r1 : Int) (r2 : List Int) (r3 : ByteArray) (r4 : Bool) (w : World) (hr0 : Kd.C k139 w A0 l0.length l0) (hc0 : l0.length ≤ c0) (h : hygref25_dense.f k l0 = some (r1, r2, r3, r4)) :
    Calls Tryd.prog 42 #[.slice A0 l0.length c0] w fun e w' => ∃ v1_ : Value, e = .returned (.tuple #[.agg #[.int .i32 r1, v1_, .string r3], .bool r4]) ∧ Kd.R (Kd.int .u64) 41 w' w.heap.size (fun _ => True) v1_ r2 ∧ Below w.heap.size w w' := by
  have hu24 := Tryd.underlying24
  have HR0 := Aside0.mk hr0
  have HC0 := Aside0.mk hc0
  clear hr0 hc0
  have HB := Aside0.mk (Below.refl w.heap.size w)
  have H : (if (l0.length : Int) = 0 then (some (0, ([] : List Int), (⟨#[]⟩ : ByteArray), true)) else (if 0 < (l0.length : Int) then (if ((rd_T139 l0 0).f0) > 2147483647 then (some (0, ([] : List Int), (⟨#[]⟩ : ByteArray), false)) else (if 0 ≤ (wrap64 ((l0.length : Int) - 1)) then (if (wrap64 ((l0.length : Int) - 1)) < (l0.length : Int) then (if 0 ≤ (wrap64 ((wrap64 (((rd_T139 l0 (wrap64 ((l0.length : Int) - 1))).f0) - ((rd_T139 l0 0).f0))) + 1)) then (if (wrap64 ((wrap64 (((rd_T139 l0 (wrap64 ((l0.length : Int) - 1))).f0) - ((rd_T139 l0 0).f0))) + 1) : Int).toNat ≤ 35184372088832 then (hygref25_dense.l0 k l0 ((rd_T139 l0 0).f0) 0 (wrap32 ((rd_T139 l0 0).f0)) (List.replicate (wrap64 ((wrap64 (((rd_T139 l0 (wrap64 ((l0.length : Int) - 1))).f0) - ((rd_T139 l0 0).f0))) + 1) : Int).toNat 0) (⟨#[]⟩ : ByteArray)) else (none)) else (none)) else (none)) else (none))) else (none))) = some (r1, r2, r3, r4) := h
  clear h
  by_cases c2 : (l0.length : Int) = 0
  · rw [if_pos c2] at H
    have c2b0 : ((l0.length : Int) == 0) = true := beq_iff_eq.mpr c2
    have c2b1 : ((l0.length : Int) != 0) = false := bne_eq_false_iff_eq.mpr c2
    clear c2
    simp only [Option.some.injEq, Prod.mk.injEq] at H
    obtain ⟨rfl, rfl, rfl, rfl⟩ := H
    go_enter Tryd.func42, Tryd.ntmps42
    go_wp2_with (first | ((with_reducible refine gate_dst (N := 2) rfl ?_); refine box_event ?hg (N := 2) ?hd (cs := #[.int .i32 0, .slice none 0 0, .string (⟨#[]⟩ : ByteArray)]) (t := 24) ?hr ?_; (case hd => rfl); (case hg => rfl); (case hr => first | (go_simp; done) | (go_simp; rfl)); intro gb369 hg w3 hbox hb; have n0_ := Aside0.mk (below_step (by repeat (first | (with_reducible first | exact HB.out | apply below_alloc | apply pw_below_drewN | apply below_drew1) | exact HB.out)) hb); have n1_ := Aside0.mk (hbox); have n2_ := Aside0.mk ((by rw [hg]; exact (below_size (by repeat (first | (with_reducible first | exact HB.out | apply below_alloc | apply pw_below_drewN | apply below_drew1) | exact HB.out))) : w.heap.size ≤ gb369)); have n3_ := Aside0.mk ((by rw [hg]; exact (below_size (by repeat (first | (with_reducible first | exact HB.out | apply below_alloc | apply pw_below_drewN | apply below_drew1) | exact HB.out))) : w.heap.size ≤ gb369)); clear HB; have HB := n0_; have BK369 := n1_; have GW369 := n2_; have GE369 := n3_; clear n0_ n1_ n2_ n3_; clear hb hbox hg; have hcz4_0 : w3.cell? ⟨gb369, 0, none⟩ = some (.int .i32 0) := (blk_cell BK369.out 0).trans rfl; have hcz4_1 : w3.cell? ⟨gb369, 1, none⟩ = some (.slice none 0 0) := (blk_cell BK369.out 1).trans rfl; have hcz4_2 : w3.cell? ⟨gb369, 2, none⟩ = some (.string (⟨#[]⟩ : ByteArray)) := (blk_cell BK369.out 2).trans rfl; have hfz4_0 := blk_frozen BK369.out 0; have hfz4_1 := blk_frozen BK369.out 1; have hfz4_2 := blk_frozen BK369.out 2))
    refine bodyPost_ret (results_ct rfl _ _ gb369 24 #[.int .i32 0, .slice none 0 0, .string (⟨#[]⟩ : ByteArray)] (0, 0) _ rfl (by (with_reducible repeat (first | refine blk_drewN ?_ _ | refine blk_drew ?_ | refine blk_alloc ?_ _)); refine blk_put (cs := #[.int .i32 0, .slice none 0 0, .string (⟨#[]⟩ : ByteArray)]) ?_ 2 _ rfl; (with_reducible repeat (first | refine blk_drewN ?_ _ | refine blk_drew ?_ | refine blk_alloc ?_ _)); refine blk_put (cs := #[.int .i32 0, .slice none 0 0, .string (⟨#[]⟩ : ByteArray)]) ?_ 1 _ rfl; (with_reducible repeat (first | refine blk_drewN ?_ _ | refine blk_drew ?_ | refine blk_alloc ?_ _)); refine blk_put (cs := #[.int .i32 0, .slice none 0 0, .string (⟨#[]⟩ : ByteArray)]) ?_ 0 _ rfl; (with_reducible repeat (first | refine blk_drewN ?_ _ | refine blk_drew ?_ | refine blk_alloc ?_ _)); exact BK369.out) Tryd.underlying24 rfl (by kernel_rfl)) rfl ?_
    exact ⟨_, by first | rfl | (simp [errW_none, errW_some] <;> rfl) | (simp [*, errW_none, errW_some] <;> rfl), by first | exact Kd.R_nil _ _ _ _ _ | exact Kd.N_nil _ _ _ _ _ | exact Kd.V_nil _ _ _ _ _ | exact Kd.Q_nil _ _ _ _ _ | exact Kd.S_nil _ _ _ _ _, by repeat (first | (with_reducible first | exact HB.out | apply below_alloc | apply pw_below_drewN | apply below_drew1 | refine below_set ?_ GE369.out) | exact HB.out)⟩
  · rw [if_neg c2] at H
    have c2b0 : ((l0.length : Int) == 0) = false := beq_eq_false_iff_ne.mpr c2
    have c2b1 : ((l0.length : Int) != 0) = true := bne_iff_ne.mpr c2
    have c2b2 : ¬ (l0 = []) := fun h_ => c2 (by rw [h_]; rfl)
    by_cases c5 : 0 < (l0.length : Int)
    · rw [if_pos c5] at H
      have c5b0 : decide (0 < (l0.length : Int)) = true := decide_eq_true c5
      have c5b1 : decide (0 < l0.length) = true := decide_eq_true (by omega)
      clear c5
      by_cases c6 : ((rd_T139 l0 0).f0) > 2147483647
      · rw [if_pos c6] at H
        have c6b0 : decide (2147483647 < ((rd_T139 l0 0).f0)) = true := decide_eq_true c6
        clear c6
        simp only [Option.some.injEq, Prod.mk.injEq] at H
        obtain ⟨rfl, rfl, rfl, rfl⟩ := H
        go_enter Tryd.func42, Tryd.ntmps42
        go_wp2_with (first | ((with_reducible refine gate_dst (N := 2) rfl ?_); refine box_event ?hg (N := 2) ?hd (cs := #[.int .i32 0, .slice none 0 0, .string (⟨#[]⟩ : ByteArray)]) (t := 24) ?hr ?_; (case hd => rfl); (case hg => rfl); (case hr => first | (go_simp; done) | (go_simp; rfl)); intro gb369 hg w7 hbox hb; have n0_ := Aside0.mk (below_step (by repeat (first | (with_reducible first | exact HB.out | apply below_alloc | apply pw_below_drewN | apply below_drew1) | exact HB.out)) hb); have n1_ := Aside0.mk (hbox); have n2_ := Aside0.mk ((by rw [hg]; exact (below_size (by repeat (first | (with_reducible first | exact HB.out | apply below_alloc | apply pw_below_drewN | apply below_drew1) | exact HB.out))) : w.heap.size ≤ gb369)); have n3_ := Aside0.mk ((by rw [hg]; exact (below_size (by repeat (first | (with_reducible first | exact HB.out | apply below_alloc | apply pw_below_drewN | apply below_drew1) | exact HB.out))) : w.heap.size ≤ gb369)); clear HB; have HB := n0_; have BK369 := n1_; have GW369 := n2_; have GE369 := n3_; clear n0_ n1_ n2_ n3_; clear hb hbox hg; have p370 : 0 ≤ (0 : Int) := (by omega); have q370 : 0 < (l0.length : Int) := of_decide_eq_true (by first | (with_reducible assumption) | assumption); obtain ⟨ad370, e370, hx370_0, hx370_1⟩ := at_T139 HR0.out 0 p370 q370; cases e370; have qi370 : (0 < l0.length) = True := eq_true (by omega); (try rw [show ((0 : Int)).toNat = 0 from rfl] at hx370_0); (try rw [show 0 * 2 = 0 from rfl] at hx370_0); (try rw [Addr.add_zero'] at hx370_0); (try rw [show ((0 : Int)).toNat = 0 from rfl] at hx370_1); (try rw [show 0 * 2 = 0 from rfl] at hx370_1); (try rw [Addr.add_zero'] at hx370_1); replace hx370_0 := (HB.out.cell (World.block_lt_of_cell? w _ hx370_0)).trans hx370_0; replace hx370_1 := (HB.out.cell (World.block_lt_of_cell? w _ hx370_1)).trans hx370_1; replace p370 := eq_true p370; replace q370 := eq_true q370; have hcz8_0 : w7.cell? ⟨gb369, 0, none⟩ = some (.int .i32 0) := (blk_cell BK369.out 0).trans rfl; have hcz8_1 : w7.cell? ⟨gb369, 1, none⟩ = some (.slice none 0 0) := (blk_cell BK369.out 1).trans rfl; have hcz8_2 : w7.cell? ⟨gb369, 2, none⟩ = some (.string (⟨#[]⟩ : ByteArray)) := (blk_cell BK369.out 2).trans rfl; have hfz8_0 := blk_frozen BK369.out 0; have hfz8_1 := blk_frozen BK369.out 1; have hfz8_2 := blk_frozen BK369.out 2))
        refine bodyPost_ret (results_ct rfl _ _ gb369 24 #[.int .i32 0, .slice none 0 0, .string (⟨#[]⟩ : ByteArray)] (0, 0) _ rfl (by (with_reducible repeat (first | refine blk_drewN ?_ _ | refine blk_drew ?_ | refine blk_alloc ?_ _)); refine blk_put (cs := #[.int .i32 0, .slice none 0 0, .string (⟨#[]⟩ : ByteArray)]) ?_ 2 _ rfl; (with_reducible repeat (first | refine blk_drewN ?_ _ | refine blk_drew ?_ | refine blk_alloc ?_ _)); refine blk_put (cs := #[.int .i32 0, .slice none 0 0, .string (⟨#[]⟩ : ByteArray)]) ?_ 1 _ rfl; (with_reducible repeat (first | refine blk_drewN ?_ _ | refine blk_drew ?_ | refine blk_alloc ?_ _)); refine blk_put (cs := #[.int .i32 0, .slice none 0 0, .string (⟨#[]⟩ : ByteArray)]) ?_ 0 _ rfl; (with_reducible repeat (first | refine blk_drewN ?_ _ | refine blk_drew ?_ | refine blk_alloc ?_ _)); exact BK369.out) Tryd.underlying24 rfl (by kernel_rfl)) rfl ?_
        exact ⟨_, by first | rfl | (simp [errW_none, errW_some] <;> rfl) | (simp [*, errW_none, errW_some] <;> rfl), by first | exact Kd.R_nil _ _ _ _ _ | exact Kd.N_nil _ _ _ _ _ | exact Kd.V_nil _ _ _ _ _ | exact Kd.Q_nil _ _ _ _ _ | exact Kd.S_nil _ _ _ _ _, by repeat (first | (with_reducible first | exact HB.out | apply below_alloc | apply pw_below_drewN | apply below_drew1 | refine below_set ?_ GE369.out) | exact HB.out)⟩
      · rw [if_neg c6] at H
        have c6b0 : decide (2147483647 < ((rd_T139 l0 0).f0)) = false := decide_eq_false c6
        clear c6
        obtain ⟨ji9, hji9⟩ : ∃ j_ : Int, (wrap64 ((l0.length : Int) - 1)) = j_ := ⟨_, rfl⟩
        replace H : (if 0 ≤ (ji9) then (if (ji9) < (l0.length : Int) then (if 0 ≤ (wrap64 ((wrap64 (((rd_T139 l0 (ji9)).f0) - ((rd_T139 l0 0).f0))) + 1)) then (if (wrap64 ((wrap64 (((rd_T139 l0 (ji9)).f0) - ((rd_T139 l0 0).f0))) + 1) : Int).toNat ≤ 35184372088832 then (hygref25_dense.l0 k l0 ((rd_T139 l0 0).f0) 0 (wrap32 ((rd_T139 l0 0).f0)) (List.replicate (wrap64 ((wrap64 (((rd_T139 l0 (ji9)).f0) - ((rd_T139 l0 0).f0))) + 1) : Int).toNat 0) (⟨#[]⟩ : ByteArray)) else (none)) else (none)) else (none)) else (none)) = some (r1, r2, r3, r4) := by first | (rw [hji9] at H; exact H) | (simp only [hji9] at H ⊢; exact H)
        have hji9w : (IntKind.i64.wrap ((l0.length : Int) - 1)) = ji9 := (i64_w _).trans hji9
        by_cases c10 : 0 ≤ (ji9)
        · rw [if_pos c10] at H
          have c10b0 : decide (0 ≤ (ji9)) = true := decide_eq_true c10
          clear c10
          by_cases c11 : (ji9) < (l0.length : Int)
          · rw [if_pos c11] at H
            have c11b0 : decide ((ji9) < (l0.length : Int)) = true := decide_eq_true c11
            clear c11
            obtain ⟨ji12, hji12⟩ : ∃ j_ : Int, (wrap64 ((wrap64 (((rd_T139 l0 (ji9)).f0) - ((rd_T139 l0 0).f0))) + 1)) = j_ := ⟨_, rfl⟩
            replace H : (if 0 ≤ (ji12) then (if (ji12 : Int).toNat ≤ 35184372088832 then (hygref25_dense.l0 k l0 ((rd_T139 l0 0).f0) 0 (wrap32 ((rd_T139 l0 0).f0)) (List.replicate (ji12 : Int).toNat 0) (⟨#[]⟩ : ByteArray)) else (none)) else (none)) = some (r1, r2, r3, r4) := by first | (rw [hji12] at H; exact H) | (simp only [hji12] at H ⊢; exact H)
            have hji12w : (IntKind.i64.wrap ((wrap64 (((rd_T139 l0 (ji9)).f0) - ((rd_T139 l0 0).f0))) + 1)) = ji12 := (i64_w _).trans hji12
            by_cases c13 : 0 ≤ (ji12)
            · rw [if_pos c13] at H
              have c13b0 := eq_true c13
              have c13b1 : decide (0 ≤ (ji12)) = true := decide_eq_true c13
              clear c13
              by_cases c14 : (ji12 : Int).toNat ≤ 35184372088832
              · rw [if_pos c14] at H
                have c14b0 := eq_true c14
                have c14b1 : decide ((ji12 : Int).toNat ≤ 35184372088832) = true := decide_eq_true c14
                clear c14
                obtain ⟨y372, hy372⟩ : ∃ y_ : List Int, y_ = (List.replicate (ji12 : Int).toNat 0) := ⟨_, rfl⟩
                replace H : (hygref25_dense.l0 k l0 ((rd_T139 l0 0).f0) 0 (wrap32 ((rd_T139 l0 0).f0)) y372 (⟨#[]⟩ : ByteArray)) = some (r1, r2, r3, r4) := by first | (rw [hy372]; with_reducible exact H) | (have H2_ := (Option.bind_some _ _).symm.trans H; rw [hy372]; with_reducible exact H2_) | (have H2_ := (Option.bind_some _ _).symm.trans H; with_reducible exact H2_) | with_reducible exact H | (rw [hy372]; exact H) | exact H
                have Ny372 := Aside0.mk hy372
                clear hy372
                have H' := Aside0.mk H
                clear H
                go_enter Tryd.func42, Tryd.ntmps42
                go_wp2_with (first | ((with_reducible refine gate_dst (N := 2) rfl ?_); refine box_event ?hg (N := 2) ?hd (cs := #[.int .i32 0, .slice none 0 0, .string (⟨#[]⟩ : ByteArray)]) (t := 24) ?hr ?_; (case hd => rfl); (case hg => rfl); (case hr => first | (go_simp; done) | (go_simp; rfl)); intro gb369 hg w15 hbox hb; have n0_ := Aside0.mk (below_step (by repeat (first | (with_reducible first | exact HB.out | apply below_alloc | apply pw_below_drewN | apply below_drew1) | exact HB.out)) hb); have n1_ := Aside0.mk (hbox); have n2_ := Aside0.mk ((by rw [hg]; exact (below_size (by repeat (first | (with_reducible first | exact HB.out | apply below_alloc | apply pw_below_drewN | apply below_drew1) | exact HB.out))) : w.heap.size ≤ gb369)); have n3_ := Aside0.mk ((by rw [hg]; exact (below_size (by repeat (first | (with_reducible first | exact HB.out | apply below_alloc | apply pw_below_drewN | apply below_drew1) | exact HB.out))) : w.heap.size ≤ gb369)); clear HB; have HB := n0_; have BK369 := n1_; have GW369 := n2_; have GE369 := n3_; clear n0_ n1_ n2_ n3_; clear hb hbox hg; have p370 : 0 ≤ (0 : Int) := (by omega); have q370 : 0 < (l0.length : Int) := of_decide_eq_true (by first | (with_reducible assumption) | assumption); obtain ⟨ad370, e370, hx370_0, hx370_1⟩ := at_T139 HR0.out 0 p370 q370; cases e370; have qi370 : (0 < l0.length) = True := eq_true (by omega); (try rw [show ((0 : Int)).toNat = 0 from rfl] at hx370_0); (try rw [show 0 * 2 = 0 from rfl] at hx370_0); (try rw [Addr.add_zero'] at hx370_0); (try rw [show ((0 : Int)).toNat = 0 from rfl] at hx370_1); (try rw [show 0 * 2 = 0 from rfl] at hx370_1); (try rw [Addr.add_zero'] at hx370_1); replace hx370_0 := (HB.out.cell (World.block_lt_of_cell? w _ hx370_0)).trans hx370_0; replace hx370_1 := (HB.out.cell (World.block_lt_of_cell? w _ hx370_1)).trans hx370_1; replace p370 := eq_true p370; replace q370 := eq_true q370; have p371 : 0 ≤ ((ji9) : Int) := of_decide_eq_true (by first | (with_reducible assumption) | assumption); have q371 : (ji9) < (l0.length : Int) := of_decide_eq_true (by first | (with_reducible assumption) | assumption); obtain ⟨ad371, e371, hx371_0, hx371_1⟩ := at_T139 HR0.out (ji9) p371 q371; obtain rfl : ad370 = ad371 := (by injection e371); replace hx371_0 := (HB.out.cell (World.block_lt_of_cell? w _ hx371_0)).trans hx371_0; replace hx371_1 := (HB.out.cell (World.block_lt_of_cell? w _ hx371_1)).trans hx371_1; replace p371 := eq_true p371; replace q371 := eq_true q371) | ((with_reducible refine gate_dst (N := 30) rfl ?_); refine Kd.R_make (Kd.int .u64) _ 41 rfl (N := 30) rfl 22 _ _ rfl ji12 rfl rfl Tryd.underlying22 (.int .u64 0) 8 info41 rfl (by decide) (by omega) 0 (ok := fun _ => True) (okp := fun _ => True) rfl (fun _ hk => hk) trivial (of_decide_eq_true (by first | (with_reducible assumption) | assumption)) (Nat.le_trans (Nat.mul_le_mul_right _ (of_decide_eq_true (by first | (with_reducible assumption) | assumption) : ji12.toNat ≤ 35184372088832)) (by omega)) (Below.refl _ _) (Nat.le_refl _) ?_; intro v373 w16 ho17 hb hg_ hnew_; clear hg_ hnew_; (first | rw [← Ny372.out] at ho17 | (simp only [Int.reduceToNat] at ho17; rw [← Ny372.out] at ho17)); have n0_ := Aside0.mk (Kd.R_lower ho17 (below_size (by repeat (first | (with_reducible first | exact HB.out | apply below_alloc | apply pw_below_drewN | apply below_drew1 | refine below_set ?_ GE369.out) | exact HB.out)))); have n1_ := Aside0.mk (blk_below (g := gb369) (o := .cells #[.int .i32 0, .slice none 0 0, .string (⟨#[]⟩ : ByteArray)] 24 (0, 0)) (by (with_reducible repeat (first | refine blk_drewN ?_ _ | refine blk_drew ?_ | refine blk_alloc ?_ _)); exact BK369.out) hb); have n2_ := Aside0.mk (below_step (by repeat (first | (with_reducible first | exact HB.out | apply below_alloc | apply pw_below_drewN | apply below_drew1 | refine below_set ?_ GE369.out) | exact HB.out)) hb); clear BK369; clear HB; have HO374 := n0_; have BK369 := n1_; have HB := n2_; clear n0_ n1_ n2_; clear hb ho17; obtain ⟨Ao18, co18, eo18⟩ := Kd.R_slice HO374.out; subst eo18) | ((with_reducible refine gate_dst (N := 5) rfl ?_); refine box_event ?hg (N := 5) ?hd (cs := #[.int .i32 0, .slice none 0 0, .string (⟨#[]⟩ : ByteArray)]) (t := 24) ?hr ?_; (case hd => rfl); (case hg => rfl); (case hr => first | (go_simp; done) | (go_simp; rfl)); intro gb375 hg w19 hbox hb; have n0_ := Aside0.mk (Kd.R_below (by (with_reducible repeat (first | apply Kd.R_alloc | apply Kd.R_drewN | apply Kd.R_drew)); exact HO374.out) hb); have n1_ := Aside0.mk (blk_below (g := gb369) (o := .cells #[.int .i32 0, .slice none 0 0, .string (⟨#[]⟩ : ByteArray)] 24 (0, 0)) (by (with_reducible repeat (first | refine blk_drewN ?_ _ | refine blk_drew ?_ | refine blk_alloc ?_ _)); exact BK369.out) hb); have n2_ := Aside0.mk (below_step (by repeat (first | (with_reducible first | exact HB.out | apply below_alloc | apply pw_below_drewN | apply below_drew1 | refine below_set ?_ GE369.out) | exact HB.out)) hb); have n3_ := Aside0.mk (hbox); have n4_ := Aside0.mk ((by rw [hg]; exact (below_size (by repeat (first | (with_reducible first | exact HB.out | apply below_alloc | apply pw_below_drewN | apply below_drew1 | refine below_set ?_ GE369.out) | exact HB.out))) : w.heap.size ≤ gb375)); have n5_ := Aside0.mk ((by rw [hg]; exact (below_size (by repeat (first | (with_reducible first | exact HB.out | apply below_alloc | apply pw_below_drewN | apply below_drew1 | refine below_set ?_ GE369.out) | exact HB.out))) : w.heap.size ≤ gb375)); have n6_ := Aside0.mk ((by rw [hg]; exact Nat.ne_of_lt (blk_lt (g := gb369) (o := .cells #[.int .i32 0, .slice none 0 0, .string (⟨#[]⟩ : ByteArray)] 24 (0, 0)) (by (with_reducible repeat (first | refine blk_drewN ?_ _ | refine blk_drew ?_ | refine blk_alloc ?_ _)); exact BK369.out)) : gb369 ≠ gb375)); have n7_ := Aside0.mk ((by rw [hg]; exact Nat.ne_of_gt (blk_lt (g := gb369) (o := .cells #[.int .i32 0, .slice none 0 0, .string (⟨#[]⟩ : ByteArray)] 24 (0, 0)) (by (with_reducible repeat (first | refine blk_drewN ?_ _ | refine blk_drew ?_ | refine blk_alloc ?_ _)); exact BK369.out)) : gb375 ≠ gb369)); clear HO374; clear BK369; clear HB; have HO374 := n0_; have BK369 := n1_; have HB := n2_; have BK375 := n3_; have GW375 := n4_; have GE375 := n5_; have NB369_375 := n6_; have NB375_369 := n7_; clear n0_ n1_ n2_ n3_ n4_ n5_ n6_ n7_; clear hb hbox hg; have hnb20 := NB375_369.out; have hnc20 := NB369_375.out; have hcz21_0 : w19.cell? ⟨gb375, 0, none⟩ = some (.int .i32 0) := (blk_cell BK375.out 0).trans rfl; have hcz21_1 : w19.cell? ⟨gb375, 1, none⟩ = some (.slice none 0 0) := (blk_cell BK375.out 1).trans rfl; have hcz21_2 : w19.cell? ⟨gb375, 2, none⟩ = some (.string (⟨#[]⟩ : ByteArray)) := (blk_cell BK375.out 2).trans rfl; have hfz21_0 := blk_frozen BK375.out 0; have hfz21_1 := blk_frozen BK375.out 1; have hfz21_2 := blk_frozen BK375.out 2))
                go_loopg [6] k (fun kq v6 w' => ∃ (x6_1 : Int) (x376001_1 : List Int) (u376001 : Value), v6 = .int .i64 x6_1 ∧ Aside0 (hygref25_dense.l0 kq l0 ((rd_T139 l0 0).f0) x6_1 (wrap32 ((rd_T139 l0 0).f0)) x376001_1 (⟨#[]⟩ : ByteArray) = some (r1, r2, r3, r4)) ∧ Aside0 (kq ≤ k) ∧ Aside0 (Kd.R (Kd.int .u64) 41 w' w.heap.size (fun _ => True) u376001 x376001_1) ∧ Aside0 (w'.heap[gb369]? = some (.cells #[.int .i32 0, (.slice none 0 0), .string (⟨#[]⟩ : ByteArray)] 24 (0, 0))) ∧ Aside0 (w'.heap[gb375]? = some (.cells #[.int .i32 (wrap32 ((rd_T139 l0 0).f0)), u376001, .string (⟨#[]⟩ : ByteArray)] 24 (0, 0))) ∧ Aside0 (Below w.heap.size w w'))
                case atStart => exact ⟨(0), (y372), (.slice Ao18 y372.length co18), (by first | rfl | (simp; done) | (simp [*]; done)), H', ⟨Nat.le_refl _⟩, ⟨by (with_reducible repeat (first | apply Kd.R_alloc | apply Kd.R_drewN | apply Kd.R_drew)); exact Kd.R_mono (Kd.R_far (p := ⟨gb375, 2, none⟩) (Kd.R_far (p := ⟨gb375, 1, none⟩) (Kd.R_far (p := ⟨gb375, 0, none⟩) (Kd.R_types HO374.out BK375.out (by decide)) (fun _ hk => hk.2) (.int .i32 (wrap32 ((rd_T139 l0 0).f0)))) (fun _ hk => hk.2) (.slice Ao18 y372.length co18)) (fun _ hk => hk.2) (.string (⟨#[]⟩ : ByteArray))) (fun _ hk => trivial)⟩, ⟨by (with_reducible repeat (first | refine blk_drewN ?_ _ | refine blk_drew ?_ | refine blk_alloc ?_ _)); refine blk_far ?_ NB369_375.out _; (with_reducible repeat (first | refine blk_drewN ?_ _ | refine blk_drew ?_ | refine blk_alloc ?_ _)); refine blk_far ?_ NB369_375.out _; (with_reducible repeat (first | refine blk_drewN ?_ _ | refine blk_drew ?_ | refine blk_alloc ?_ _)); refine blk_far ?_ NB369_375.out _; (with_reducible repeat (first | refine blk_drewN ?_ _ | refine blk_drew ?_ | refine blk_alloc ?_ _)); exact BK369.out⟩, ⟨by (with_reducible repeat (first | refine blk_drewN ?_ _ | refine blk_drew ?_ | refine blk_alloc ?_ _)); refine blk_put (cs := #[.int .i32 (wrap32 ((rd_T139 l0 0).f0)), .slice Ao18 y372.length co18, .string (⟨#[]⟩ : ByteArray)]) ?_ 2 _ rfl; (with_reducible repeat (first | refine blk_drewN ?_ _ | refine blk_drew ?_ | refine blk_alloc ?_ _)); refine blk_put (cs := #[.int .i32 (wrap32 ((rd_T139 l0 0).f0)), .slice none 0 0, .string (⟨#[]⟩ : ByteArray)]) ?_ 1 _ rfl; (with_reducible repeat (first | refine blk_drewN ?_ _ | refine blk_drew ?_ | refine blk_alloc ?_ _)); refine blk_put (cs := #[.int .i32 0, .slice none 0 0, .string (⟨#[]⟩ : ByteArray)]) ?_ 0 _ rfl; (with_reducible repeat (first | refine blk_drewN ?_ _ | refine blk_drew ?_ | refine blk_alloc ?_ _)); exact BK375.out⟩, ⟨by repeat (first | (with_reducible first | exact HB.out | apply below_alloc | apply pw_below_drewN | apply below_drew1 | refine below_set ?_ GE369.out | refine below_set ?_ GE375.out) | exact HB.out)⟩⟩
                case round =>
                  clear H'
                  try clear c1
                  try clear c2
                  try clear c2b0
                  try clear c2b1
                  try clear c2b2
                  try clear p2
                  try clear p3
                  try clear q3
                  try clear hx3
                  try clear qi3
                  try clear c4
                  try clear c5
                  try clear c5b0
                  try clear c5b1
                  try clear c6
                  try clear c6b0
                  try clear p6
                  try clear c10
                  try clear c10b0
                  try clear c11
                  try clear c11b0
                  try clear c13
                  try clear c13b0
                  try clear c13b1
                  try clear c14
                  try clear c14b0
                  try clear c14b1
                  try clear c20
                  try clear hcz21_0
                  try clear hcz21_1
                  try clear hcz21_2
                  try clear hcz4_0
                  try clear hcz4_1
                  try clear hcz4_2
                  try clear hcz8_0
                  try clear hcz8_1
                  try clear hcz8_2
                  try clear hfz21_0
                  try clear hfz21_1
                  try clear hfz21_2
                  try clear hfz4_0
                  try clear hfz4_1
                  try clear hfz4_2
                  try clear hfz8_0
                  try clear hfz8_1
                  try clear hfz8_2
                  try clear hx370_0
                  try clear hx370_1
                  try clear hx371_0
                  try clear hx371_1
                  try clear p370
                  try clear p371
                  try clear q370
                  try clear q371
                  try clear HA
                  try clear HK1
                  try clear HO_376001
                  try clear BK369
                  try clear BK375
                  try clear HB
                  obtain ⟨x6_1, x376001_1, u376001, rfl, HA, HK1, HO_376001, BK369, BK375, HB⟩ := hrel
                  cases gk with
                  | zero => exact absurd HA.out (by simp [hygref25_dense.l0])
                  | succ k1 =>
                    have H := HA.out
                    clear HA
                    simp only [hygref25_dense.l0] at H
                    by_cases c22 : x6_1 < (l0.length : Int)
                    · rw [if_pos c22] at H
                      have c22b0 : decide (x6_1 < (l0.length : Int)) = true := decide_eq_true c22
                      clear c22
                      by_cases c23 : 0 ≤ x6_1
                      · rw [if_pos c23] at H
                        have c23b0 : decide (0 ≤ x6_1) = true := decide_eq_true c23
                        clear c23
                        obtain ⟨ji24, hji24⟩ : ∃ j_ : Int, (wrap64 (((rd_T139 l0 x6_1).f0) - ((rd_T139 l0 0).f0))) = j_ := ⟨_, rfl⟩
                        replace H : (if 0 ≤ (ji24) then (if (ji24) < (x376001_1.length : Int) then (hygref25_dense.l0 k1 l0 ((rd_T139 l0 0).f0) (wrap64 (x6_1 + 1)) (wrap32 ((rd_T139 l0 0).f0)) (x376001_1.set ((ji24) : Int).toNat ((rd_T139 l0 x6_1).f1)) (⟨#[]⟩ : ByteArray)) else (none)) else (none)) = some (r1, r2, r3, r4) := by first | (rw [hji24] at H; exact H) | (simp only [hji24] at H ⊢; exact H)
                        have hji24w : (IntKind.i64.wrap (((rd_T139 l0 x6_1).f0) - ((rd_T139 l0 0).f0))) = ji24 := (i64_w _).trans hji24
                        by_cases c25 : 0 ≤ (ji24)
                        · rw [if_pos c25] at H
                          have c25b0 : decide (0 ≤ (ji24)) = true := decide_eq_true c25
                          clear c25
                          by_cases c26 : (ji24) < (x376001_1.length : Int)
                          · rw [if_pos c26] at H
                            have c26b0 : decide ((ji24) < (x376001_1.length : Int)) = true := decide_eq_true c26
                            clear c26
                            obtain ⟨y378, hy378⟩ : ∃ y_ : List Int, y_ = (x376001_1.set ((ji24) : Int).toNat ((rd_T139 l0 x6_1).f1)) := ⟨_, rfl⟩
                            replace H : (hygref25_dense.l0 k1 l0 ((rd_T139 l0 0).f0) (wrap64 (x6_1 + 1)) (wrap32 ((rd_T139 l0 0).f0)) y378 (⟨#[]⟩ : ByteArray)) = some (r1, r2, r3, r4) := by first | (rw [hy378]; with_reducible exact H) | (have H2_ := (Option.bind_some _ _).symm.trans H; rw [hy378]; with_reducible exact H2_) | (have H2_ := (Option.bind_some _ _).symm.trans H; with_reducible exact H2_) | with_reducible exact H | (rw [hy378]; exact H) | exact H
                            have Ny378 := Aside0.mk hy378
                            clear hy378
                            have H' := Aside0.mk H
                            clear H
                            try go_wp2
                            have n0_ := Aside0.mk (Kd.R_drew HO_376001.out)
                            have n1_ := Aside0.mk (blk_drew BK369.out)
                            have n2_ := Aside0.mk (blk_drew BK375.out)
                            have n3_ := Aside0.mk (below_drew1 HB.out)
                            clear HO_376001
                            clear BK369
                            clear BK375
                            clear HB
                            have HO_376001 := n0_
                            have BK369 := n1_
                            have BK375 := n2_
                            have HB := n3_
                            clear n0_ n1_ n2_ n3_
                            have p376 : 0 ≤ (x6_1 : Int) := of_decide_eq_true (by first | (with_reducible assumption) | assumption)
                            have q376 : x6_1 < (l0.length : Int) := of_decide_eq_true (by first | (with_reducible assumption) | assumption)
                            obtain ⟨ad376, e376, hx376_0, hx376_1⟩ := at_T139 HR0.out x6_1 p376 q376
                            have hw376_1 := hx376_1
                            have hw376_0 := hx376_0
                            obtain rfl : ad370 = ad376 := (by injection e376)
                            replace hx376_0 := (HB.out.cell (World.block_lt_of_cell? w _ hx376_0)).trans hx376_0
                            replace hx376_1 := (HB.out.cell (World.block_lt_of_cell? w _ hx376_1)).trans hx376_1
                            replace p376 := eq_true p376
                            replace q376 := eq_true q376
                            have p377 : 0 ≤ (x6_1 : Int) := of_decide_eq_true (by first | (with_reducible assumption) | assumption)
                            have q377 : x6_1 < (l0.length : Int) := of_decide_eq_true (by first | (with_reducible assumption) | assumption)
                            obtain ⟨ad377, e377, hx377_0, hx377_1⟩ := at_T139 HR0.out x6_1 p377 q377
                            have hw377_1 := hx377_1
                            have hw377_0 := hx377_0
                            obtain rfl : ad370 = ad377 := (by injection e377)
                            replace hx377_0 := (HB.out.cell (World.block_lt_of_cell? w _ hx377_0)).trans hx377_0
                            replace hx377_1 := (HB.out.cell (World.block_lt_of_cell? w _ hx377_1)).trans hx377_1
                            replace p377 := eq_true p377
                            replace q377 := eq_true q377
                            have p27 : 0 ≤ ((ji24) : Int) := of_decide_eq_true (by first | (with_reducible assumption) | assumption)
                            have q27 : ((ji24) : Int) < ((x376001_1.length : Int) : Int) := of_decide_eq_true (by first | (with_reducible assumption) | assumption)
                            obtain ⟨go27, co27, eo27, gb27, gl27, cl27, HG27⟩ := Kd.R_form HO_376001.out (by omega)
                            (first | cases eo27 | (injection eo27 with ea_ en_ ec_; (first | subst ea_ | (injection ea_ with ea_; subst ea_)); subst ec_; clear en_))
                            have GB27 := Aside0.mk gb27
                            have GG27 := Aside0.mk HG27
                            clear gb27 gl27 HG27
                            obtain ⟨hx27_0, hf27_0⟩ := Kd.R_celln 0 HO_376001.out ((ji24) : Int) p27 q27
                            replace p27 := eq_true p27
                            replace q27 := eq_true q27
                            have HP29 := Kd.R_putn HO_376001.out ((ji24) : Int) ((rd_T139 l0 x6_1).f1)
                            rw [← Ny378.out] at HP29
                            have HQ29 := Aside0.mk HP29
                            clear HP29
                            refine start_ (n := 16) (S := fun w' => w'.cell? ⟨gb375, 0, none⟩ = some (.int .i32 (wrap32 ((rd_T139 l0 0).f0))) ∧ w'.cell? ⟨gb375, 1, none⟩ = some (.slice (some ⟨go27, 0, none⟩) x376001_1.length co27) ∧ w'.cell? ⟨gb375, 2, none⟩ = some (.string (⟨#[]⟩ : ByteArray)) ∧ w'.cell? (ad370.add ((x6_1).toNat * 2)) = some (.int .i64 ((rd_T139 l0 x6_1).f0)) ∧ w'.cell? ⟨(ad370.add ((x6_1).toNat * 2)).block, (ad370.add ((x6_1).toNat * 2)).off + 1, none⟩ = some (.int .u64 ((rd_T139 l0 x6_1).f1)) ∧ w'.cell? (ad370.add ((x6_1).toNat * 2)) = some (.int .i64 ((rd_T139 l0 x6_1).f0)) ∧ w'.cell? ⟨(ad370.add ((x6_1).toNat * 2)).block, (ad370.add ((x6_1).toNat * 2)).off + 1, none⟩ = some (.int .u64 ((rd_T139 l0 x6_1).f1))) (ds := [15]) #[false, false, false, false, false, false, false, false, false, false, false, false, false, false, false, false] (by kernel_rfl) rfl rfl ⟨(blk_cell BK375.out 0).trans rfl, (blk_cell BK375.out 1).trans rfl, (blk_cell BK375.out 2).trans rfl, ((HB.out.cell (World.block_lt_of_cell? w _ hw376_0)).trans hw376_0), ((HB.out.cell (World.block_lt_of_cell? w _ hw376_1)).trans hw376_1), ((HB.out.cell (World.block_lt_of_cell? w _ hw377_0)).trans hw377_0), ((HB.out.cell (World.block_lt_of_cell? w _ hw377_1)).trans hw377_1)⟩ (fun hHeld => ?_); refine with_tabW hygref25_dense.tab10 hygref25_dense.bits10 (fun HT_ HW_ => ?_)
                            generalize wr.drew = w28 at HO_376001 BK369 BK375 HB GG27 HQ29 hf27_0 hx27_0 hx376_0 hx376_1 hx377_0 hx377_1 hHeld ⊢
                            refine pure_ (i := 0) (N := some 38) (v := ?_) (a' := ?_) #[true, false, false, false, false, false, false, false, false, false, false, false, false, false, false, false] rfl rfl (any_of HT_.out (by kernel_rfl)) (fun _ _ _ h => h) (Or.inl ⟨by rfl, ?_⟩) ?_ ?_
                            rotate_left
                            · intro w'
                              go_simp
                              with_reducible rfl
                            rotate_left
                            · simp only [Act.put, List.setIfInBounds_toArray, List.set_cons_zero, List.set_cons_succ, i64_w, i32_w]
                              rfl
                            refine pure_ (i := 2) (N := some 40) (v := ?_) (a' := ?_) #[true, false, true, false, false, false, false, false, false, false, false, false, false, false, false, false] rfl rfl (any_of HT_.out (by kernel_rfl)) (fun _ _ _ h => h) (Or.inl ⟨by rfl, ?_⟩) ?_ ?_
                            rotate_left
                            · intro w'
                              go_simp
                              with_reducible rfl
                            rotate_left
                            · simp only [Act.put, List.setIfInBounds_toArray, List.set_cons_zero, List.set_cons_succ, i64_w, i32_w]
                              rfl
                            refine pure_ (i := 3) (N := some 41) (v := ?_) (a' := ?_) #[true, false, true, true, false, false, false, false, false, false, false, false, false, false, false, false] rfl rfl (any_of HT_.out (by kernel_rfl)) (fun _ _ _ h => h) (Or.inl ⟨by rfl, ?_⟩) ?_ ?_
                            rotate_left
                            · intro w'
                              go_simp
                              with_reducible rfl
                            rotate_left
                            · simp only [Act.put, List.setIfInBounds_toArray, List.set_cons_zero, List.set_cons_succ, i64_w, i32_w]
                              rfl
                            refine pure_ (i := 4) (N := some 42) (v := ?_) (a' := ?_) #[true, false, true, true, true, false, false, false, false, false, false, false, false, false, false, false] rfl rfl (any_of HT_.out (by kernel_rfl)) (fun _ _ _ h => h) (Or.inl ⟨by rfl, ?_⟩) ?_ ?_
                            rotate_left
                            · intro w'
                              go_simp
                              with_reducible rfl
                            rotate_left
                            · simp only [Act.put, List.setIfInBounds_toArray, List.set_cons_zero, List.set_cons_succ, i64_w, i32_w]
                              rfl
                            refine pure_ (i := 5) (N := some 43) (v := ?_) (a' := ?_) #[true, false, true, true, true, true, false, false, false, false, false, false, false, false, false, false] rfl rfl (any_of HT_.out (by kernel_rfl)) (fun _ _ _ h => h) (Or.inl ⟨by rfl, ?_⟩) ?_ ?_
                            rotate_left
                            · intro w'
                              go_simp
                              with_reducible rfl
                            rotate_left
                            · simp only [Act.put, List.setIfInBounds_toArray, List.set_cons_zero, List.set_cons_succ, i64_w, i32_w]
                              rfl
                            refine pure_ (i := 7) (N := some 45) (v := ?_) (a' := ?_) #[true, false, true, true, true, true, false, true, false, false, false, false, false, false, false, false] rfl rfl (any_of HT_.out (by kernel_rfl)) (fun _ _ _ h => h) (Or.inl ⟨by rfl, ?_⟩) ?_ ?_
                            rotate_left
                            · intro w'
                              go_simp
                              with_reducible rfl
                            rotate_left
                            · simp only [Act.put, List.setIfInBounds_toArray, List.set_cons_zero, List.set_cons_succ, i64_w, i32_w]
                              rfl
                            refine pure_ (i := 9) (N := some 47) (v := ?_) (a' := ?_) #[true, false, true, true, true, true, false, true, false, true, false, false, false, false, false, false] rfl rfl (any_of HT_.out (by kernel_rfl)) (fun _ _ _ h => h) (Or.inl ⟨by rfl, ?_⟩) ?_ ?_
                            rotate_left
                            · intro w'
                              go_simp
                              with_reducible rfl
                            rotate_left
                            · simp only [Act.put, List.setIfInBounds_toArray, List.set_cons_zero, List.set_cons_succ, i64_w, i32_w]
                              rfl
                            refine pure_ (i := 10) (N := some 48) (v := ?_) (a' := ?_) #[true, false, true, true, true, true, false, true, false, true, true, false, false, false, false, false] rfl rfl (any_of HT_.out (by kernel_rfl)) (fun _ _ _ h => h) (Or.inl ⟨by rfl, ?_⟩) ?_ ?_
                            rotate_left
                            · intro w'
                              go_simp
                              with_reducible rfl
                            rotate_left
                            · simp only [Act.put, List.setIfInBounds_toArray, List.set_cons_zero, List.set_cons_succ, i64_w, i32_w]
                              rfl
                            refine pure_ (i := 11) (N := some 49) (v := ?_) (a' := ?_) #[true, false, true, true, true, true, false, true, false, true, true, true, false, false, false, false] rfl rfl (any_of HT_.out (by kernel_rfl)) (fun _ _ _ h => h) (Or.inl ⟨by rfl, ?_⟩) ?_ ?_
                            rotate_left
                            · intro w'
                              go_simp
                              with_reducible rfl
                            rotate_left
                            · simp only [Act.put, List.setIfInBounds_toArray, List.set_cons_zero, List.set_cons_succ, i64_w, i32_w]
                              rfl
                            refine pure_ (i := 12) (N := some 50) (v := ?_) (a' := ?_) #[true, false, true, true, true, true, false, true, false, true, true, true, true, false, false, false] rfl rfl (any_of HT_.out (by kernel_rfl)) (fun _ _ _ h => h) (Or.inl ⟨by rfl, ?_⟩) ?_ ?_
                            rotate_left
                            · intro w'
                              go_simp
                              with_reducible rfl
                            rotate_left
                            · simp only [Act.put, List.setIfInBounds_toArray, List.set_cons_zero, List.set_cons_succ, i64_w, i32_w]
                              rfl
                            refine take_ (i := 1) (N := some 39) (v := ?_) (a' := ?_) #[true, true, true, true, true, true, false, true, false, true, true, true, true, false, false, false] rfl rfl (take_ofW HT_.out HW_.out (by kernel_rfl)) (fun _ _ _ h => h) (Or.inl ⟨by rfl, ?_⟩) hHeld ?_ ?_
                            rotate_left
                            · rintro w' ⟨s0, s1, s2, s3, s4, s5, s6⟩
                              go_simp
                              with_reducible rfl
                            rotate_left
                            · simp only [Act.put, List.setIfInBounds_toArray, List.set_cons_zero, List.set_cons_succ, i64_w, i32_w]
                              rfl
                            refine take_ (i := 6) (N := some 44) (v := ?_) (a' := ?_) #[true, true, true, true, true, true, true, true, false, true, true, true, true, false, false, false] rfl rfl (take_ofW HT_.out HW_.out (by kernel_rfl)) (fun _ _ _ h => h) (Or.inl ⟨by rfl, ?_⟩) hHeld ?_ ?_
                            rotate_left
                            · rintro w' ⟨s0, s1, s2, s3, s4, s5, s6⟩
                              go_simp
                              with_reducible rfl
                            rotate_left
                            · simp only [Act.put, List.setIfInBounds_toArray, List.set_cons_zero, List.set_cons_succ, i64_w, i32_w]
                              rfl
                            refine pure_ (i := 8) (N := some 46) (v := ?_) (a' := ?_) #[true, true, true, true, true, true, true, true, true, true, true, true, true, false, false, false] rfl rfl (any_of HT_.out (by kernel_rfl)) (fun _ _ _ h => h) (Or.inl ⟨by rfl, ?_⟩) ?_ ?_
                            rotate_left
                            · intro w'
                              go_simp
                              with_reducible rfl
                            rotate_left
                            · simp only [Act.put, List.setIfInBounds_toArray, List.set_cons_zero, List.set_cons_succ, i64_w, i32_w]
                              rfl
                            refine take_ (i := 13) (N := some 51) (v := ?_) (a' := ?_) #[true, true, true, true, true, true, true, true, true, true, true, true, true, true, false, false] rfl rfl (take_ofW HT_.out HW_.out (by kernel_rfl)) (fun _ _ _ h => h) (Or.inl ⟨by rfl, ?_⟩) hHeld ?_ ?_
                            rotate_left
                            · rintro w' ⟨s0, s1, s2, s3, s4, s5, s6⟩
                              go_simp
                              with_reducible rfl
                            rotate_left
                            · simp only [Act.put, List.setIfInBounds_toArray, List.set_cons_zero, List.set_cons_succ, i64_w, i32_w]
                              rfl
                            refine pure_ (i := 14) (N := some 52) (v := ?_) (a' := ?_) #[true, true, true, true, true, true, true, true, true, true, true, true, true, true, true, false] rfl rfl (any_of HT_.out (by kernel_rfl)) (fun _ _ _ h => h) (Or.inl ⟨by rfl, ?_⟩) ?_ ?_
                            rotate_left
                            · intro w'
                              go_simp
                              with_reducible rfl
                            rotate_left
                            · simp only [Act.put, List.setIfInBounds_toArray, List.set_cons_zero, List.set_cons_succ, i64_w, i32_w]
                              rfl
                            refine last_ (i := 15) (N := none) #[true, true, true, true, true, true, true, true, true, true, true, true, true, true, true, true] rfl rfl (one_of HT_.out (by kernel_rfl)) (by decide) (fun K hK => ?_)
                            refine skip_ (w1 := ?_) (by rfl) rfl ?_ ?_
                            rotate_left
                            · go_simp
                              rfl
                            refine hK.out _ _ ?_
                            clear hK K
                            refine done_ (done_of HT_.out (by kernel_rfl)) ?_
                            try go_wp2
                            go_roundg k1
                            case measure => have := HK1.out; omega
                            case rel => exact ⟨(wrap64 (x6_1 + 1)), (y378), (.slice (some ⟨go27, 0, none⟩) x376001_1.length co27), (by first | rfl | (simp; done) | (simp [*]; done)), H', ⟨by have := HK1.out; omega⟩, ⟨by (with_reducible repeat (first | apply Kd.R_alloc | apply Kd.R_drewN | apply Kd.R_drew)); exact HQ29.out⟩, ⟨by (with_reducible repeat (first | refine blk_drewN ?_ _ | refine blk_drew ?_ | refine blk_alloc ?_ _)); refine blk_far ?_ (by have h_ := Kd.R_ne HO_376001.out BK369.out (by decide); intro e_; exact h_ (by rw [e_]; rfl)) _; (with_reducible repeat (first | refine blk_drewN ?_ _ | refine blk_drew ?_ | refine blk_alloc ?_ _)); exact BK369.out⟩, ⟨by (with_reducible repeat (first | refine blk_drewN ?_ _ | refine blk_drew ?_ | refine blk_alloc ?_ _)); refine blk_far ?_ (by have h_ := Kd.R_ne HO_376001.out BK375.out (by decide); intro e_; exact h_ (by rw [e_]; rfl)) _; (with_reducible repeat (first | refine blk_drewN ?_ _ | refine blk_drew ?_ | refine blk_alloc ?_ _)); exact BK375.out⟩, ⟨by repeat (first | (with_reducible first | exact HB.out | apply below_alloc | apply pw_below_drewN | apply below_drew1 | refine below_set ?_ GB27.out | refine below_set ?_ GE369.out | refine below_set ?_ GE375.out) | exact HB.out)⟩⟩
                          · rw [if_neg c26] at H
                            exact absurd H (by simp)
                        · rw [if_neg c25] at H
                          exact absurd H (by simp)
                      · rw [if_neg c23] at H
                        exact absurd H (by simp)
                    · rw [if_neg c22] at H
                      have c22b0 : decide (x6_1 < (l0.length : Int)) = false := decide_eq_false c22
                      clear c22
                      simp only [Option.some.injEq, Prod.mk.injEq] at H
                      obtain ⟨rfl, rfl, rfl, rfl⟩ := H
                      have hnb30 := NB375_369.out
                      have hnc30 := NB369_375.out
                      have hcz31_0 : wr.cell? ⟨gb375, 0, none⟩ = some (.int .i32 (wrap32 ((rd_T139 l0 0).f0))) := (blk_cell BK375.out 0).trans rfl
                      have hcz31_1 : wr.cell? ⟨gb375, 1, none⟩ = some (u376001) := (blk_cell BK375.out 1).trans rfl
                      have hcz31_2 : wr.cell? ⟨gb375, 2, none⟩ = some (.string (⟨#[]⟩ : ByteArray)) := (blk_cell BK375.out 2).trans rfl
                      have hfz31_0 := blk_frozen BK375.out 0
                      have hfz31_1 := blk_frozen BK375.out 1
                      have hfz31_2 := blk_frozen BK375.out 2
                      have hcz32_0 : wr.cell? ⟨gb369, 0, none⟩ = some (.int .i32 0) := (blk_cell BK369.out 0).trans rfl
                      have hcz32_1 : wr.cell? ⟨gb369, 1, none⟩ = some (.slice none 0 0) := (blk_cell BK369.out 1).trans rfl
                      have hcz32_2 : wr.cell? ⟨gb369, 2, none⟩ = some (.string (⟨#[]⟩ : ByteArray)) := (blk_cell BK369.out 2).trans rfl
                      have hfz32_0 := blk_frozen BK369.out 0
                      have hfz32_1 := blk_frozen BK369.out 1
                      have hfz32_2 := blk_frozen BK369.out 2
                      obtain ⟨Ao33, co33, eo33⟩ := Kd.R_slice HO_376001.out
                      subst eo33
                      go_wp2
                      refine bodyPost_ret (results_ct rfl _ _ gb369 24 #[.int .i32 (wrap32 ((rd_T139 l0 0).f0)), .slice Ao33 x376001_1.length co33, .string (⟨#[]⟩ : ByteArray)] (0, 0) _ rfl (by (with_reducible repeat (first | refine blk_drewN ?_ _ | refine blk_drew ?_ | refine blk_alloc ?_ _)); refine blk_put (cs := #[.int .i32 (wrap32 ((rd_T139 l0 0).f0)), .slice Ao33 x376001_1.length co33, .string (⟨#[]⟩ : ByteArray)]) ?_ 2 _ rfl; (with_reducible repeat (first | refine blk_drewN ?_ _ | refine blk_drew ?_ | refine blk_alloc ?_ _)); refine blk_put (cs := #[.int .i32 (wrap32 ((rd_T139 l0 0).f0)), .slice none 0 0, .string (⟨#[]⟩ : ByteArray)]) ?_ 1 _ rfl; (with_reducible repeat (first | refine blk_drewN ?_ _ | refine blk_drew ?_ | refine blk_alloc ?_ _)); refine blk_put (cs := #[.int .i32 0, .slice none 0 0, .string (⟨#[]⟩ : ByteArray)]) ?_ 0 _ rfl; (with_reducible repeat (first | refine blk_drewN ?_ _ | refine blk_drew ?_ | refine blk_alloc ?_ _)); exact BK369.out) Tryd.underlying24 rfl (by kernel_rfl)) rfl ?_
                      exact ⟨_, by first | rfl | (simp [errW_none, errW_some] <;> rfl) | (simp only [← hji9, ← hji12]; first | rfl | (simp [errW_none, errW_some] <;> rfl)) | (simp [*, errW_none, errW_some] <;> rfl), by (with_reducible repeat (first | apply Kd.R_alloc | apply Kd.R_drewN | apply Kd.R_drew)); exact Kd.R_mono (Kd.R_far (p := ⟨gb369, 2, none⟩) (Kd.R_far (p := ⟨gb369, 1, none⟩) (Kd.R_far (p := ⟨gb369, 0, none⟩) (Kd.R_types HO_376001.out BK369.out (by decide)) (fun _ hk => hk.2) (.int .i32 (wrap32 ((rd_T139 l0 0).f0)))) (fun _ hk => hk.2) (.slice Ao33 x376001_1.length co33)) (fun _ hk => hk.2) (.string (⟨#[]⟩ : ByteArray))) (fun _ hk => trivial), by repeat (first | (with_reducible first | exact HB.out | apply below_alloc | apply pw_below_drewN | apply below_drew1 | refine below_set ?_ GE369.out | refine below_set ?_ GE375.out) | exact HB.out)⟩
              · rw [if_neg c14] at H
                exact absurd H (by simp)
            · rw [if_neg c13] at H
              exact absurd H (by simp)
          · rw [if_neg c11] at H
            exact absurd H (by simp)
        · rw [if_neg c10] at H
          exact absurd H (by simp)
    · rw [if_neg c5] at H
      exact absurd H (by simp)

end Go.Proofs.YtcmghblegllmlaaDoor.PMerge
