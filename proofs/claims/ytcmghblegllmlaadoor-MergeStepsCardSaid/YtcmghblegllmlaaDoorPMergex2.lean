-- Made by a program of this session, after the guide's print, out of the translation. Lean checks it.
import Derived.Test.YtcmghblegllmlaaDoorPMergex0
import Derived.Test.YtcmghblegllmlaaDoorPMergex1
namespace Go.Proofs.YtcmghblegllmlaaDoor.PMerge
open Go.RowKit Go.Proofs.YtcmghblegllmlaaDoorW.PrintWords Go.Proofs.YtcmghblegllmlaaDoorW.PrintLast Go.Proofs.YtcmghblegllmlaaDoorW.PrintMore
attribute [local go_sem] max2_int min2_int max_two min_two max_three min_three max_four min_four   -- for this text's walks alone
set_option linter.unusedVariables false
set_option linter.unusedSimpArgs false

/-! ### merge_count_down: function 35 -/
def merge_count_down.l0 : Nat → Int → List Int → Int → Int → Bool → Int → List Int → Int → List Int → Option (Int × List Int × Bool)
  | 0, _, _, _, _, _, _, _, _, _ => none
  | k + 1, x2, x36, x37, x38, x1000, x117000, x117001, x127000, x127001 => if x38 < x37 then (if 0 ≤ x38 then (if x38 < (x36.length : Int) then (if 0 ≤ x2 then (if 0 ≤ (wrap64 ((shr .i64 (wrap64 (x117000 + x38)) x2) - x127000)) then (if (wrap64 ((shr .i64 (wrap64 (x117000 + x38)) x2) - x127000)) < (x127001.length : Int) then ((merge_count_plus.f x1000 (rd x127001 (wrap64 ((shr .i64 (wrap64 (x117000 + x38)) x2) - x127000))) (rd x36 x38)).bind fun bt129 => (merge_count_down.l0 k x2 x36 x37 (wrap64 (x38 + 1)) bt129.2 x117000 x117001 x127000 (x127001.set ((wrap64 ((shr .i64 (wrap64 (x117000 + x38)) x2) - x127000)) : Int).toNat bt129.1))) else (none)) else (none)) else (none)) else (none)) else (none)) else (some (x127000, x127001, x1000))
def merge_count_down.f (k : Nat) (s0_0 : Bool) (a1_0 : Int) (l1_1 : List Int) (a2 : Int) : Option (Int × List Int × Bool) := (merge_side_trimmed.f k a1_0 l1_1).bind fun bt118 => (if (bt118.2.length : Int) = 0 then (some (bt118.1, bt118.2, s0_0)) else (if 0 ≤ a2 then ((merge_side_end.f bt118.1 bt118.2).bind fun t122 => (if 0 ≤ (wrap64 ((wrap64 ((shr .i64 (wrap64 (t122 - 1)) a2) - (shr .i64 bt118.1 a2))) + 1)) then (if (wrap64 ((wrap64 ((shr .i64 (wrap64 (t122 - 1)) a2) - (shr .i64 bt118.1 a2))) + 1) : Int).toNat ≤ 35184372088832 then (merge_count_down.l0 k a2 bt118.2 (bt118.2.length : Int) 0 s0_0 bt118.1 bt118.2 (shr .i64 bt118.1 a2) (List.replicate (wrap64 ((wrap64 ((shr .i64 (wrap64 (t122 - 1)) a2) - (shr .i64 bt118.1 a2))) + 1) : Int).toNat 0)) else (none)) else (none))) else (none)))
theorem merge_count_down.mono_l : ∀ k, (∀ y0 y1 y2 y3 y4 y5 y6 y7 y8, LeO (merge_count_down.l0 k y0 y1 y2 y3 y4 y5 y6 y7 y8) (merge_count_down.l0 (k + 1) y0 y1 y2 y3 y4 y5 y6 y7 y8))
  | 0 => fun _ _ _ _ _ _ _ _ _ r h => by simp [merge_count_down.l0] at h
  | k + 1 => by
    have ih0 := merge_count_down.mono_l k
    · intro y0 y1 y2 y3 y4 y5 y6 y7 y8
      unfold merge_count_down.l0
      repeat' first
      | (with_reducible exact ih0 _ _ _ _ _ _ _ _ _)
      | (with_reducible exact merge_side_trimmed.mono _ _ _)
      | (with_reducible exact LeO.refl _)
      | (with_reducible exact LeO.none _)
      | (with_reducible refine LeO.ite ?_ ?_)
      | (with_reducible refine LeO.bind ?_ (fun _ => ?_))
      | exact ih0 _ _ _ _ _ _ _ _ _
      | exact merge_side_trimmed.mono _ _ _
      | exact LeO.none _
      | refine LeO.ite ?_ ?_
      | refine LeO.bind ?_ (fun _ => ?_)
theorem merge_count_down.mono : ∀ a0 a1 a2 a3 k, LeO (merge_count_down.f k a0 a1 a2 a3) (merge_count_down.f (k + 1) a0 a1 a2 a3) := by
  intro a0 a1 a2 a3 k
  have ih0 := merge_count_down.mono_l k
  unfold merge_count_down.f
  repeat' first
      | (with_reducible exact ih0 _ _ _ _ _ _ _ _ _)
      | (with_reducible exact merge_side_trimmed.mono _ _ _)
      | (with_reducible exact LeO.refl _)
      | (with_reducible exact LeO.none _)
      | (with_reducible refine LeO.ite ?_ ?_)
      | (with_reducible refine LeO.bind ?_ (fun _ => ?_))
      | exact ih0 _ _ _ _ _ _ _ _ _
      | exact merge_side_trimmed.mono _ _ _
      | exact LeO.none _
      | refine LeO.ite ?_ ?_
      | refine LeO.bind ?_ (fun _ => ?_)
def merge_count_down.T4 : Bool × List (List Nat × List Nat) := (true, [([], []), ([0], [0]), ([], []), ([1, 2], [1, 2]), ([], []), ([4], [4]), ([5], [5]), ([], []), ([6, 7], [6, 7]), ([], []), ([9], [9]), ([], []), ([10, 11], [10, 11]), ([8, 12], [8, 12]), ([13], [13]), ([14, 14], [14]), ([3, 15], [3, 15]), ([], []), ([17, 16, 5, 0, 1, 2, 3, 4, 5, 6, 7, 8, 9, 10, 11, 12, 13, 14, 15, 16, 17], [16, 17])])
def merge_count_down.B4 : List Nat := [0, 1, 0, 7, 0, 16, 48, 0, 240, 0, 512, 0, 3584, 8176, 16368, 32752, 65535, 0, 262143]
theorem merge_count_down.tab4 : rtab .any (opsOf Tryd.f35 4) = merge_count_down.T4 := by kernel_rfl
theorem merge_count_down.bits4 : waitsOk merge_count_down.T4.2 merge_count_down.B4 = true := by kernel_rfl
def merge_count_down.T8 : Bool × List (List Nat × List Nat) := (true, [([], []), ([0], [0]), ([], []), ([1, 2], [1, 2]), ([], []), ([3, 4], [3, 4]), ([], []), ([6], [6]), ([5, 7], [5, 7]), ([8, 0, 1, 2, 3, 4, 5, 6, 7, 8], [8])])
def merge_count_down.B8 : List Nat := [0, 1, 0, 7, 0, 31, 0, 64, 255, 511]
theorem merge_count_down.tab8 : rtab .any (opsOf Tryd.f35 8) = merge_count_down.T8 := by kernel_rfl
theorem merge_count_down.bits8 : waitsOk merge_count_down.T8.2 merge_count_down.B8 = true := by kernel_rfl
def merge_count_down.T9 : Bool × List (List Nat × List Nat) := (true, [([], []), ([0], [0]), ([], []), ([], []), ([], []), ([4], [4]), ([], []), ([5, 6], [5, 6]), ([7], [7]), ([], []), ([3, 8, 9], [3, 8, 9]), ([1, 2, 0, 1, 2, 3, 4, 5, 6, 7, 8, 9, 10], [1, 2]), ([11, 10, 10, 0, 1, 2, 3, 4, 5, 6, 7, 8, 9, 10], [10, 11])])
def merge_count_down.B9 : List Nat := [0, 1, 0, 0, 0, 16, 0, 112, 240, 0, 1016, 2047, 4095]
theorem merge_count_down.tab9 : rtab .any (opsOf Tryd.f35 9) = merge_count_down.T9 := by kernel_rfl
theorem merge_count_down.bits9 : waitsOk merge_count_down.T9.2 merge_count_down.B9 = true := by kernel_rfl
set_option maxHeartbeats 8000000 in
set_option maxRecDepth 100000 in
theorem merge_count_down.calls (k : Nat) (g : Nat) (s0_0 : Bool) (a1_0 : Int) (P1_1_ : Nat → Prop) (A1_1 : Option Addr) (c1_1 : Nat) (l1_1 : List Int) (a2 : Int) (r1 : Int) (r2 : List Int) (r3 : Bool) (w0 w : World) (hI : IsS80 w0 w g s0_0) (hB : Below w0.heap.size w0 w) (hs1_1 : Kd.V (Kd.int .u64) 41 w w.heap.size (fun k_ => P1_1_ k_ ∧ k_ ≠ g) (.slice A1_1 l1_1.length c1_1) l1_1) (h : merge_count_down.f k s0_0 a1_0 l1_1 a2 = some (r1, r2, r3)) :
    Calls Tryd.prog 35 #[.pointer (some ⟨g, 0, none⟩), .agg #[.int .i64 a1_0, .slice A1_1 l1_1.length c1_1], .int .i64 a2] w fun e w' => ∃ v1_ : Value, e = .returned (.agg #[.int .i64 r1, v1_]) ∧ Kd.V (Kd.int .u64) 41 w' w.heap.size (fun k_ => (P1_1_ k_ ∨ w.heap.size ≤ k_)) v1_ r2 ∧ IsS80 w0 w' g r3 ∧ Below w0.heap.size w0 w' ∧ KeepBut w w' g none := by
  have hu82 := Tryd.underlying82
  have HO1_1 := Aside0.mk (show Kd.V (Kd.int .u64) 41 w w.heap.size (fun k_ => (P1_1_ k_ ∨ w.heap.size ≤ k_) ∧ k_ ≠ g) (.slice A1_1 l1_1.length c1_1) l1_1 from Kd.V_mono hs1_1 (fun k_ hk => ⟨.inl hk.1, hk.2⟩))
  have HI0 := Aside0.mk hI
  have HK := Aside0.mk (KeepBut.refl w g none)
  have HL := Aside0.mk hB.size
  clear hI
  have HW0 := Aside0.mk hB.size
  have HB := Aside0.mk hB
  clear hB
  have H : ((merge_side_trimmed.f k a1_0 l1_1).bind fun bt118 => (if (bt118.2.length : Int) = 0 then (some (bt118.1, bt118.2, s0_0)) else (if 0 ≤ a2 then ((merge_side_end.f bt118.1 bt118.2).bind fun t122 => (if 0 ≤ (wrap64 ((wrap64 ((shr .i64 (wrap64 (t122 - 1)) a2) - (shr .i64 bt118.1 a2))) + 1)) then (if (wrap64 ((wrap64 ((shr .i64 (wrap64 (t122 - 1)) a2) - (shr .i64 bt118.1 a2))) + 1) : Int).toNat ≤ 35184372088832 then (merge_count_down.l0 k a2 bt118.2 (bt118.2.length : Int) 0 s0_0 bt118.1 bt118.2 (shr .i64 bt118.1 a2) (List.replicate (wrap64 ((wrap64 ((shr .i64 (wrap64 (t122 - 1)) a2) - (shr .i64 bt118.1 a2))) + 1) : Int).toNat 0)) else (none)) else (none))) else (none)))) = some (r1, r2, r3) := h
  clear h
  replace H := Option.bind_eq_some_iff.mp H
  obtain ⟨⟨t118, t119⟩, A40, H⟩ := H
  replace H : (if (t119.length : Int) = 0 then (some (t118, t119, s0_0)) else (if 0 ≤ a2 then ((merge_side_end.f t118 t119).bind fun t122 => (if 0 ≤ (wrap64 ((wrap64 ((shr .i64 (wrap64 (t122 - 1)) a2) - (shr .i64 t118 a2))) + 1)) then (if (wrap64 ((wrap64 ((shr .i64 (wrap64 (t122 - 1)) a2) - (shr .i64 t118 a2))) + 1) : Int).toNat ≤ 35184372088832 then (merge_count_down.l0 k a2 t119 (t119.length : Int) 0 s0_0 t118 t119 (shr .i64 t118 a2) (List.replicate (wrap64 ((wrap64 ((shr .i64 (wrap64 (t122 - 1)) a2) - (shr .i64 t118 a2))) + 1) : Int).toNat 0)) else (none)) else (none))) else (none))) = some (r1, r2, r3) := H
  have A4 := Aside0.mk A40
  clear A40
  by_cases c5 : (t119.length : Int) = 0
  · rw [if_pos c5] at H
    have c5b0 : ((t119.length : Int) == 0) = true := beq_iff_eq.mpr c5
    have c5b1 : ((t119.length : Int) != 0) = false := bne_eq_false_iff_eq.mpr c5
    clear c5
    simp only [Option.some.injEq, Prod.mk.injEq] at H
    obtain ⟨rfl, rfl, rfl⟩ := H
    go_enter Tryd.func35, Tryd.ntmps35
    go_wp2_with (first | ((with_reducible refine gate_dst (N := 4) rfl ?_); refine box_event ?hg (N := 4) ?hd (cs := #[.int .i64 a1_0, .slice A1_1 l1_1.length c1_1]) (t := 82) ?hr ?_; (case hd => rfl); (case hg => rfl); (case hr => first | (go_simp; done) | (go_simp; rfl)); intro gb116 hg w6 hbox hb; have n0_ := Aside0.mk (Kd.V_below (Kd.V_elderB (by (with_reducible repeat (first | apply Kd.V_alloc | apply Kd.V_drewN | apply Kd.V_drew)); exact HO1_1.out) gb116 (Nat.le_of_eq hg.symm)) hb); have n1_ := Aside0.mk (IsS80.below (by repeat (first | (with_reducible first | exact HI0.out | apply IsS80.alloc | apply IsS80.drewN | apply IsS80.drew | apply IsS80.set_0) | exact HI0.out)) hb); have n2_ := Aside0.mk (KeepBut.trans (by repeat (first | (with_reducible first | exact HK.out | apply KeepBut.set_ | apply keep_drewN | apply keep_drew | apply keep_alloc) | exact HK.out)) (KeepBut.of_below hb g none) (.inl rfl)); have n3_ := Aside0.mk (below_step (by repeat (first | (with_reducible first | exact HB.out | apply below_alloc | apply pw_below_drewN | apply below_drew1 | refine below_set ?_ (IsS80.ge HI0.out)) | exact HB.out)) hb); have n4_ := Aside0.mk (hbox); have n5_ := Aside0.mk ((by rw [hg]; exact (keep_size (w := w) (g := g) (row := none) (by repeat (first | (with_reducible first | exact HK.out | apply KeepBut.set_ | apply keep_drewN | apply keep_drew | apply keep_alloc) | exact HK.out))) : w.heap.size ≤ gb116)); have n6_ := Aside0.mk ((Nat.le_trans HW0.out (by rw [hg]; exact (keep_size (w := w) (g := g) (row := none) (by repeat (first | (with_reducible first | exact HK.out | apply KeepBut.set_ | apply keep_drewN | apply keep_drew | apply keep_alloc) | exact HK.out))) : w.heap.size ≤ gb116) : w0.heap.size ≤ gb116)); have n7_ := Aside0.mk ((by rw [hg]; exact Nat.ne_of_lt (IsS80.lt (show IsS80 w0 _ g s0_0 from by repeat (first | (with_reducible first | exact HI0.out | apply IsS80.alloc | apply IsS80.drewN | apply IsS80.drew | apply IsS80.set_0) | exact HI0.out))) : g ≠ gb116)); have n8_ := Aside0.mk ((by rw [hg]; exact Nat.ne_of_gt (IsS80.lt (show IsS80 w0 _ g s0_0 from by repeat (first | (with_reducible first | exact HI0.out | apply IsS80.alloc | apply IsS80.drewN | apply IsS80.drew | apply IsS80.set_0) | exact HI0.out))) : gb116 ≠ g)); clear HO1_1; clear HI0; clear HK; clear HB; have HO1_1 := n0_; have HI0 := n1_; have HK := n2_; have HB := n3_; have BK116 := n4_; have GW116 := n5_; have GE116 := n6_; have NB0_116 := n7_; have NB116_0 := n8_; clear n0_ n1_ n2_ n3_ n4_ n5_ n6_ n7_ n8_; clear hb hbox hg) | ((with_reducible refine gate_dst (N := 6) rfl ?_); refine box_event ?hg (N := 6) ?hd (cs := #[.int .i64 0, .slice none 0 0]) (t := 82) ?hr ?_; (case hd => rfl); (case hg => rfl); (case hr => first | (go_simp; done) | (go_simp; rfl)); intro gb117 hg w7 hbox hb; have n0_ := Aside0.mk (Kd.V_below (Kd.V_elderB (by (with_reducible repeat (first | apply Kd.V_alloc | apply Kd.V_drewN | apply Kd.V_drew)); exact HO1_1.out) gb117 (Nat.le_of_eq hg.symm)) hb); have n1_ := Aside0.mk (IsS80.below (by repeat (first | (with_reducible first | exact HI0.out | apply IsS80.alloc | apply IsS80.drewN | apply IsS80.drew | apply IsS80.set_0 | refine IsS80.far ?_ NB0_116.out _) | exact HI0.out)) hb); have n2_ := Aside0.mk (blk_below (g := gb116) (o := .cells #[.int .i64 a1_0, .slice A1_1 l1_1.length c1_1] 82 (0, 0)) (by (with_reducible repeat (first | refine blk_drewN ?_ _ | refine blk_drew ?_ | refine blk_alloc ?_ _)); exact BK116.out) hb); have n3_ := Aside0.mk (KeepBut.trans (by repeat (first | (with_reducible first | exact HK.out | apply KeepBut.set_ | apply keep_drewN | apply keep_drew | apply keep_alloc | refine keep_far ?_ GW116.out _) | exact HK.out)) (KeepBut.of_below hb g none) (.inl rfl)); have n4_ := Aside0.mk (below_step (by repeat (first | (with_reducible first | exact HB.out | apply below_alloc | apply pw_below_drewN | apply below_drew1 | refine below_set ?_ (IsS80.ge HI0.out) | refine below_set ?_ GE116.out) | exact HB.out)) hb); have n5_ := Aside0.mk (hbox); have n6_ := Aside0.mk ((by rw [hg]; exact (keep_size (w := w) (g := g) (row := none) (by repeat (first | (with_reducible first | exact HK.out | apply KeepBut.set_ | apply keep_drewN | apply keep_drew | apply keep_alloc | refine keep_far ?_ GW116.out _) | exact HK.out))) : w.heap.size ≤ gb117)); have n7_ := Aside0.mk ((Nat.le_trans HW0.out (by rw [hg]; exact (keep_size (w := w) (g := g) (row := none) (by repeat (first | (with_reducible first | exact HK.out | apply KeepBut.set_ | apply keep_drewN | apply keep_drew | apply keep_alloc | refine keep_far ?_ GW116.out _) | exact HK.out))) : w.heap.size ≤ gb117) : w0.heap.size ≤ gb117)); have n8_ := Aside0.mk ((by rw [hg]; exact Nat.ne_of_lt (blk_lt (g := gb116) (o := .cells #[.int .i64 a1_0, .slice A1_1 l1_1.length c1_1] 82 (0, 0)) (by (with_reducible repeat (first | refine blk_drewN ?_ _ | refine blk_drew ?_ | refine blk_alloc ?_ _)); exact BK116.out)) : gb116 ≠ gb117)); have n9_ := Aside0.mk ((by rw [hg]; exact Nat.ne_of_gt (blk_lt (g := gb116) (o := .cells #[.int .i64 a1_0, .slice A1_1 l1_1.length c1_1] 82 (0, 0)) (by (with_reducible repeat (first | refine blk_drewN ?_ _ | refine blk_drew ?_ | refine blk_alloc ?_ _)); exact BK116.out)) : gb117 ≠ gb116)); have n10_ := Aside0.mk ((by rw [hg]; exact Nat.ne_of_lt (IsS80.lt (show IsS80 w0 _ g s0_0 from by repeat (first | (with_reducible first | exact HI0.out | apply IsS80.alloc | apply IsS80.drewN | apply IsS80.drew | apply IsS80.set_0 | refine IsS80.far ?_ NB0_116.out _) | exact HI0.out))) : g ≠ gb117)); have n11_ := Aside0.mk ((by rw [hg]; exact Nat.ne_of_gt (IsS80.lt (show IsS80 w0 _ g s0_0 from by repeat (first | (with_reducible first | exact HI0.out | apply IsS80.alloc | apply IsS80.drewN | apply IsS80.drew | apply IsS80.set_0 | refine IsS80.far ?_ NB0_116.out _) | exact HI0.out))) : gb117 ≠ g)); clear HO1_1; clear HI0; clear BK116; clear HK; clear HB; have HO1_1 := n0_; have HI0 := n1_; have BK116 := n2_; have HK := n3_; have HB := n4_; have BK117 := n5_; have GW117 := n6_; have GE117 := n7_; have NB116_117 := n8_; have NB117_116 := n9_; have NB0_117 := n10_; have NB117_0 := n11_; clear n0_ n1_ n2_ n3_ n4_ n5_ n6_ n7_ n8_ n9_ n10_ n11_; clear hb hbox hg; have hnb8 := NB116_117.out; have hnc8 := NB117_116.out; have hnb9 := NB116_0.out; have hnc9 := NB0_116.out; have hcz10_0 : w7.cell? ⟨gb116, 0, none⟩ = some (.int .i64 a1_0) := (blk_cell BK116.out 0).trans rfl; have hcz10_1 : w7.cell? ⟨gb116, 1, none⟩ = some (.slice A1_1 l1_1.length c1_1) := (blk_cell BK116.out 1).trans rfl; have hfz10_0 := blk_frozen BK116.out 0; have hfz10_1 := blk_frozen BK116.out 1) | ((with_reducible refine gate_callee (f := 74) rfl ?_); refine goesL_ (some 12) rfl rfl Tryd.func74 (by kernel_rfl) rfl #[.agg #[.int .i64 a1_0, .slice A1_1 l1_1.length c1_1]] rfl (by (try simp only [List.map_toArray, List.map_cons, List.map_nil]); first | done | rfl | (simp only [List.length_drop, List.length_take]; rfl)) ?_; (with_reducible refine (merge_side_trimmed.calls k a1_0 (fun k_ => ((((P1_1_ k_ ∨ w.heap.size ≤ k_) ∧ k_ ≠ g) ∧ k_ ≠ gb116) ∧ k_ ≠ gb117)) _ _ l1_1 t118 t119 _ ?side1 A4.out).mono ?_); (case side1 => exact HO1_1.out); rintro e w11 ⟨v120, rfl, ho0, hb⟩; refine ⟨_, rfl, ?_⟩; have n0_ := Aside0.mk (Kd.V_below (by (with_reducible repeat (first | apply Kd.V_alloc | apply Kd.V_drewN | apply Kd.V_drew)); exact HO1_1.out) hb); have n1_ := Aside0.mk (Kd.V_lower (Kd.V_mono (ok' := fun k_ => (P1_1_ k_ ∨ w.heap.size ≤ k_) ∧ k_ ≠ gb116 ∧ k_ ≠ gb117 ∧ k_ ≠ g) ho0 (fun k_ hk_ => ⟨Or.elim hk_ (fun hs_ => hs_.1.1.1) (fun hn_ => (.inr (Nat.le_trans (keep_size (w := w) (g := g) (row := none) (by repeat (first | (with_reducible first | exact HK.out | apply KeepBut.set_ | apply keep_drewN | apply keep_drew | apply keep_alloc | refine keep_far ?_ GW116.out _ | refine keep_far ?_ GW117.out _) | exact HK.out))) hn_))), Or.elim hk_ (fun hs_ => hs_.1.2) (fun hn_ => (Kd.freshB (g := gb116) (o := .cells #[.int .i64 a1_0, .slice A1_1 l1_1.length c1_1] 82 (0, 0)) (by (with_reducible repeat (first | refine blk_drewN ?_ _ | refine blk_drew ?_ | refine blk_alloc ?_ _)); exact BK116.out) k_ hn_)), Or.elim hk_ (fun hs_ => hs_.2) (fun hn_ => (Kd.freshB (g := gb117) (o := .cells #[.int .i64 0, .slice none 0 0] 82 (0, 0)) (by (with_reducible repeat (first | refine blk_drewN ?_ _ | refine blk_drew ?_ | refine blk_alloc ?_ _)); exact BK117.out) k_ hn_)), Or.elim hk_ (fun hs_ => hs_.1.1.2) (fun hn_ => (IsS80.fresh (by repeat (first | (with_reducible first | exact HI0.out | apply IsS80.alloc | apply IsS80.drewN | apply IsS80.drew | apply IsS80.set_0 | refine IsS80.far ?_ NB0_116.out _ | refine IsS80.far ?_ NB0_117.out _) | exact HI0.out)) k_ hn_))⟩)) (keep_size (w := w) (g := g) (row := none) (by repeat (first | (with_reducible first | exact HK.out | apply KeepBut.set_ | apply keep_drewN | apply keep_drew | apply keep_alloc | refine keep_far ?_ GW116.out _ | refine keep_far ?_ GW117.out _) | exact HK.out)))); have n2_ := Aside0.mk (IsS80.below (by repeat (first | (with_reducible first | exact HI0.out | apply IsS80.alloc | apply IsS80.drewN | apply IsS80.drew | apply IsS80.set_0 | refine IsS80.far ?_ NB0_116.out _ | refine IsS80.far ?_ NB0_117.out _) | exact HI0.out)) hb); have n3_ := Aside0.mk (blk_below (g := gb116) (o := .cells #[.int .i64 a1_0, .slice A1_1 l1_1.length c1_1] 82 (0, 0)) (by (with_reducible repeat (first | refine blk_drewN ?_ _ | refine blk_drew ?_ | refine blk_alloc ?_ _)); exact BK116.out) hb); have n4_ := Aside0.mk (blk_below (g := gb117) (o := .cells #[.int .i64 0, .slice none 0 0] 82 (0, 0)) (by (with_reducible repeat (first | refine blk_drewN ?_ _ | refine blk_drew ?_ | refine blk_alloc ?_ _)); exact BK117.out) hb); have n5_ := Aside0.mk (KeepBut.trans (by repeat (first | (with_reducible first | exact HK.out | apply KeepBut.set_ | apply keep_drewN | apply keep_drew | apply keep_alloc | refine keep_far ?_ GW116.out _ | refine keep_far ?_ GW117.out _) | exact HK.out)) (KeepBut.of_below hb g none) (.inl rfl)); have n6_ := Aside0.mk (below_step (by repeat (first | (with_reducible first | exact HB.out | apply below_alloc | apply pw_below_drewN | apply below_drew1 | refine below_set ?_ (IsS80.ge HI0.out) | refine below_set ?_ GE116.out | refine below_set ?_ GE117.out) | exact HB.out)) hb); clear HO1_1; clear HI0; clear BK116; clear BK117; clear HK; clear HB; have HO1_1 := n0_; have HO121 := n1_; have HI0 := n2_; have BK116 := n3_; have BK117 := n4_; have HK := n5_; have HB := n6_; clear n0_ n1_ n2_ n3_ n4_ n5_ n6_; (try clear hb); (try clear hb2); (try clear hk); (try clear hi); (try clear ho0); have hcz12_0 : w11.cell? ⟨gb116, 0, none⟩ = some (.int .i64 a1_0) := (blk_cell BK116.out 0).trans rfl; have hcz12_1 : w11.cell? ⟨gb116, 1, none⟩ = some (.slice A1_1 l1_1.length c1_1) := (blk_cell BK116.out 1).trans rfl; have hfz12_0 := blk_frozen BK116.out 0; have hfz12_1 := blk_frozen BK116.out 1; obtain ⟨Ao13, co13, eo13⟩ := Kd.V_slice HO121.out; subst eo13; have hnb14 := NB117_0.out; have hnc14 := NB0_117.out; have hcz15_0 : w11.cell? ⟨gb117, 0, none⟩ = some (.int .i64 0) := (blk_cell BK117.out 0).trans rfl; have hcz15_1 : w11.cell? ⟨gb117, 1, none⟩ = some (.slice none 0 0) := (blk_cell BK117.out 1).trans rfl; have hfz15_0 := blk_frozen BK117.out 0; have hfz15_1 := blk_frozen BK117.out 1))
    refine bodyPost_ret (results_cell_row rfl _ _ gb117 82 #[.int .i64 t118, .slice Ao13 t119.length co13] (0, 0) _ rfl (by (with_reducible repeat (first | refine blk_drewN ?_ _ | refine blk_drew ?_ | refine blk_alloc ?_ _)); refine blk_put (cs := #[.int .i64 t118, .slice none 0 0]) ?_ 1 _ rfl; (with_reducible repeat (first | refine blk_drewN ?_ _ | refine blk_drew ?_ | refine blk_alloc ?_ _)); refine blk_put (cs := #[.int .i64 0, .slice none 0 0]) ?_ 0 _ rfl; (with_reducible repeat (first | refine blk_drewN ?_ _ | refine blk_drew ?_ | refine blk_alloc ?_ _)); refine blk_far ?_ NB117_116.out _; (with_reducible repeat (first | refine blk_drewN ?_ _ | refine blk_drew ?_ | refine blk_alloc ?_ _)); refine blk_far ?_ NB117_116.out _; (with_reducible repeat (first | refine blk_drewN ?_ _ | refine blk_drew ?_ | refine blk_alloc ?_ _)); exact BK117.out) Tryd.underlying82 rfl (by kernel_rfl)) rfl ?_
    exact ⟨_, by first | rfl | (simp [errW_none, errW_some] <;> rfl) | (simp [*, errW_none, errW_some] <;> rfl), by (with_reducible repeat (first | apply Kd.V_alloc | apply Kd.V_drewN | apply Kd.V_drew)); exact Kd.V_mono (Kd.V_far (p := ⟨gb117, 1, none⟩) (Kd.V_far (p := ⟨gb117, 0, none⟩) (Kd.V_far (p := ⟨gb116, 1, none⟩) (Kd.V_far (p := ⟨gb116, 0, none⟩) (Kd.V_mono (Kd.V_mono HO121.out (fun k_ hk => (⟨hk, hk.2.1⟩ : _ ∧ k_ ≠ gb116))) (fun k_ hk => (⟨hk, hk.1.2.2.1⟩ : _ ∧ k_ ≠ gb117))) (fun _ hk => hk.1.2) (.int .i64 t118)) (fun _ hk => hk.1.2) (.slice Ao13 t119.length co13)) (fun _ hk => hk.2) (.int .i64 t118)) (fun _ hk => hk.2) (.slice Ao13 t119.length co13)) (fun _ hk => hk.1.1.1), by repeat (first | (with_reducible first | exact HI0.out | apply IsS80.alloc | apply IsS80.drewN | apply IsS80.drew | apply IsS80.set_0 | refine IsS80.far ?_ NB0_116.out _ | refine IsS80.far ?_ NB0_117.out _) | exact HI0.out), by repeat (first | (with_reducible first | exact HB.out | apply below_alloc | apply pw_below_drewN | apply below_drew1 | refine below_set ?_ (IsS80.ge HI0.out) | refine below_set ?_ GE116.out | refine below_set ?_ GE117.out) | exact HB.out), by repeat (first | (with_reducible first | exact HK.out | apply KeepBut.set_ | apply keep_drewN | apply keep_drew | apply keep_alloc | refine keep_far ?_ GW116.out _ | refine keep_far ?_ GW117.out _) | exact HK.out)⟩
  · rw [if_neg c5] at H
    have c5b0 : ((t119.length : Int) == 0) = false := beq_eq_false_iff_ne.mpr c5
    have c5b1 : ((t119.length : Int) != 0) = true := bne_iff_ne.mpr c5
    have c5b2 : ¬ (t119 = []) := fun h_ => c5 (by rw [h_]; rfl)
    by_cases c16 : 0 ≤ a2
    · rw [if_pos c16] at H
      have c16b0 := eq_true c16
      have c16b1 : decide (0 ≤ a2) = true := decide_eq_true c16
      clear c16
      obtain ⟨ji17, hji17⟩ : ∃ j_ : Int, (shr .i64 t118 a2) = j_ := ⟨_, rfl⟩
      replace H : ((merge_side_end.f t118 t119).bind fun t122 => (if 0 ≤ (wrap64 ((wrap64 ((shr .i64 (wrap64 (t122 - 1)) a2) - (ji17))) + 1)) then (if (wrap64 ((wrap64 ((shr .i64 (wrap64 (t122 - 1)) a2) - (ji17))) + 1) : Int).toNat ≤ 35184372088832 then (merge_count_down.l0 k a2 t119 (t119.length : Int) 0 s0_0 t118 t119 ji17 (List.replicate (wrap64 ((wrap64 ((shr .i64 (wrap64 (t122 - 1)) a2) - (ji17))) + 1) : Int).toNat 0)) else (none)) else (none))) = some (r1, r2, r3) := by first | (rw [hji17] at H; exact H) | (simp only [hji17] at H ⊢; exact H)
      (try rw [hji17] at A4)
      have hji17_ : (t118 / 2 ^ min a2.toNat 64) = ji17 := hji17
      have hji17z : a2 ≤ 64 → (t118 / 2 ^ a2.toNat) = ji17 := shr_small hji17
      replace H := Option.bind_eq_some_iff.mp H
      obtain ⟨t122, A180, H⟩ := H
      replace H : (if 0 ≤ (wrap64 ((wrap64 ((shr .i64 (wrap64 (t122 - 1)) a2) - (ji17))) + 1)) then (if (wrap64 ((wrap64 ((shr .i64 (wrap64 (t122 - 1)) a2) - (ji17))) + 1) : Int).toNat ≤ 35184372088832 then (merge_count_down.l0 k a2 t119 (t119.length : Int) 0 s0_0 t118 t119 ji17 (List.replicate (wrap64 ((wrap64 ((shr .i64 (wrap64 (t122 - 1)) a2) - (ji17))) + 1) : Int).toNat 0)) else (none)) else (none)) = some (r1, r2, r3) := H
      have A18 := Aside0.mk A180
      clear A180
      have c19b0 := eq_true (of_decide_eq_true (by first | (with_reducible assumption) | assumption) : 0 ≤ a2)
      obtain ⟨ji20, hji20⟩ : ∃ j_ : Int, (shr .i64 (wrap64 (t122 - 1)) a2) = j_ := ⟨_, rfl⟩
      replace H : (if 0 ≤ (wrap64 ((wrap64 ((ji20) - (ji17))) + 1)) then (if (wrap64 ((wrap64 ((ji20) - (ji17))) + 1) : Int).toNat ≤ 35184372088832 then (merge_count_down.l0 k a2 t119 (t119.length : Int) 0 s0_0 t118 t119 ji17 (List.replicate (wrap64 ((wrap64 ((ji20) - (ji17))) + 1) : Int).toNat 0)) else (none)) else (none)) = some (r1, r2, r3) := by first | (rw [hji20] at H; exact H) | (simp only [hji20] at H ⊢; exact H)
      (try rw [hji20] at A4)
      (try rw [hji20] at A18)
      have hji20_ : ((wrap64 (t122 - 1)) / 2 ^ min a2.toNat 64) = ji20 := hji20
      have hji20z : a2 ≤ 64 → ((wrap64 (t122 - 1)) / 2 ^ a2.toNat) = ji20 := shr_small hji20
      have c21b0 := eq_true (of_decide_eq_true (by first | (with_reducible assumption) | assumption) : 0 ≤ a2)
      obtain ⟨ji23, hji23⟩ : ∃ j_ : Int, (wrap64 ((wrap64 ((ji20) - (ji17))) + 1)) = j_ := ⟨_, rfl⟩
      replace H : (if 0 ≤ (ji23) then (if (ji23 : Int).toNat ≤ 35184372088832 then (merge_count_down.l0 k a2 t119 (t119.length : Int) 0 s0_0 t118 t119 ji17 (List.replicate (ji23 : Int).toNat 0)) else (none)) else (none)) = some (r1, r2, r3) := by first | (rw [hji23] at H; exact H) | (simp only [hji23] at H ⊢; exact H)
      (try rw [hji23] at A4)
      (try rw [hji23] at A18)
      have hji23w : (IntKind.i64.wrap ((wrap64 ((ji20) - (ji17))) + 1)) = ji23 := (i64_w _).trans hji23
      by_cases c24 : 0 ≤ (ji23)
      · rw [if_pos c24] at H
        have c24b0 := eq_true c24
        have c24b1 : decide (0 ≤ (ji23)) = true := decide_eq_true c24
        clear c24
        by_cases c25 : (ji23 : Int).toNat ≤ 35184372088832
        · rw [if_pos c25] at H
          have c25b0 := eq_true c25
          have c25b1 : decide ((ji23 : Int).toNat ≤ 35184372088832) = true := decide_eq_true c25
          clear c25
          obtain ⟨y123, hy123⟩ : ∃ y_ : List Int, y_ = (List.replicate (ji23 : Int).toNat 0) := ⟨_, rfl⟩
          replace H : (merge_count_down.l0 k a2 t119 (t119.length : Int) 0 s0_0 t118 t119 ji17 y123) = some (r1, r2, r3) := by first | (rw [hy123]; with_reducible exact H) | (have H2_ := (Option.bind_some _ _).symm.trans H; rw [hy123]; with_reducible exact H2_) | (have H2_ := (Option.bind_some _ _).symm.trans H; with_reducible exact H2_) | with_reducible exact H | (rw [hy123]; exact H) | exact H
          have Ny123 := Aside0.mk hy123
          clear hy123
          have H' := Aside0.mk H
          clear H
          go_enter Tryd.func35, Tryd.ntmps35
          try go_wp2_with (first | ((with_reducible refine gate_dst (N := 4) rfl ?_); refine box_event ?hg (N := 4) ?hd (cs := #[.int .i64 a1_0, .slice A1_1 l1_1.length c1_1]) (t := 82) ?hr ?_; (case hd => rfl); (case hg => rfl); (case hr => first | (go_simp; done) | (go_simp; rfl)); intro gb116 hg w26 hbox hb; have n0_ := Aside0.mk (Kd.V_below (Kd.V_elderB (by (with_reducible repeat (first | apply Kd.V_alloc | apply Kd.V_drewN | apply Kd.V_drew)); exact HO1_1.out) gb116 (Nat.le_of_eq hg.symm)) hb); have n1_ := Aside0.mk (IsS80.below (by repeat (first | (with_reducible first | exact HI0.out | apply IsS80.alloc | apply IsS80.drewN | apply IsS80.drew | apply IsS80.set_0) | exact HI0.out)) hb); have n2_ := Aside0.mk (KeepBut.trans (by repeat (first | (with_reducible first | exact HK.out | apply KeepBut.set_ | apply keep_drewN | apply keep_drew | apply keep_alloc) | exact HK.out)) (KeepBut.of_below hb g none) (.inl rfl)); have n3_ := Aside0.mk (below_step (by repeat (first | (with_reducible first | exact HB.out | apply below_alloc | apply pw_below_drewN | apply below_drew1 | refine below_set ?_ (IsS80.ge HI0.out)) | exact HB.out)) hb); have n4_ := Aside0.mk (hbox); have n5_ := Aside0.mk ((by rw [hg]; exact (keep_size (w := w) (g := g) (row := none) (by repeat (first | (with_reducible first | exact HK.out | apply KeepBut.set_ | apply keep_drewN | apply keep_drew | apply keep_alloc) | exact HK.out))) : w.heap.size ≤ gb116)); have n6_ := Aside0.mk ((Nat.le_trans HW0.out (by rw [hg]; exact (keep_size (w := w) (g := g) (row := none) (by repeat (first | (with_reducible first | exact HK.out | apply KeepBut.set_ | apply keep_drewN | apply keep_drew | apply keep_alloc) | exact HK.out))) : w.heap.size ≤ gb116) : w0.heap.size ≤ gb116)); have n7_ := Aside0.mk ((by rw [hg]; exact Nat.ne_of_lt (IsS80.lt (show IsS80 w0 _ g s0_0 from by repeat (first | (with_reducible first | exact HI0.out | apply IsS80.alloc | apply IsS80.drewN | apply IsS80.drew | apply IsS80.set_0) | exact HI0.out))) : g ≠ gb116)); have n8_ := Aside0.mk ((by rw [hg]; exact Nat.ne_of_gt (IsS80.lt (show IsS80 w0 _ g s0_0 from by repeat (first | (with_reducible first | exact HI0.out | apply IsS80.alloc | apply IsS80.drewN | apply IsS80.drew | apply IsS80.set_0) | exact HI0.out))) : gb116 ≠ g)); clear HO1_1; clear HI0; clear HK; clear HB; have HO1_1 := n0_; have HI0 := n1_; have HK := n2_; have HB := n3_; have BK116 := n4_; have GW116 := n5_; have GE116 := n6_; have NB0_116 := n7_; have NB116_0 := n8_; clear n0_ n1_ n2_ n3_ n4_ n5_ n6_ n7_ n8_; clear hb hbox hg) | ((with_reducible refine gate_dst (N := 6) rfl ?_); refine box_event ?hg (N := 6) ?hd (cs := #[.int .i64 0, .slice none 0 0]) (t := 82) ?hr ?_; (case hd => rfl); (case hg => rfl); (case hr => first | (go_simp; done) | (go_simp; rfl)); intro gb117 hg w27 hbox hb; have n0_ := Aside0.mk (Kd.V_below (Kd.V_elderB (by (with_reducible repeat (first | apply Kd.V_alloc | apply Kd.V_drewN | apply Kd.V_drew)); exact HO1_1.out) gb117 (Nat.le_of_eq hg.symm)) hb); have n1_ := Aside0.mk (IsS80.below (by repeat (first | (with_reducible first | exact HI0.out | apply IsS80.alloc | apply IsS80.drewN | apply IsS80.drew | apply IsS80.set_0 | refine IsS80.far ?_ NB0_116.out _) | exact HI0.out)) hb); have n2_ := Aside0.mk (blk_below (g := gb116) (o := .cells #[.int .i64 a1_0, .slice A1_1 l1_1.length c1_1] 82 (0, 0)) (by (with_reducible repeat (first | refine blk_drewN ?_ _ | refine blk_drew ?_ | refine blk_alloc ?_ _)); exact BK116.out) hb); have n3_ := Aside0.mk (KeepBut.trans (by repeat (first | (with_reducible first | exact HK.out | apply KeepBut.set_ | apply keep_drewN | apply keep_drew | apply keep_alloc | refine keep_far ?_ GW116.out _) | exact HK.out)) (KeepBut.of_below hb g none) (.inl rfl)); have n4_ := Aside0.mk (below_step (by repeat (first | (with_reducible first | exact HB.out | apply below_alloc | apply pw_below_drewN | apply below_drew1 | refine below_set ?_ (IsS80.ge HI0.out) | refine below_set ?_ GE116.out) | exact HB.out)) hb); have n5_ := Aside0.mk (hbox); have n6_ := Aside0.mk ((by rw [hg]; exact (keep_size (w := w) (g := g) (row := none) (by repeat (first | (with_reducible first | exact HK.out | apply KeepBut.set_ | apply keep_drewN | apply keep_drew | apply keep_alloc | refine keep_far ?_ GW116.out _) | exact HK.out))) : w.heap.size ≤ gb117)); have n7_ := Aside0.mk ((Nat.le_trans HW0.out (by rw [hg]; exact (keep_size (w := w) (g := g) (row := none) (by repeat (first | (with_reducible first | exact HK.out | apply KeepBut.set_ | apply keep_drewN | apply keep_drew | apply keep_alloc | refine keep_far ?_ GW116.out _) | exact HK.out))) : w.heap.size ≤ gb117) : w0.heap.size ≤ gb117)); have n8_ := Aside0.mk ((by rw [hg]; exact Nat.ne_of_lt (blk_lt (g := gb116) (o := .cells #[.int .i64 a1_0, .slice A1_1 l1_1.length c1_1] 82 (0, 0)) (by (with_reducible repeat (first | refine blk_drewN ?_ _ | refine blk_drew ?_ | refine blk_alloc ?_ _)); exact BK116.out)) : gb116 ≠ gb117)); have n9_ := Aside0.mk ((by rw [hg]; exact Nat.ne_of_gt (blk_lt (g := gb116) (o := .cells #[.int .i64 a1_0, .slice A1_1 l1_1.length c1_1] 82 (0, 0)) (by (with_reducible repeat (first | refine blk_drewN ?_ _ | refine blk_drew ?_ | refine blk_alloc ?_ _)); exact BK116.out)) : gb117 ≠ gb116)); have n10_ := Aside0.mk ((by rw [hg]; exact Nat.ne_of_lt (IsS80.lt (show IsS80 w0 _ g s0_0 from by repeat (first | (with_reducible first | exact HI0.out | apply IsS80.alloc | apply IsS80.drewN | apply IsS80.drew | apply IsS80.set_0 | refine IsS80.far ?_ NB0_116.out _) | exact HI0.out))) : g ≠ gb117)); have n11_ := Aside0.mk ((by rw [hg]; exact Nat.ne_of_gt (IsS80.lt (show IsS80 w0 _ g s0_0 from by repeat (first | (with_reducible first | exact HI0.out | apply IsS80.alloc | apply IsS80.drewN | apply IsS80.drew | apply IsS80.set_0 | refine IsS80.far ?_ NB0_116.out _) | exact HI0.out))) : gb117 ≠ g)); clear HO1_1; clear HI0; clear BK116; clear HK; clear HB; have HO1_1 := n0_; have HI0 := n1_; have BK116 := n2_; have HK := n3_; have HB := n4_; have BK117 := n5_; have GW117 := n6_; have GE117 := n7_; have NB116_117 := n8_; have NB117_116 := n9_; have NB0_117 := n10_; have NB117_0 := n11_; clear n0_ n1_ n2_ n3_ n4_ n5_ n6_ n7_ n8_ n9_ n10_ n11_; clear hb hbox hg; have hnb28 := NB116_117.out; have hnc28 := NB117_116.out; have hnb29 := NB116_0.out; have hnc29 := NB0_116.out; have hcz30_0 : w27.cell? ⟨gb116, 0, none⟩ = some (.int .i64 a1_0) := (blk_cell BK116.out 0).trans rfl; have hcz30_1 : w27.cell? ⟨gb116, 1, none⟩ = some (.slice A1_1 l1_1.length c1_1) := (blk_cell BK116.out 1).trans rfl; have hfz30_0 := blk_frozen BK116.out 0; have hfz30_1 := blk_frozen BK116.out 1) | ((with_reducible refine gate_callee (f := 74) rfl ?_); refine goesL_ (some 12) rfl rfl Tryd.func74 (by kernel_rfl) rfl #[.agg #[.int .i64 a1_0, .slice A1_1 l1_1.length c1_1]] rfl (by (try simp only [List.map_toArray, List.map_cons, List.map_nil]); first | done | rfl | (simp only [List.length_drop, List.length_take]; rfl)) ?_; (with_reducible refine (merge_side_trimmed.calls k a1_0 (fun k_ => ((((P1_1_ k_ ∨ w.heap.size ≤ k_) ∧ k_ ≠ g) ∧ k_ ≠ gb116) ∧ k_ ≠ gb117)) _ _ l1_1 t118 t119 _ ?side1 A4.out).mono ?_); (case side1 => exact HO1_1.out); rintro e w31 ⟨v120, rfl, ho0, hb⟩; refine ⟨_, rfl, ?_⟩; have n0_ := Aside0.mk (Kd.V_below (by (with_reducible repeat (first | apply Kd.V_alloc | apply Kd.V_drewN | apply Kd.V_drew)); exact HO1_1.out) hb); have n1_ := Aside0.mk (Kd.V_lower (Kd.V_mono (ok' := fun k_ => (P1_1_ k_ ∨ w.heap.size ≤ k_) ∧ k_ ≠ gb116 ∧ k_ ≠ gb117 ∧ k_ ≠ g) ho0 (fun k_ hk_ => ⟨Or.elim hk_ (fun hs_ => hs_.1.1.1) (fun hn_ => (.inr (Nat.le_trans (keep_size (w := w) (g := g) (row := none) (by repeat (first | (with_reducible first | exact HK.out | apply KeepBut.set_ | apply keep_drewN | apply keep_drew | apply keep_alloc | refine keep_far ?_ GW116.out _ | refine keep_far ?_ GW117.out _) | exact HK.out))) hn_))), Or.elim hk_ (fun hs_ => hs_.1.2) (fun hn_ => (Kd.freshB (g := gb116) (o := .cells #[.int .i64 a1_0, .slice A1_1 l1_1.length c1_1] 82 (0, 0)) (by (with_reducible repeat (first | refine blk_drewN ?_ _ | refine blk_drew ?_ | refine blk_alloc ?_ _)); exact BK116.out) k_ hn_)), Or.elim hk_ (fun hs_ => hs_.2) (fun hn_ => (Kd.freshB (g := gb117) (o := .cells #[.int .i64 0, .slice none 0 0] 82 (0, 0)) (by (with_reducible repeat (first | refine blk_drewN ?_ _ | refine blk_drew ?_ | refine blk_alloc ?_ _)); exact BK117.out) k_ hn_)), Or.elim hk_ (fun hs_ => hs_.1.1.2) (fun hn_ => (IsS80.fresh (by repeat (first | (with_reducible first | exact HI0.out | apply IsS80.alloc | apply IsS80.drewN | apply IsS80.drew | apply IsS80.set_0 | refine IsS80.far ?_ NB0_116.out _ | refine IsS80.far ?_ NB0_117.out _) | exact HI0.out)) k_ hn_))⟩)) (keep_size (w := w) (g := g) (row := none) (by repeat (first | (with_reducible first | exact HK.out | apply KeepBut.set_ | apply keep_drewN | apply keep_drew | apply keep_alloc | refine keep_far ?_ GW116.out _ | refine keep_far ?_ GW117.out _) | exact HK.out)))); have n2_ := Aside0.mk (IsS80.below (by repeat (first | (with_reducible first | exact HI0.out | apply IsS80.alloc | apply IsS80.drewN | apply IsS80.drew | apply IsS80.set_0 | refine IsS80.far ?_ NB0_116.out _ | refine IsS80.far ?_ NB0_117.out _) | exact HI0.out)) hb); have n3_ := Aside0.mk (blk_below (g := gb116) (o := .cells #[.int .i64 a1_0, .slice A1_1 l1_1.length c1_1] 82 (0, 0)) (by (with_reducible repeat (first | refine blk_drewN ?_ _ | refine blk_drew ?_ | refine blk_alloc ?_ _)); exact BK116.out) hb); have n4_ := Aside0.mk (blk_below (g := gb117) (o := .cells #[.int .i64 0, .slice none 0 0] 82 (0, 0)) (by (with_reducible repeat (first | refine blk_drewN ?_ _ | refine blk_drew ?_ | refine blk_alloc ?_ _)); exact BK117.out) hb); have n5_ := Aside0.mk (KeepBut.trans (by repeat (first | (with_reducible first | exact HK.out | apply KeepBut.set_ | apply keep_drewN | apply keep_drew | apply keep_alloc | refine keep_far ?_ GW116.out _ | refine keep_far ?_ GW117.out _) | exact HK.out)) (KeepBut.of_below hb g none) (.inl rfl)); have n6_ := Aside0.mk (below_step (by repeat (first | (with_reducible first | exact HB.out | apply below_alloc | apply pw_below_drewN | apply below_drew1 | refine below_set ?_ (IsS80.ge HI0.out) | refine below_set ?_ GE116.out | refine below_set ?_ GE117.out) | exact HB.out)) hb); clear HO1_1; clear HI0; clear BK116; clear BK117; clear HK; clear HB; have HO1_1 := n0_; have HO121 := n1_; have HI0 := n2_; have BK116 := n3_; have BK117 := n4_; have HK := n5_; have HB := n6_; clear n0_ n1_ n2_ n3_ n4_ n5_ n6_; (try clear hb); (try clear hb2); (try clear hk); (try clear hi); (try clear ho0); have hcz32_0 : w31.cell? ⟨gb116, 0, none⟩ = some (.int .i64 a1_0) := (blk_cell BK116.out 0).trans rfl; have hcz32_1 : w31.cell? ⟨gb116, 1, none⟩ = some (.slice A1_1 l1_1.length c1_1) := (blk_cell BK116.out 1).trans rfl; have hfz32_0 := blk_frozen BK116.out 0; have hfz32_1 := blk_frozen BK116.out 1; obtain ⟨Ao33, co33, eo33⟩ := Kd.V_slice HO121.out; subst eo33))
          have n0_ : Aside0 (Kd.V (Kd.int .u64) 41 ((w31.setCell ⟨gb116, 0, none⟩ (.int .i64 t118)).setCell ⟨gb116, 1, none⟩ (.slice Ao33 t119.length co33)) w.heap.size (fun k_ => (P1_1_ k_ ∨ w.heap.size ≤ k_) ∧ k_ ≠ g ∧ k_ ≠ gb116 ∧ k_ ≠ gb117) (.slice A1_1 l1_1.length c1_1) l1_1) := ⟨by (with_reducible repeat (first | apply Kd.V_alloc | apply Kd.V_drewN | apply Kd.V_drew)); exact Kd.V_mono (Kd.V_far (p := ⟨gb116, 1, none⟩) (Kd.V_far (p := ⟨gb116, 0, none⟩) (Kd.V_mono HO1_1.out (fun k_ hk => (⟨hk, hk.1.2⟩ : _ ∧ k_ ≠ gb116))) (fun _ hk => hk.2) (.int .i64 t118)) (fun _ hk => hk.2) (.slice Ao33 t119.length co33)) (fun _ hk => ⟨hk.1.1.1.1, ⟨hk.1.1.1.2, ⟨hk.1.1.2, hk.1.2⟩⟩⟩)⟩
          have n1_ : Aside0 (Kd.V (Kd.int .u64) 41 ((w31.setCell ⟨gb116, 0, none⟩ (.int .i64 t118)).setCell ⟨gb116, 1, none⟩ (.slice Ao33 t119.length co33)) w.heap.size (fun k_ => (P1_1_ k_ ∨ w.heap.size ≤ k_) ∧ k_ ≠ gb116 ∧ k_ ≠ gb117 ∧ k_ ≠ g) (.slice Ao33 t119.length co33) t119) := ⟨by (with_reducible repeat (first | apply Kd.V_alloc | apply Kd.V_drewN | apply Kd.V_drew)); exact Kd.V_mono (Kd.V_far (p := ⟨gb116, 1, none⟩) (Kd.V_far (p := ⟨gb116, 0, none⟩) (Kd.V_mono HO121.out (fun k_ hk => (⟨hk, hk.2.1⟩ : _ ∧ k_ ≠ gb116))) (fun _ hk => hk.2) (.int .i64 t118)) (fun _ hk => hk.2) (.slice Ao33 t119.length co33)) (fun _ hk => ⟨hk.1.1, ⟨hk.1.2.1, ⟨hk.1.2.2.1, hk.1.2.2.2⟩⟩⟩)⟩
          have n2_ : Aside0 (((w31.setCell ⟨gb116, 0, none⟩ (.int .i64 t118)).setCell ⟨gb116, 1, none⟩ (.slice Ao33 t119.length co33)).heap[gb116]? = some (.cells #[.int .i64 t118, .slice Ao33 t119.length co33] 82 (0, 0))) := ⟨by (with_reducible repeat (first | refine blk_drewN ?_ _ | refine blk_drew ?_ | refine blk_alloc ?_ _)); refine blk_put (cs := #[.int .i64 t118, .slice A1_1 l1_1.length c1_1]) ?_ 1 _ rfl; (with_reducible repeat (first | refine blk_drewN ?_ _ | refine blk_drew ?_ | refine blk_alloc ?_ _)); refine blk_put (cs := #[.int .i64 a1_0, .slice A1_1 l1_1.length c1_1]) ?_ 0 _ rfl; (with_reducible repeat (first | refine blk_drewN ?_ _ | refine blk_drew ?_ | refine blk_alloc ?_ _)); exact BK116.out⟩
          have n3_ : Aside0 (((w31.setCell ⟨gb116, 0, none⟩ (.int .i64 t118)).setCell ⟨gb116, 1, none⟩ (.slice Ao33 t119.length co33)).heap[gb117]? = some (.cells #[.int .i64 0, .slice none 0 0] 82 (0, 0))) := ⟨by (with_reducible repeat (first | refine blk_drewN ?_ _ | refine blk_drew ?_ | refine blk_alloc ?_ _)); refine blk_far ?_ NB117_116.out _; (with_reducible repeat (first | refine blk_drewN ?_ _ | refine blk_drew ?_ | refine blk_alloc ?_ _)); refine blk_far ?_ NB117_116.out _; (with_reducible repeat (first | refine blk_drewN ?_ _ | refine blk_drew ?_ | refine blk_alloc ?_ _)); exact BK117.out⟩
          have n4_ : Aside0 (IsS80 w0 ((w31.setCell ⟨gb116, 0, none⟩ (.int .i64 t118)).setCell ⟨gb116, 1, none⟩ (.slice Ao33 t119.length co33)) g s0_0) := ⟨by repeat (first | (with_reducible first | exact HI0.out | apply IsS80.alloc | apply IsS80.drewN | apply IsS80.drew | apply IsS80.set_0 | refine IsS80.far ?_ NB0_116.out _ | refine IsS80.far ?_ NB0_117.out _) | exact HI0.out)⟩
          have n5_ : Aside0 (KeepBut w ((w31.setCell ⟨gb116, 0, none⟩ (.int .i64 t118)).setCell ⟨gb116, 1, none⟩ (.slice Ao33 t119.length co33)) g none) := ⟨by repeat (first | (with_reducible first | exact HK.out | apply KeepBut.set_ | apply keep_drewN | apply keep_drew | apply keep_alloc | refine keep_far ?_ GW116.out _ | refine keep_far ?_ GW117.out _) | exact HK.out)⟩
          have n6_ : Aside0 (Below w0.heap.size w0 ((w31.setCell ⟨gb116, 0, none⟩ (.int .i64 t118)).setCell ⟨gb116, 1, none⟩ (.slice Ao33 t119.length co33))) := ⟨by repeat (first | (with_reducible first | exact HB.out | apply below_alloc | apply pw_below_drewN | apply below_drew1 | refine below_set ?_ (IsS80.ge HI0.out) | refine below_set ?_ GE116.out | refine below_set ?_ GE117.out) | exact HB.out)⟩
          (try clear HO1_1)
          (try clear HO121)
          (try clear BK116)
          (try clear BK117)
          (try clear HI0)
          (try clear HK)
          (try clear HB)
          generalize ((w31.setCell ⟨gb116, 0, none⟩ (.int .i64 t118)).setCell ⟨gb116, 1, none⟩ (.slice Ao33 t119.length co33)) = w34 at n0_ n1_ n2_ n3_ n4_ n5_ n6_ ⊢
          have HO1_1 := n0_
          have HO121 := n1_
          have BK116 := n2_
          have BK117 := n3_
          have HI0 := n4_
          have HK := n5_
          have HB := n6_
          clear n0_ n1_ n2_ n3_ n4_ n5_ n6_
          have n0_ := Aside0.mk (Kd.V_drew HO1_1.out)
          have n1_ := Aside0.mk (Kd.V_drew HO121.out)
          have n2_ := Aside0.mk (blk_drew BK116.out)
          have n3_ := Aside0.mk (blk_drew BK117.out)
          have n4_ := Aside0.mk (IsS80.drew HI0.out)
          have n5_ := Aside0.mk (keep_drew HK.out)
          have n6_ := Aside0.mk (below_drew1 HB.out)
          clear HO1_1
          clear HO121
          clear BK116
          clear BK117
          clear HI0
          clear HK
          clear HB
          have HO1_1 := n0_
          have HO121 := n1_
          have BK116 := n2_
          have BK117 := n3_
          have HI0 := n4_
          have HK := n5_
          have HB := n6_
          clear n0_ n1_ n2_ n3_ n4_ n5_ n6_
          refine start_ (n := 19) (S := fun w' => w'.cell? ⟨gb116, 0, none⟩ = some (.int .i64 t118) ∧ w'.cell? ⟨gb116, 1, none⟩ = some (.slice Ao33 t119.length co33)) (ds := []) #[false, false, false, false, false, false, false, false, false, false, false, false, false, false, false, false, false, false, false] (by kernel_rfl) rfl rfl ⟨(blk_cell BK116.out 0).trans rfl, (blk_cell BK116.out 1).trans rfl⟩ (fun hHeld => ?_); refine with_tabW merge_count_down.tab4 merge_count_down.bits4 (fun HT_ HW_ => ?_)
          generalize w34.drew = w35 at HO1_1 HO121 BK116 BK117 HI0 HK HB hHeld ⊢
          refine pure_ (i := 0) (N := some 18) (v := ?_) (a' := ?_) #[true, false, false, false, false, false, false, false, false, false, false, false, false, false, false, false, false, false, false] rfl rfl (any_of HT_.out (by kernel_rfl)) (fun _ _ _ h => h) (Or.inl ⟨by rfl, ?_⟩) ?_ ?_
          rotate_left
          · intro w'
            go_simp
            with_reducible rfl
          rotate_left
          · simp only [Act.put, List.setIfInBounds_toArray, List.set_cons_zero, List.set_cons_succ, i64_w, i32_w]
            rfl
          refine pure_ (i := 2) (N := some 20) (v := ?_) (a' := ?_) #[true, false, true, false, false, false, false, false, false, false, false, false, false, false, false, false, false, false, false] rfl rfl (any_of HT_.out (by kernel_rfl)) (fun _ _ _ h => h) (Or.inl ⟨by rfl, ?_⟩) ?_ ?_
          rotate_left
          · intro w'
            go_simp
            with_reducible rfl
          rotate_left
          · simp only [Act.put, List.setIfInBounds_toArray, List.set_cons_zero, List.set_cons_succ, i64_w, i32_w]
            rfl
          refine pure_ (i := 7) (N := some 25) (v := ?_) (a' := ?_) #[true, false, true, false, false, false, false, true, false, false, false, false, false, false, false, false, false, false, false] rfl rfl (any_of HT_.out (by kernel_rfl)) (fun _ _ _ h => h) (Or.inl ⟨by rfl, ?_⟩) ?_ ?_
          rotate_left
          · intro w'
            go_simp
            with_reducible rfl
          rotate_left
          · simp only [Act.put, List.setIfInBounds_toArray, List.set_cons_zero, List.set_cons_succ, i64_w, i32_w]
            rfl
          refine pure_ (i := 9) (N := some 27) (v := ?_) (a' := ?_) #[true, false, true, false, false, false, false, true, false, true, false, false, false, false, false, false, false, false, false] rfl rfl (any_of HT_.out (by kernel_rfl)) (fun _ _ _ h => h) (Or.inl ⟨by rfl, ?_⟩) ?_ ?_
          rotate_left
          · intro w'
            go_simp
            with_reducible rfl
          rotate_left
          · simp only [Act.put, List.setIfInBounds_toArray, List.set_cons_zero, List.set_cons_succ, i64_w, i32_w]
            rfl
          refine pure_ (i := 11) (N := some 29) (v := ?_) (a' := ?_) #[true, false, true, false, false, false, false, true, false, true, false, true, false, false, false, false, false, false, false] rfl rfl (any_of HT_.out (by kernel_rfl)) (fun _ _ _ h => h) (Or.inl ⟨by rfl, ?_⟩) ?_ ?_
          rotate_left
          · intro w'
            go_simp
            with_reducible rfl
          rotate_left
          · simp only [Act.put, List.setIfInBounds_toArray, List.set_cons_zero, List.set_cons_succ, i64_w, i32_w]
            rfl
          refine take_ (i := 1) (N := some 19) (v := ?_) (a' := ?_) #[true, true, true, false, false, false, false, true, false, true, false, true, false, false, false, false, false, false, false] rfl rfl (take_ofW HT_.out HW_.out (by kernel_rfl)) (fun _ _ _ h => h) (Or.inl ⟨by rfl, ?_⟩) hHeld ?_ ?_
          rotate_left
          · rintro w' ⟨s0, s1⟩
            go_simp
            with_reducible rfl
          rotate_left
          · simp only [Act.put, List.setIfInBounds_toArray, List.set_cons_zero, List.set_cons_succ, i64_w, i32_w]
            rfl
          refine pure_ (i := 3) (N := some 21) (v := ?_) (a' := ?_) #[true, true, true, true, false, false, false, true, false, true, false, true, false, false, false, false, false, false, false] rfl rfl (any_of HT_.out (by kernel_rfl)) (fun _ _ _ h => h) (Or.inl ⟨by rfl, ?_⟩) ?_ ?_
          rotate_left
          · intro w'
            go_simp
            with_reducible rfl
          rotate_left
          · simp only [Act.put, List.setIfInBounds_toArray, List.set_cons_zero, List.set_cons_succ, i64_w, i32_w]
            rfl
          refine take_ (i := 4) (N := some 22) (v := ?_) (a' := ?_) #[true, true, true, true, true, false, false, true, false, true, false, true, false, false, false, false, false, false, false] rfl rfl (take_ofW HT_.out HW_.out (by kernel_rfl)) (fun _ _ _ h => h) (Or.inl ⟨by rfl, ?_⟩) hHeld ?_ ?_
          rotate_left
          · rintro w' ⟨s0, s1⟩
            go_simp
            with_reducible rfl
          rotate_left
          · simp only [Act.put, List.setIfInBounds_toArray, List.set_cons_zero, List.set_cons_succ, i64_w, i32_w]
            rfl
          refine take_ (i := 10) (N := some 28) (v := ?_) (a' := ?_) #[true, true, true, true, true, false, false, true, false, true, true, true, false, false, false, false, false, false, false] rfl rfl (take_ofW HT_.out HW_.out (by kernel_rfl)) (fun _ _ _ h => h) (Or.inl ⟨by rfl, ?_⟩) hHeld ?_ ?_
          rotate_left
          · rintro w' ⟨s0, s1⟩
            go_simp
            with_reducible rfl
          rotate_left
          · simp only [Act.put, List.setIfInBounds_toArray, List.set_cons_zero, List.set_cons_succ, i64_w, i32_w]
            rfl
          refine pure_ (i := 12) (N := some 30) (v := ?_) (a' := ?_) #[true, true, true, true, true, false, false, true, false, true, true, true, true, false, false, false, false, false, false] rfl rfl (any_of HT_.out (by kernel_rfl)) (fun _ _ _ h => h) (Or.inl ⟨by rfl, ?_⟩) ?_ ?_
          rotate_left
          · intro w'
            go_simp
            with_reducible rfl
          rotate_left
          · simp only [Act.put, List.setIfInBounds_toArray, List.set_cons_zero, List.set_cons_succ, i64_w, i32_w]
            rfl
          refine join_ (σ := Value × Nat) 1 #[true, true, true, true, true, true, true, true, true, true, true, true, true, true, true, true, true, true, false] (fun s_ => [(23, .int .i64 t122), (33, s_.1), (7, .pointer (some ⟨s_.2, 0, none⟩)), (24, .int .i64 (wrap64 (t122 - 1))), (26, .int .i64 ji20), (31, .int .i64 (wrap64 ((ji20) - (ji17)))), (32, .int .i64 ji23), (34, .agg #[.int .i64 ji17, s_.1])]) (fun s_ w' => (w'.cell? ⟨gb116, 0, none⟩ = some (.int .i64 t118) ∧ w'.cell? ⟨gb116, 1, none⟩ = some (.slice Ao33 t119.length co33)) ∧ (Kd.V (Kd.int .u64) 41 w' w.heap.size (fun k_ => (P1_1_ k_ ∨ w.heap.size ≤ k_) ∧ some k_ ≠ (s_.1 : Value).ownBlock ∧ k_ ≠ g ∧ k_ ≠ gb116 ∧ k_ ≠ gb117 ∧ k_ ≠ s_.2) (.slice Ao33 t119.length co33) t119) ∧ (Kd.R (Kd.int .u64) 41 w' w.heap.size (fun k_ => (w.heap.size ≤ k_)) s_.1 y123) ∧ (Kd.V (Kd.int .u64) 41 w' w.heap.size (fun k_ => (P1_1_ k_ ∨ w.heap.size ≤ k_) ∧ some k_ ≠ (s_.1 : Value).ownBlock ∧ k_ ≠ g ∧ k_ ≠ gb116 ∧ k_ ≠ gb117 ∧ k_ ≠ s_.2) (.slice A1_1 l1_1.length c1_1) l1_1) ∧ (w'.heap[gb116]? = some (.cells #[.int .i64 t118, .slice Ao33 t119.length co33] 82 (0, 0))) ∧ (w'.heap[gb117]? = some (.cells #[.int .i64 0, .slice none 0 0] 82 (0, 0))) ∧ (w'.heap[s_.2]? = some (.cells #[.int .i64 0, .slice none 0 0] 82 (0, 0))) ∧ (w.heap.size ≤ s_.2) ∧ (w0.heap.size ≤ s_.2) ∧ (g ≠ s_.2) ∧ (s_.2 ≠ g) ∧ (gb116 ≠ s_.2) ∧ (s_.2 ≠ gb116) ∧ (gb117 ≠ s_.2) ∧ (s_.2 ≠ gb117) ∧ (IsS80 w0 w' g s0_0) ∧ (KeepBut w w' g none) ∧ (Below w0.heap.size w0 w')) ?_ ?_
          rotate_left
          · intro hCont
            refine two_ (i := 5) (j := 17) (Ni := some 23) (Nj := some 7) #[true, true, true, true, true, true, false, true, false, true, true, true, true, false, false, false, false, false, false] #[true, true, true, true, true, false, false, true, false, true, true, true, true, false, false, false, false, true, false] rfl rfl rfl rfl (two_of HT_.out (by kernel_rfl)) (by decide) (by decide) (fun K hK => ?_) (fun K hK => ?_)
            · skip
              refine goes_ Tryd.func75 (by kernel_rfl) rfl #[.agg #[.int .i64 t118, .slice Ao33 t119.length co33]] (by rfl) rfl rfl (by (try simp only [List.map_toArray, List.map_cons, List.map_nil]); first | done | rfl | (simp only [List.length_drop, List.length_take]; rfl)) ?_
              with_reducible refine (merge_side_end.calls t118 _ _ t119 t122 _ ?side1 ?side2 A18.out).mono ?_
              (case side1 => repeat (first | exact (Kd.V_reads' HO121.out).2.2 | (with_reducible refine Kd.C_alloc ?_ _) | (with_reducible refine Kd.C_drewN ?_ _) | (with_reducible refine Kd.C_drew ?_)))
              (case side2 => exact (Kd.V_reads' HO121.out).2.1)
              rintro e w36 ⟨rfl, hb⟩
              refine ⟨_, rfl, ?_⟩
              have n0_ := Aside0.mk (Kd.V_below (by (with_reducible repeat (first | apply Kd.V_alloc | apply Kd.V_drewN | apply Kd.V_drew)); exact HO1_1.out) hb)
              have n1_ := Aside0.mk (Kd.V_below (by (with_reducible repeat (first | apply Kd.V_alloc | apply Kd.V_drewN | apply Kd.V_drew)); exact HO121.out) hb)
              have n2_ := Aside0.mk (IsS80.below (by repeat (first | (with_reducible first | exact HI0.out | apply IsS80.alloc | apply IsS80.drewN | apply IsS80.drew | apply IsS80.set_0 | refine IsS80.far ?_ NB0_116.out _ | refine IsS80.far ?_ NB0_117.out _) | exact HI0.out)) hb)
              have n3_ := Aside0.mk (blk_below (g := gb116) (o := .cells #[.int .i64 t118, .slice Ao33 t119.length co33] 82 (0, 0)) (by (with_reducible repeat (first | refine blk_drewN ?_ _ | refine blk_drew ?_ | refine blk_alloc ?_ _)); exact BK116.out) hb)
              have n4_ := Aside0.mk (blk_below (g := gb117) (o := .cells #[.int .i64 0, .slice none 0 0] 82 (0, 0)) (by (with_reducible repeat (first | refine blk_drewN ?_ _ | refine blk_drew ?_ | refine blk_alloc ?_ _)); exact BK117.out) hb)
              have n5_ := Aside0.mk (KeepBut.trans (by repeat (first | (with_reducible first | exact HK.out | apply KeepBut.set_ | apply keep_drewN | apply keep_drew | apply keep_alloc | refine keep_far ?_ GW116.out _ | refine keep_far ?_ GW117.out _) | exact HK.out)) (KeepBut.of_below hb g none) (.inl rfl))
              have n6_ := Aside0.mk (below_step (by repeat (first | (with_reducible first | exact HB.out | apply below_alloc | apply pw_below_drewN | apply below_drew1 | refine below_set ?_ (IsS80.ge HI0.out) | refine below_set ?_ GE116.out | refine below_set ?_ GE117.out) | exact HB.out)) hb)
              clear HO1_1
              clear HO121
              clear HI0
              clear BK116
              clear BK117
              clear HK
              clear HB
              have HO1_1 := n0_
              have HO121 := n1_
              have HI0 := n2_
              have BK116 := n3_
              have BK117 := n4_
              have HK := n5_
              have HB := n6_
              clear n0_ n1_ n2_ n3_ n4_ n5_ n6_
              (try clear hb)
              (try clear hb2)
              (try clear hk)
              (try clear hi)
              refine hK.out _ _ ⟨(blk_cell BK116.out 0).trans rfl, (blk_cell BK116.out 1).trans rfl⟩ (fun hHeld => ?_)
              clear hK K
              refine norm_ (a' := ?_) ?_ ?_
              rotate_left
              · show Act.put _ (some 23) _ = _
                simp only [Act.put, List.setIfInBounds_toArray, List.set_cons_zero, List.set_cons_succ, i64_w, i32_w]
                rfl
              refine pure_ (i := 6) (N := some 24) (v := ?_) (a' := ?_) #[true, true, true, true, true, true, true, true, false, true, true, true, true, false, false, false, false, false, false] rfl rfl (any_of HT_.out (by kernel_rfl)) (fun _ _ _ h => h) (Or.inl ⟨by rfl, ?_⟩) ?_ ?_
              rotate_left
              · intro w'
                go_simp
                with_reducible rfl
              rotate_left
              · simp only [Act.put, List.setIfInBounds_toArray, List.set_cons_zero, List.set_cons_succ, i64_w, i32_w]
                rfl
              refine pure_ (i := 8) (N := some 26) (v := ?_) (a' := ?_) #[true, true, true, true, true, true, true, true, true, true, true, true, true, false, false, false, false, false, false] rfl rfl (any_of HT_.out (by kernel_rfl)) (fun _ _ _ h => h) (Or.inl ⟨by rfl, ?_⟩) ?_ ?_
              rotate_left
              · intro w'
                go_simp
                with_reducible rfl
              rotate_left
              · simp only [Act.put, List.setIfInBounds_toArray, List.set_cons_zero, List.set_cons_succ, i64_w, i32_w]
                rfl
              refine pure_ (i := 13) (N := some 31) (v := ?_) (a' := ?_) #[true, true, true, true, true, true, true, true, true, true, true, true, true, true, false, false, false, false, false] rfl rfl (any_of HT_.out (by kernel_rfl)) (fun _ _ _ h => h) (Or.inl ⟨by rfl, ?_⟩) ?_ ?_
              rotate_left
              · intro w'
                go_simp
                with_reducible rfl
              rotate_left
              · simp only [Act.put, List.setIfInBounds_toArray, List.set_cons_zero, List.set_cons_succ, i64_w, i32_w]
                rfl
              refine pure_ (i := 14) (N := some 32) (v := ?_) (a' := ?_) #[true, true, true, true, true, true, true, true, true, true, true, true, true, true, true, false, false, false, false] rfl rfl (any_of HT_.out (by kernel_rfl)) (fun _ _ _ h => h) (Or.inl ⟨by rfl, ?_⟩) ?_ ?_
              rotate_left
              · intro w'
                go_simp
                with_reducible rfl
              rotate_left
              · simp only [Act.put, List.setIfInBounds_toArray, List.set_cons_zero, List.set_cons_succ, i64_w, i32_w]
                rfl
              refine two_ (i := 15) (j := 17) (Ni := some 33) (Nj := some 7) #[true, true, true, true, true, true, true, true, true, true, true, true, true, true, true, true, false, false, false] #[true, true, true, true, true, true, true, true, true, true, true, true, true, true, true, false, false, true, false] rfl rfl rfl rfl (two_of HT_.out (by kernel_rfl)) (by decide) (by decide) (fun K hK => ?_) (fun K hK => ?_)
              · skip
                refine Kd.R_make_step (Kd.int .u64) _ 41 (by rfl) (N := 33) rfl 22 _ _ rfl ji23 rfl rfl Tryd.underlying22 (.int .u64 0) 8 info41 rfl (by decide) (by omega) 0 (ok := fun _ => True) (okp := fun _ => True) rfl (fun _ hk => hk) trivial (of_decide_eq_true (by first | (with_reducible assumption) | assumption)) (Nat.le_trans (Nat.mul_le_mul_right _ (of_decide_eq_true (by first | (with_reducible assumption) | assumption) : ji23.toNat ≤ 35184372088832)) (by omega)) (Below.refl _ _) (Nat.le_refl _) ?_
                intro v124 w37 ho38 hb hg_ hnew_
                clear hg_ hnew_
                (first | rw [← Ny123.out] at ho38 | (simp only [Int.reduceToNat] at ho38; rw [← Ny123.out] at ho38))
                have n0_ := Aside0.mk (Kd.V_elder' (by (with_reducible repeat (first | apply Kd.V_alloc | apply Kd.V_drewN | apply Kd.V_drew)); exact HO1_1.out) (Kd.R_base ho38) hb)
                have n1_ := Aside0.mk (Kd.V_elder' (by (with_reducible repeat (first | apply Kd.V_alloc | apply Kd.V_drewN | apply Kd.V_drew)); exact HO121.out) (Kd.R_base ho38) hb)
                have n2_ := Aside0.mk (Kd.R_lower (Kd.R_newM (M := fun k_ => (w.heap.size ≤ k_)) ho38 (keep_size (w := w) (g := g) (row := none) (by repeat (first | (with_reducible first | exact HK.out | apply KeepBut.set_ | apply keep_drewN | apply keep_drew | apply keep_alloc | refine keep_far ?_ GW116.out _ | refine keep_far ?_ GW117.out _) | exact HK.out))) (fun k_ h_ => h_)) (keep_size (w := w) (g := g) (row := none) (by repeat (first | (with_reducible first | exact HK.out | apply KeepBut.set_ | apply keep_drewN | apply keep_drew | apply keep_alloc | refine keep_far ?_ GW116.out _ | refine keep_far ?_ GW117.out _) | exact HK.out))))
                have n3_ := Aside0.mk (IsS80.below (by repeat (first | (with_reducible first | exact HI0.out | apply IsS80.alloc | apply IsS80.drewN | apply IsS80.drew | apply IsS80.set_0 | refine IsS80.far ?_ NB0_116.out _ | refine IsS80.far ?_ NB0_117.out _) | exact HI0.out)) hb)
                have n4_ := Aside0.mk (blk_below (g := gb116) (o := .cells #[.int .i64 t118, .slice Ao33 t119.length co33] 82 (0, 0)) (by (with_reducible repeat (first | refine blk_drewN ?_ _ | refine blk_drew ?_ | refine blk_alloc ?_ _)); exact BK116.out) hb)
                have n5_ := Aside0.mk (blk_below (g := gb117) (o := .cells #[.int .i64 0, .slice none 0 0] 82 (0, 0)) (by (with_reducible repeat (first | refine blk_drewN ?_ _ | refine blk_drew ?_ | refine blk_alloc ?_ _)); exact BK117.out) hb)
                have n6_ := Aside0.mk (KeepBut.trans (by repeat (first | (with_reducible first | exact HK.out | apply KeepBut.set_ | apply keep_drewN | apply keep_drew | apply keep_alloc | refine keep_far ?_ GW116.out _ | refine keep_far ?_ GW117.out _) | exact HK.out)) (KeepBut.of_below hb g none) (.inl rfl))
                have n7_ := Aside0.mk (below_step (by repeat (first | (with_reducible first | exact HB.out | apply below_alloc | apply pw_below_drewN | apply below_drew1 | refine below_set ?_ (IsS80.ge HI0.out) | refine below_set ?_ GE116.out | refine below_set ?_ GE117.out) | exact HB.out)) hb)
                clear HO1_1
                clear HO121
                clear HI0
                clear BK116
                clear BK117
                clear HK
                clear HB
                have HO1_1 := n0_
                have HO121 := n1_
                have HO125 := n2_
                have HI0 := n3_
                have BK116 := n4_
                have BK117 := n5_
                have HK := n6_
                have HB := n7_
                clear n0_ n1_ n2_ n3_ n4_ n5_ n6_ n7_
                clear hb ho38
                obtain ⟨Ao39, co39, eo39⟩ := Kd.R_slice HO125.out
                (first | subst eo39 | (injection eo39 with f1_ f2_ f3_; have f4_ := f1_.symm; have f5_ := f3_.symm; clear f1_ f2_ f3_; subst f4_; subst f5_))
                refine hK.out _ _ ⟨(blk_cell BK116.out 0).trans rfl, (blk_cell BK116.out 1).trans rfl⟩ (fun hHeld => ?_)
                clear hK K
                refine norm_ (a' := ?_) ?_ ?_
                rotate_left
                · show Act.put _ (some 33) _ = _
                  simp only [Act.put, List.setIfInBounds_toArray, List.set_cons_zero, List.set_cons_succ, i64_w, i32_w]
                  rfl
                refine pure_ (i := 16) (N := some 34) (v := ?_) (a' := ?_) #[true, true, true, true, true, true, true, true, true, true, true, true, true, true, true, true, true, false, false] rfl rfl (any_of HT_.out (by kernel_rfl)) (fun _ _ _ h => h) (Or.inl ⟨by rfl, ?_⟩) ?_ ?_
                rotate_left
                · intro w'
                  go_simp
                  with_reducible rfl
                rotate_left
                · simp only [Act.put, List.setIfInBounds_toArray, List.set_cons_zero, List.set_cons_succ, i64_w, i32_w]
                  rfl
                refine one_ (i := 17) (N := some 7) #[true, true, true, true, true, true, true, true, true, true, true, true, true, true, true, true, true, true, false] rfl rfl (one_of HT_.out (by kernel_rfl)) (by decide) (fun K hK => ?_)
                refine box_step ?hg (N := 7) ?hd (cs := #[.int .i64 0, .slice none 0 0]) (t := 82) ?hr ?_; (case hd => rfl); (case hg => rfl); (case hr => first | (go_simp; done) | (go_simp; rfl))
                intro gb126 hg w40 hbox hb
                have n0_ := Aside0.mk (Kd.V_below (Kd.V_elderB (by (with_reducible repeat (first | apply Kd.V_alloc | apply Kd.V_drewN | apply Kd.V_drew)); exact HO1_1.out) gb126 (Nat.le_of_eq hg.symm)) hb)
                have n1_ := Aside0.mk (Kd.V_below (Kd.V_elderB (by (with_reducible repeat (first | apply Kd.V_alloc | apply Kd.V_drewN | apply Kd.V_drew)); exact HO121.out) gb126 (Nat.le_of_eq hg.symm)) hb)
                have n2_ := Aside0.mk (Kd.R_below (by (with_reducible repeat (first | apply Kd.R_alloc | apply Kd.R_drewN | apply Kd.R_drew)); exact HO125.out) hb)
                have n3_ := Aside0.mk (IsS80.below (by repeat (first | (with_reducible first | exact HI0.out | apply IsS80.alloc | apply IsS80.drewN | apply IsS80.drew | apply IsS80.set_0 | refine IsS80.far ?_ NB0_116.out _ | refine IsS80.far ?_ NB0_117.out _) | exact HI0.out)) hb)
                have n4_ := Aside0.mk (blk_below (g := gb116) (o := .cells #[.int .i64 t118, .slice Ao33 t119.length co33] 82 (0, 0)) (by (with_reducible repeat (first | refine blk_drewN ?_ _ | refine blk_drew ?_ | refine blk_alloc ?_ _)); exact BK116.out) hb)
                have n5_ := Aside0.mk (blk_below (g := gb117) (o := .cells #[.int .i64 0, .slice none 0 0] 82 (0, 0)) (by (with_reducible repeat (first | refine blk_drewN ?_ _ | refine blk_drew ?_ | refine blk_alloc ?_ _)); exact BK117.out) hb)
                have n6_ := Aside0.mk (KeepBut.trans (by repeat (first | (with_reducible first | exact HK.out | apply KeepBut.set_ | apply keep_drewN | apply keep_drew | apply keep_alloc | refine keep_far ?_ GW116.out _ | refine keep_far ?_ GW117.out _) | exact HK.out)) (KeepBut.of_below hb g none) (.inl rfl))
                have n7_ := Aside0.mk (below_step (by repeat (first | (with_reducible first | exact HB.out | apply below_alloc | apply pw_below_drewN | apply below_drew1 | refine below_set ?_ (IsS80.ge HI0.out) | refine below_set ?_ GE116.out | refine below_set ?_ GE117.out) | exact HB.out)) hb)
                have n8_ := Aside0.mk (hbox)
                have n9_ := Aside0.mk ((by rw [hg]; exact (keep_size (w := w) (g := g) (row := none) (by repeat (first | (with_reducible first | exact HK.out | apply KeepBut.set_ | apply keep_drewN | apply keep_drew | apply keep_alloc | refine keep_far ?_ GW116.out _ | refine keep_far ?_ GW117.out _) | exact HK.out))) : w.heap.size ≤ gb126))
                have n10_ := Aside0.mk ((Nat.le_trans HW0.out (by rw [hg]; exact (keep_size (w := w) (g := g) (row := none) (by repeat (first | (with_reducible first | exact HK.out | apply KeepBut.set_ | apply keep_drewN | apply keep_drew | apply keep_alloc | refine keep_far ?_ GW116.out _ | refine keep_far ?_ GW117.out _) | exact HK.out))) : w.heap.size ≤ gb126) : w0.heap.size ≤ gb126))
                have n11_ := Aside0.mk ((by rw [hg]; exact Nat.ne_of_lt (blk_lt (g := gb116) (o := .cells #[.int .i64 t118, .slice Ao33 t119.length co33] 82 (0, 0)) (by (with_reducible repeat (first | refine blk_drewN ?_ _ | refine blk_drew ?_ | refine blk_alloc ?_ _)); exact BK116.out)) : gb116 ≠ gb126))
                have n12_ := Aside0.mk ((by rw [hg]; exact Nat.ne_of_gt (blk_lt (g := gb116) (o := .cells #[.int .i64 t118, .slice Ao33 t119.length co33] 82 (0, 0)) (by (with_reducible repeat (first | refine blk_drewN ?_ _ | refine blk_drew ?_ | refine blk_alloc ?_ _)); exact BK116.out)) : gb126 ≠ gb116))
                have n13_ := Aside0.mk ((by rw [hg]; exact Nat.ne_of_lt (blk_lt (g := gb117) (o := .cells #[.int .i64 0, .slice none 0 0] 82 (0, 0)) (by (with_reducible repeat (first | refine blk_drewN ?_ _ | refine blk_drew ?_ | refine blk_alloc ?_ _)); exact BK117.out)) : gb117 ≠ gb126))
                have n14_ := Aside0.mk ((by rw [hg]; exact Nat.ne_of_gt (blk_lt (g := gb117) (o := .cells #[.int .i64 0, .slice none 0 0] 82 (0, 0)) (by (with_reducible repeat (first | refine blk_drewN ?_ _ | refine blk_drew ?_ | refine blk_alloc ?_ _)); exact BK117.out)) : gb126 ≠ gb117))
                have n15_ := Aside0.mk ((by rw [hg]; exact Nat.ne_of_lt (IsS80.lt (show IsS80 w0 _ g s0_0 from by repeat (first | (with_reducible first | exact HI0.out | apply IsS80.alloc | apply IsS80.drewN | apply IsS80.drew | apply IsS80.set_0 | refine IsS80.far ?_ NB0_116.out _ | refine IsS80.far ?_ NB0_117.out _) | exact HI0.out))) : g ≠ gb126))
                have n16_ := Aside0.mk ((by rw [hg]; exact Nat.ne_of_gt (IsS80.lt (show IsS80 w0 _ g s0_0 from by repeat (first | (with_reducible first | exact HI0.out | apply IsS80.alloc | apply IsS80.drewN | apply IsS80.drew | apply IsS80.set_0 | refine IsS80.far ?_ NB0_116.out _ | refine IsS80.far ?_ NB0_117.out _) | exact HI0.out))) : gb126 ≠ g))
                clear HO1_1
                clear HO121
                clear HO125
                clear HI0
                clear BK116
                clear BK117
                clear HK
                clear HB
                have HO1_1 := n0_
                have HO121 := n1_
                have HO125 := n2_
                have HI0 := n3_
                have BK116 := n4_
                have BK117 := n5_
                have HK := n6_
                have HB := n7_
                have BK126 := n8_
                have GW126 := n9_
                have GE126 := n10_
                have NB116_126 := n11_
                have NB126_116 := n12_
                have NB117_126 := n13_
                have NB126_117 := n14_
                have NB0_126 := n15_
                have NB126_0 := n16_
                clear n0_ n1_ n2_ n3_ n4_ n5_ n6_ n7_ n8_ n9_ n10_ n11_ n12_ n13_ n14_ n15_ n16_
                clear hb hbox hg
                refine hK.out _ _ ⟨(blk_cell BK116.out 0).trans rfl, (blk_cell BK116.out 1).trans rfl⟩ (fun hHeld => ?_)
                clear hK K
                refine norm_ (a' := ?_) ?_ ?_
                rotate_left
                · show Act.put _ (some 7) _ = _
                  simp only [Act.put, List.setIfInBounds_toArray, List.set_cons_zero, List.set_cons_succ, i64_w, i32_w]
                  rfl
                exact norm_ (by simp only [putAll, Act.put, List.setIfInBounds_toArray, List.set_cons_zero, List.set_cons_succ]) (hCont (.slice Ao39 y123.length co39, gb126) _ ⟨hHeld, (by (with_reducible repeat (first | apply Kd.V_alloc | apply Kd.V_drewN | apply Kd.V_drew)); exact Kd.V_mono HO121.out (fun _ hk => ⟨hk.1.1.1, ⟨hk.1.2, ⟨hk.1.1.2.2.2, ⟨hk.1.1.2.1, ⟨hk.1.1.2.2.1, hk.2⟩⟩⟩⟩⟩)), (by (with_reducible repeat (first | apply Kd.R_alloc | apply Kd.R_drewN | apply Kd.R_drew)); exact Kd.R_mono HO125.out (fun _ hk => hk.1)), (by (with_reducible repeat (first | apply Kd.V_alloc | apply Kd.V_drewN | apply Kd.V_drew)); exact Kd.V_mono HO1_1.out (fun _ hk => ⟨hk.1.1.1, ⟨hk.1.2, ⟨hk.1.1.2.1, ⟨hk.1.1.2.2.1, ⟨hk.1.1.2.2.2, hk.2⟩⟩⟩⟩⟩)), (by (with_reducible repeat (first | refine blk_drewN ?_ _ | refine blk_drew ?_ | refine blk_alloc ?_ _)); exact BK116.out), (by (with_reducible repeat (first | refine blk_drewN ?_ _ | refine blk_drew ?_ | refine blk_alloc ?_ _)); exact BK117.out), (by (with_reducible repeat (first | refine blk_drewN ?_ _ | refine blk_drew ?_ | refine blk_alloc ?_ _)); exact BK126.out), GW126.out, GE126.out, NB0_126.out, NB126_0.out, NB116_126.out, NB126_116.out, NB117_126.out, NB126_117.out, (by repeat (first | (with_reducible first | exact HI0.out | apply IsS80.alloc | apply IsS80.drewN | apply IsS80.drew | apply IsS80.set_0 | refine IsS80.far ?_ NB0_116.out _ | refine IsS80.far ?_ NB0_117.out _ | refine IsS80.far ?_ NB0_126.out _) | exact HI0.out)), (by repeat (first | (with_reducible first | exact HK.out | apply KeepBut.set_ | apply keep_drewN | apply keep_drew | apply keep_alloc | refine keep_far ?_ GW116.out _ | refine keep_far ?_ GW117.out _ | refine keep_far ?_ GW126.out _) | exact HK.out)), (by repeat (first | (with_reducible first | exact HB.out | apply below_alloc | apply pw_below_drewN | apply below_drew1 | refine below_set ?_ (IsS80.ge HI0.out) | refine below_set ?_ GE116.out | refine below_set ?_ GE117.out | refine below_set ?_ GE126.out) | exact HB.out))⟩)
              · skip
                refine box_step ?hg (N := 7) ?hd (cs := #[.int .i64 0, .slice none 0 0]) (t := 82) ?hr ?_; (case hd => rfl); (case hg => rfl); (case hr => first | (go_simp; done) | (go_simp; rfl))
                intro gb126 hg w37 hbox hb
                have n0_ := Aside0.mk (Kd.V_below (Kd.V_elderB (by (with_reducible repeat (first | apply Kd.V_alloc | apply Kd.V_drewN | apply Kd.V_drew)); exact HO1_1.out) gb126 (Nat.le_of_eq hg.symm)) hb)
                have n1_ := Aside0.mk (Kd.V_below (Kd.V_elderB (by (with_reducible repeat (first | apply Kd.V_alloc | apply Kd.V_drewN | apply Kd.V_drew)); exact HO121.out) gb126 (Nat.le_of_eq hg.symm)) hb)
                have n2_ := Aside0.mk (IsS80.below (by repeat (first | (with_reducible first | exact HI0.out | apply IsS80.alloc | apply IsS80.drewN | apply IsS80.drew | apply IsS80.set_0 | refine IsS80.far ?_ NB0_116.out _ | refine IsS80.far ?_ NB0_117.out _) | exact HI0.out)) hb)
                have n3_ := Aside0.mk (blk_below (g := gb116) (o := .cells #[.int .i64 t118, .slice Ao33 t119.length co33] 82 (0, 0)) (by (with_reducible repeat (first | refine blk_drewN ?_ _ | refine blk_drew ?_ | refine blk_alloc ?_ _)); exact BK116.out) hb)
                have n4_ := Aside0.mk (blk_below (g := gb117) (o := .cells #[.int .i64 0, .slice none 0 0] 82 (0, 0)) (by (with_reducible repeat (first | refine blk_drewN ?_ _ | refine blk_drew ?_ | refine blk_alloc ?_ _)); exact BK117.out) hb)
                have n5_ := Aside0.mk (KeepBut.trans (by repeat (first | (with_reducible first | exact HK.out | apply KeepBut.set_ | apply keep_drewN | apply keep_drew | apply keep_alloc | refine keep_far ?_ GW116.out _ | refine keep_far ?_ GW117.out _) | exact HK.out)) (KeepBut.of_below hb g none) (.inl rfl))
                have n6_ := Aside0.mk (below_step (by repeat (first | (with_reducible first | exact HB.out | apply below_alloc | apply pw_below_drewN | apply below_drew1 | refine below_set ?_ (IsS80.ge HI0.out) | refine below_set ?_ GE116.out | refine below_set ?_ GE117.out) | exact HB.out)) hb)
                have n7_ := Aside0.mk (hbox)
                have n8_ := Aside0.mk ((by rw [hg]; exact (keep_size (w := w) (g := g) (row := none) (by repeat (first | (with_reducible first | exact HK.out | apply KeepBut.set_ | apply keep_drewN | apply keep_drew | apply keep_alloc | refine keep_far ?_ GW116.out _ | refine keep_far ?_ GW117.out _) | exact HK.out))) : w.heap.size ≤ gb126))
                have n9_ := Aside0.mk ((Nat.le_trans HW0.out (by rw [hg]; exact (keep_size (w := w) (g := g) (row := none) (by repeat (first | (with_reducible first | exact HK.out | apply KeepBut.set_ | apply keep_drewN | apply keep_drew | apply keep_alloc | refine keep_far ?_ GW116.out _ | refine keep_far ?_ GW117.out _) | exact HK.out))) : w.heap.size ≤ gb126) : w0.heap.size ≤ gb126))
                have n10_ := Aside0.mk ((by rw [hg]; exact Nat.ne_of_lt (blk_lt (g := gb116) (o := .cells #[.int .i64 t118, .slice Ao33 t119.length co33] 82 (0, 0)) (by (with_reducible repeat (first | refine blk_drewN ?_ _ | refine blk_drew ?_ | refine blk_alloc ?_ _)); exact BK116.out)) : gb116 ≠ gb126))
                have n11_ := Aside0.mk ((by rw [hg]; exact Nat.ne_of_gt (blk_lt (g := gb116) (o := .cells #[.int .i64 t118, .slice Ao33 t119.length co33] 82 (0, 0)) (by (with_reducible repeat (first | refine blk_drewN ?_ _ | refine blk_drew ?_ | refine blk_alloc ?_ _)); exact BK116.out)) : gb126 ≠ gb116))
                have n12_ := Aside0.mk ((by rw [hg]; exact Nat.ne_of_lt (blk_lt (g := gb117) (o := .cells #[.int .i64 0, .slice none 0 0] 82 (0, 0)) (by (with_reducible repeat (first | refine blk_drewN ?_ _ | refine blk_drew ?_ | refine blk_alloc ?_ _)); exact BK117.out)) : gb117 ≠ gb126))
                have n13_ := Aside0.mk ((by rw [hg]; exact Nat.ne_of_gt (blk_lt (g := gb117) (o := .cells #[.int .i64 0, .slice none 0 0] 82 (0, 0)) (by (with_reducible repeat (first | refine blk_drewN ?_ _ | refine blk_drew ?_ | refine blk_alloc ?_ _)); exact BK117.out)) : gb126 ≠ gb117))
                have n14_ := Aside0.mk ((by rw [hg]; exact Nat.ne_of_lt (IsS80.lt (show IsS80 w0 _ g s0_0 from by repeat (first | (with_reducible first | exact HI0.out | apply IsS80.alloc | apply IsS80.drewN | apply IsS80.drew | apply IsS80.set_0 | refine IsS80.far ?_ NB0_116.out _ | refine IsS80.far ?_ NB0_117.out _) | exact HI0.out))) : g ≠ gb126))
                have n15_ := Aside0.mk ((by rw [hg]; exact Nat.ne_of_gt (IsS80.lt (show IsS80 w0 _ g s0_0 from by repeat (first | (with_reducible first | exact HI0.out | apply IsS80.alloc | apply IsS80.drewN | apply IsS80.drew | apply IsS80.set_0 | refine IsS80.far ?_ NB0_116.out _ | refine IsS80.far ?_ NB0_117.out _) | exact HI0.out))) : gb126 ≠ g))
                clear HO1_1
                clear HO121
                clear HI0
                clear BK116
                clear BK117
                clear HK
                clear HB
                have HO1_1 := n0_
                have HO121 := n1_
                have HI0 := n2_
                have BK116 := n3_
                have BK117 := n4_
                have HK := n5_
                have HB := n6_
                have BK126 := n7_
                have GW126 := n8_
                have GE126 := n9_
                have NB116_126 := n10_
                have NB126_116 := n11_
                have NB117_126 := n12_
                have NB126_117 := n13_
                have NB0_126 := n14_
                have NB126_0 := n15_
                clear n0_ n1_ n2_ n3_ n4_ n5_ n6_ n7_ n8_ n9_ n10_ n11_ n12_ n13_ n14_ n15_
                clear hb hbox hg
                refine hK.out _ _ ⟨(blk_cell BK116.out 0).trans rfl, (blk_cell BK116.out 1).trans rfl⟩ (fun hHeld => ?_)
                clear hK K
                refine norm_ (a' := ?_) ?_ ?_
                rotate_left
                · show Act.put _ (some 7) _ = _
                  simp only [Act.put, List.setIfInBounds_toArray, List.set_cons_zero, List.set_cons_succ, i64_w, i32_w]
                  rfl
                refine one_ (i := 15) (N := some 33) #[true, true, true, true, true, true, true, true, true, true, true, true, true, true, true, true, false, true, false] rfl rfl (one_of HT_.out (by kernel_rfl)) (by decide) (fun K hK => ?_)
                refine Kd.R_make_step (Kd.int .u64) _ 41 (by rfl) (N := 33) rfl 22 _ _ rfl ji23 rfl rfl Tryd.underlying22 (.int .u64 0) 8 info41 rfl (by decide) (by omega) 0 (ok := fun _ => True) (okp := fun _ => True) rfl (fun _ hk => hk) trivial (of_decide_eq_true (by first | (with_reducible assumption) | assumption)) (Nat.le_trans (Nat.mul_le_mul_right _ (of_decide_eq_true (by first | (with_reducible assumption) | assumption) : ji23.toNat ≤ 35184372088832)) (by omega)) (Below.refl _ _) (Nat.le_refl _) ?_
                intro v124 w38 ho39 hb hg_ hnew_
                clear hg_ hnew_
                (first | rw [← Ny123.out] at ho39 | (simp only [Int.reduceToNat] at ho39; rw [← Ny123.out] at ho39))
                have n0_ := Aside0.mk (Kd.V_elder' (by (with_reducible repeat (first | apply Kd.V_alloc | apply Kd.V_drewN | apply Kd.V_drew)); exact HO1_1.out) (Kd.R_base ho39) hb)
                have n1_ := Aside0.mk (Kd.V_elder' (by (with_reducible repeat (first | apply Kd.V_alloc | apply Kd.V_drewN | apply Kd.V_drew)); exact HO121.out) (Kd.R_base ho39) hb)
                have n2_ := Aside0.mk (Kd.R_lower (Kd.R_newM (M := fun k_ => (w.heap.size ≤ k_)) ho39 (keep_size (w := w) (g := g) (row := none) (by repeat (first | (with_reducible first | exact HK.out | apply KeepBut.set_ | apply keep_drewN | apply keep_drew | apply keep_alloc | refine keep_far ?_ GW116.out _ | refine keep_far ?_ GW117.out _ | refine keep_far ?_ GW126.out _) | exact HK.out))) (fun k_ h_ => h_)) (keep_size (w := w) (g := g) (row := none) (by repeat (first | (with_reducible first | exact HK.out | apply KeepBut.set_ | apply keep_drewN | apply keep_drew | apply keep_alloc | refine keep_far ?_ GW116.out _ | refine keep_far ?_ GW117.out _ | refine keep_far ?_ GW126.out _) | exact HK.out))))
                have n3_ := Aside0.mk (IsS80.below (by repeat (first | (with_reducible first | exact HI0.out | apply IsS80.alloc | apply IsS80.drewN | apply IsS80.drew | apply IsS80.set_0 | refine IsS80.far ?_ NB0_116.out _ | refine IsS80.far ?_ NB0_117.out _ | refine IsS80.far ?_ NB0_126.out _) | exact HI0.out)) hb)
                have n4_ := Aside0.mk (blk_below (g := gb116) (o := .cells #[.int .i64 t118, .slice Ao33 t119.length co33] 82 (0, 0)) (by (with_reducible repeat (first | refine blk_drewN ?_ _ | refine blk_drew ?_ | refine blk_alloc ?_ _)); exact BK116.out) hb)
                have n5_ := Aside0.mk (blk_below (g := gb117) (o := .cells #[.int .i64 0, .slice none 0 0] 82 (0, 0)) (by (with_reducible repeat (first | refine blk_drewN ?_ _ | refine blk_drew ?_ | refine blk_alloc ?_ _)); exact BK117.out) hb)
                have n6_ := Aside0.mk (blk_below (g := gb126) (o := .cells #[.int .i64 0, .slice none 0 0] 82 (0, 0)) (by (with_reducible repeat (first | refine blk_drewN ?_ _ | refine blk_drew ?_ | refine blk_alloc ?_ _)); exact BK126.out) hb)
                have n7_ := Aside0.mk (KeepBut.trans (by repeat (first | (with_reducible first | exact HK.out | apply KeepBut.set_ | apply keep_drewN | apply keep_drew | apply keep_alloc | refine keep_far ?_ GW116.out _ | refine keep_far ?_ GW117.out _ | refine keep_far ?_ GW126.out _) | exact HK.out)) (KeepBut.of_below hb g none) (.inl rfl))
                have n8_ := Aside0.mk (below_step (by repeat (first | (with_reducible first | exact HB.out | apply below_alloc | apply pw_below_drewN | apply below_drew1 | refine below_set ?_ (IsS80.ge HI0.out) | refine below_set ?_ GE116.out | refine below_set ?_ GE117.out | refine below_set ?_ GE126.out) | exact HB.out)) hb)
                clear HO1_1
                clear HO121
                clear HI0
                clear BK116
                clear BK117
                clear BK126
                clear HK
                clear HB
                have HO1_1 := n0_
                have HO121 := n1_
                have HO125 := n2_
                have HI0 := n3_
                have BK116 := n4_
                have BK117 := n5_
                have BK126 := n6_
                have HK := n7_
                have HB := n8_
                clear n0_ n1_ n2_ n3_ n4_ n5_ n6_ n7_ n8_
                clear hb ho39
                obtain ⟨Ao40, co40, eo40⟩ := Kd.R_slice HO125.out
                (first | subst eo40 | (injection eo40 with f1_ f2_ f3_; have f4_ := f1_.symm; have f5_ := f3_.symm; clear f1_ f2_ f3_; subst f4_; subst f5_))
                refine hK.out _ _ ⟨(blk_cell BK116.out 0).trans rfl, (blk_cell BK116.out 1).trans rfl⟩ (fun hHeld => ?_)
                clear hK K
                refine norm_ (a' := ?_) ?_ ?_
                rotate_left
                · show Act.put _ (some 33) _ = _
                  simp only [Act.put, List.setIfInBounds_toArray, List.set_cons_zero, List.set_cons_succ, i64_w, i32_w]
                  rfl
                refine pure_ (i := 16) (N := some 34) (v := ?_) (a' := ?_) #[true, true, true, true, true, true, true, true, true, true, true, true, true, true, true, true, true, true, false] rfl rfl (any_of HT_.out (by kernel_rfl)) (fun _ _ _ h => h) (Or.inl ⟨by rfl, ?_⟩) ?_ ?_
                rotate_left
                · intro w'
                  go_simp
                  with_reducible rfl
                rotate_left
                · simp only [Act.put, List.setIfInBounds_toArray, List.set_cons_zero, List.set_cons_succ, i64_w, i32_w]
                  rfl
                exact norm_ (by simp only [putAll, Act.put, List.setIfInBounds_toArray, List.set_cons_zero, List.set_cons_succ]) (hCont (.slice Ao40 y123.length co40, gb126) _ ⟨hHeld, (by (with_reducible repeat (first | apply Kd.V_alloc | apply Kd.V_drewN | apply Kd.V_drew)); exact Kd.V_mono HO121.out (fun _ hk => ⟨hk.1.1.1, ⟨hk.2, ⟨hk.1.1.2.2.2, ⟨hk.1.1.2.1, ⟨hk.1.1.2.2.1, hk.1.2⟩⟩⟩⟩⟩)), (by (with_reducible repeat (first | apply Kd.R_alloc | apply Kd.R_drewN | apply Kd.R_drew)); exact Kd.R_mono HO125.out (fun _ hk => hk.1)), (by (with_reducible repeat (first | apply Kd.V_alloc | apply Kd.V_drewN | apply Kd.V_drew)); exact Kd.V_mono HO1_1.out (fun _ hk => ⟨hk.1.1.1, ⟨hk.2, ⟨hk.1.1.2.1, ⟨hk.1.1.2.2.1, ⟨hk.1.1.2.2.2, hk.1.2⟩⟩⟩⟩⟩)), (by (with_reducible repeat (first | refine blk_drewN ?_ _ | refine blk_drew ?_ | refine blk_alloc ?_ _)); exact BK116.out), (by (with_reducible repeat (first | refine blk_drewN ?_ _ | refine blk_drew ?_ | refine blk_alloc ?_ _)); exact BK117.out), (by (with_reducible repeat (first | refine blk_drewN ?_ _ | refine blk_drew ?_ | refine blk_alloc ?_ _)); exact BK126.out), GW126.out, GE126.out, NB0_126.out, NB126_0.out, NB116_126.out, NB126_116.out, NB117_126.out, NB126_117.out, (by repeat (first | (with_reducible first | exact HI0.out | apply IsS80.alloc | apply IsS80.drewN | apply IsS80.drew | apply IsS80.set_0 | refine IsS80.far ?_ NB0_116.out _ | refine IsS80.far ?_ NB0_117.out _ | refine IsS80.far ?_ NB0_126.out _) | exact HI0.out)), (by repeat (first | (with_reducible first | exact HK.out | apply KeepBut.set_ | apply keep_drewN | apply keep_drew | apply keep_alloc | refine keep_far ?_ GW116.out _ | refine keep_far ?_ GW117.out _ | refine keep_far ?_ GW126.out _) | exact HK.out)), (by repeat (first | (with_reducible first | exact HB.out | apply below_alloc | apply pw_below_drewN | apply below_drew1 | refine below_set ?_ (IsS80.ge HI0.out) | refine below_set ?_ GE116.out | refine below_set ?_ GE117.out | refine below_set ?_ GE126.out) | exact HB.out))⟩)
            · skip
              refine box_step ?hg (N := 7) ?hd (cs := #[.int .i64 0, .slice none 0 0]) (t := 82) ?hr ?_; (case hd => rfl); (case hg => rfl); (case hr => first | (go_simp; done) | (go_simp; rfl))
              intro gb126 hg w36 hbox hb
              have n0_ := Aside0.mk (Kd.V_below (Kd.V_elderB (by (with_reducible repeat (first | apply Kd.V_alloc | apply Kd.V_drewN | apply Kd.V_drew)); exact HO1_1.out) gb126 (Nat.le_of_eq hg.symm)) hb)
              have n1_ := Aside0.mk (Kd.V_below (Kd.V_elderB (by (with_reducible repeat (first | apply Kd.V_alloc | apply Kd.V_drewN | apply Kd.V_drew)); exact HO121.out) gb126 (Nat.le_of_eq hg.symm)) hb)
              have n2_ := Aside0.mk (IsS80.below (by repeat (first | (with_reducible first | exact HI0.out | apply IsS80.alloc | apply IsS80.drewN | apply IsS80.drew | apply IsS80.set_0 | refine IsS80.far ?_ NB0_116.out _ | refine IsS80.far ?_ NB0_117.out _) | exact HI0.out)) hb)
              have n3_ := Aside0.mk (blk_below (g := gb116) (o := .cells #[.int .i64 t118, .slice Ao33 t119.length co33] 82 (0, 0)) (by (with_reducible repeat (first | refine blk_drewN ?_ _ | refine blk_drew ?_ | refine blk_alloc ?_ _)); exact BK116.out) hb)
              have n4_ := Aside0.mk (blk_below (g := gb117) (o := .cells #[.int .i64 0, .slice none 0 0] 82 (0, 0)) (by (with_reducible repeat (first | refine blk_drewN ?_ _ | refine blk_drew ?_ | refine blk_alloc ?_ _)); exact BK117.out) hb)
              have n5_ := Aside0.mk (KeepBut.trans (by repeat (first | (with_reducible first | exact HK.out | apply KeepBut.set_ | apply keep_drewN | apply keep_drew | apply keep_alloc | refine keep_far ?_ GW116.out _ | refine keep_far ?_ GW117.out _) | exact HK.out)) (KeepBut.of_below hb g none) (.inl rfl))
              have n6_ := Aside0.mk (below_step (by repeat (first | (with_reducible first | exact HB.out | apply below_alloc | apply pw_below_drewN | apply below_drew1 | refine below_set ?_ (IsS80.ge HI0.out) | refine below_set ?_ GE116.out | refine below_set ?_ GE117.out) | exact HB.out)) hb)
              have n7_ := Aside0.mk (hbox)
              have n8_ := Aside0.mk ((by rw [hg]; exact (keep_size (w := w) (g := g) (row := none) (by repeat (first | (with_reducible first | exact HK.out | apply KeepBut.set_ | apply keep_drewN | apply keep_drew | apply keep_alloc | refine keep_far ?_ GW116.out _ | refine keep_far ?_ GW117.out _) | exact HK.out))) : w.heap.size ≤ gb126))
              have n9_ := Aside0.mk ((Nat.le_trans HW0.out (by rw [hg]; exact (keep_size (w := w) (g := g) (row := none) (by repeat (first | (with_reducible first | exact HK.out | apply KeepBut.set_ | apply keep_drewN | apply keep_drew | apply keep_alloc | refine keep_far ?_ GW116.out _ | refine keep_far ?_ GW117.out _) | exact HK.out))) : w.heap.size ≤ gb126) : w0.heap.size ≤ gb126))
              have n10_ := Aside0.mk ((by rw [hg]; exact Nat.ne_of_lt (blk_lt (g := gb116) (o := .cells #[.int .i64 t118, .slice Ao33 t119.length co33] 82 (0, 0)) (by (with_reducible repeat (first | refine blk_drewN ?_ _ | refine blk_drew ?_ | refine blk_alloc ?_ _)); exact BK116.out)) : gb116 ≠ gb126))
              have n11_ := Aside0.mk ((by rw [hg]; exact Nat.ne_of_gt (blk_lt (g := gb116) (o := .cells #[.int .i64 t118, .slice Ao33 t119.length co33] 82 (0, 0)) (by (with_reducible repeat (first | refine blk_drewN ?_ _ | refine blk_drew ?_ | refine blk_alloc ?_ _)); exact BK116.out)) : gb126 ≠ gb116))
              have n12_ := Aside0.mk ((by rw [hg]; exact Nat.ne_of_lt (blk_lt (g := gb117) (o := .cells #[.int .i64 0, .slice none 0 0] 82 (0, 0)) (by (with_reducible repeat (first | refine blk_drewN ?_ _ | refine blk_drew ?_ | refine blk_alloc ?_ _)); exact BK117.out)) : gb117 ≠ gb126))
              have n13_ := Aside0.mk ((by rw [hg]; exact Nat.ne_of_gt (blk_lt (g := gb117) (o := .cells #[.int .i64 0, .slice none 0 0] 82 (0, 0)) (by (with_reducible repeat (first | refine blk_drewN ?_ _ | refine blk_drew ?_ | refine blk_alloc ?_ _)); exact BK117.out)) : gb126 ≠ gb117))
              have n14_ := Aside0.mk ((by rw [hg]; exact Nat.ne_of_lt (IsS80.lt (show IsS80 w0 _ g s0_0 from by repeat (first | (with_reducible first | exact HI0.out | apply IsS80.alloc | apply IsS80.drewN | apply IsS80.drew | apply IsS80.set_0 | refine IsS80.far ?_ NB0_116.out _ | refine IsS80.far ?_ NB0_117.out _) | exact HI0.out))) : g ≠ gb126))
              have n15_ := Aside0.mk ((by rw [hg]; exact Nat.ne_of_gt (IsS80.lt (show IsS80 w0 _ g s0_0 from by repeat (first | (with_reducible first | exact HI0.out | apply IsS80.alloc | apply IsS80.drewN | apply IsS80.drew | apply IsS80.set_0 | refine IsS80.far ?_ NB0_116.out _ | refine IsS80.far ?_ NB0_117.out _) | exact HI0.out))) : gb126 ≠ g))
              clear HO1_1
              clear HO121
              clear HI0
              clear BK116
              clear BK117
              clear HK
              clear HB
              have HO1_1 := n0_
              have HO121 := n1_
              have HI0 := n2_
              have BK116 := n3_
              have BK117 := n4_
              have HK := n5_
              have HB := n6_
              have BK126 := n7_
              have GW126 := n8_
              have GE126 := n9_
              have NB116_126 := n10_
              have NB126_116 := n11_
              have NB117_126 := n12_
              have NB126_117 := n13_
              have NB0_126 := n14_
              have NB126_0 := n15_
              clear n0_ n1_ n2_ n3_ n4_ n5_ n6_ n7_ n8_ n9_ n10_ n11_ n12_ n13_ n14_ n15_
              clear hb hbox hg
              refine hK.out _ _ ⟨(blk_cell BK116.out 0).trans rfl, (blk_cell BK116.out 1).trans rfl⟩ (fun hHeld => ?_)
              clear hK K
              refine norm_ (a' := ?_) ?_ ?_
              rotate_left
              · show Act.put _ (some 7) _ = _
                simp only [Act.put, List.setIfInBounds_toArray, List.set_cons_zero, List.set_cons_succ, i64_w, i32_w]
                rfl
              refine one_ (i := 5) (N := some 23) #[true, true, true, true, true, true, false, true, false, true, true, true, true, false, false, false, false, true, false] rfl rfl (one_of HT_.out (by kernel_rfl)) (by decide) (fun K hK => ?_)
              refine goes_ Tryd.func75 (by kernel_rfl) rfl #[.agg #[.int .i64 t118, .slice Ao33 t119.length co33]] (by rfl) rfl rfl (by (try simp only [List.map_toArray, List.map_cons, List.map_nil]); first | done | rfl | (simp only [List.length_drop, List.length_take]; rfl)) ?_
              with_reducible refine (merge_side_end.calls t118 _ _ t119 t122 _ ?side1 ?side2 A18.out).mono ?_
              (case side1 => repeat (first | exact (Kd.V_reads' HO121.out).2.2 | (with_reducible refine Kd.C_alloc ?_ _) | (with_reducible refine Kd.C_drewN ?_ _) | (with_reducible refine Kd.C_drew ?_)))
              (case side2 => exact (Kd.V_reads' HO121.out).2.1)
              rintro e w37 ⟨rfl, hb⟩
              refine ⟨_, rfl, ?_⟩
              have n0_ := Aside0.mk (Kd.V_below (by (with_reducible repeat (first | apply Kd.V_alloc | apply Kd.V_drewN | apply Kd.V_drew)); exact HO1_1.out) hb)
              have n1_ := Aside0.mk (Kd.V_below (by (with_reducible repeat (first | apply Kd.V_alloc | apply Kd.V_drewN | apply Kd.V_drew)); exact HO121.out) hb)
              have n2_ := Aside0.mk (IsS80.below (by repeat (first | (with_reducible first | exact HI0.out | apply IsS80.alloc | apply IsS80.drewN | apply IsS80.drew | apply IsS80.set_0 | refine IsS80.far ?_ NB0_116.out _ | refine IsS80.far ?_ NB0_117.out _ | refine IsS80.far ?_ NB0_126.out _) | exact HI0.out)) hb)
              have n3_ := Aside0.mk (blk_below (g := gb116) (o := .cells #[.int .i64 t118, .slice Ao33 t119.length co33] 82 (0, 0)) (by (with_reducible repeat (first | refine blk_drewN ?_ _ | refine blk_drew ?_ | refine blk_alloc ?_ _)); exact BK116.out) hb)
              have n4_ := Aside0.mk (blk_below (g := gb117) (o := .cells #[.int .i64 0, .slice none 0 0] 82 (0, 0)) (by (with_reducible repeat (first | refine blk_drewN ?_ _ | refine blk_drew ?_ | refine blk_alloc ?_ _)); exact BK117.out) hb)
              have n5_ := Aside0.mk (blk_below (g := gb126) (o := .cells #[.int .i64 0, .slice none 0 0] 82 (0, 0)) (by (with_reducible repeat (first | refine blk_drewN ?_ _ | refine blk_drew ?_ | refine blk_alloc ?_ _)); exact BK126.out) hb)
              have n6_ := Aside0.mk (KeepBut.trans (by repeat (first | (with_reducible first | exact HK.out | apply KeepBut.set_ | apply keep_drewN | apply keep_drew | apply keep_alloc | refine keep_far ?_ GW116.out _ | refine keep_far ?_ GW117.out _ | refine keep_far ?_ GW126.out _) | exact HK.out)) (KeepBut.of_below hb g none) (.inl rfl))
              have n7_ := Aside0.mk (below_step (by repeat (first | (with_reducible first | exact HB.out | apply below_alloc | apply pw_below_drewN | apply below_drew1 | refine below_set ?_ (IsS80.ge HI0.out) | refine below_set ?_ GE116.out | refine below_set ?_ GE117.out | refine below_set ?_ GE126.out) | exact HB.out)) hb)
              clear HO1_1
              clear HO121
              clear HI0
              clear BK116
              clear BK117
              clear BK126
              clear HK
              clear HB
              have HO1_1 := n0_
              have HO121 := n1_
              have HI0 := n2_
              have BK116 := n3_
              have BK117 := n4_
              have BK126 := n5_
              have HK := n6_
              have HB := n7_
              clear n0_ n1_ n2_ n3_ n4_ n5_ n6_ n7_
              (try clear hb)
              (try clear hb2)
              (try clear hk)
              (try clear hi)
              refine hK.out _ _ ⟨(blk_cell BK116.out 0).trans rfl, (blk_cell BK116.out 1).trans rfl⟩ (fun hHeld => ?_)
              clear hK K
              refine norm_ (a' := ?_) ?_ ?_
              rotate_left
              · show Act.put _ (some 23) _ = _
                simp only [Act.put, List.setIfInBounds_toArray, List.set_cons_zero, List.set_cons_succ, i64_w, i32_w]
                rfl
              refine pure_ (i := 6) (N := some 24) (v := ?_) (a' := ?_) #[true, true, true, true, true, true, true, true, false, true, true, true, true, false, false, false, false, true, false] rfl rfl (any_of HT_.out (by kernel_rfl)) (fun _ _ _ h => h) (Or.inl ⟨by rfl, ?_⟩) ?_ ?_
              rotate_left
              · intro w'
                go_simp
                with_reducible rfl
              rotate_left
              · simp only [Act.put, List.setIfInBounds_toArray, List.set_cons_zero, List.set_cons_succ, i64_w, i32_w]
                rfl
              refine pure_ (i := 8) (N := some 26) (v := ?_) (a' := ?_) #[true, true, true, true, true, true, true, true, true, true, true, true, true, false, false, false, false, true, false] rfl rfl (any_of HT_.out (by kernel_rfl)) (fun _ _ _ h => h) (Or.inl ⟨by rfl, ?_⟩) ?_ ?_
              rotate_left
              · intro w'
                go_simp
                with_reducible rfl
              rotate_left
              · simp only [Act.put, List.setIfInBounds_toArray, List.set_cons_zero, List.set_cons_succ, i64_w, i32_w]
                rfl
              refine pure_ (i := 13) (N := some 31) (v := ?_) (a' := ?_) #[true, true, true, true, true, true, true, true, true, true, true, true, true, true, false, false, false, true, false] rfl rfl (any_of HT_.out (by kernel_rfl)) (fun _ _ _ h => h) (Or.inl ⟨by rfl, ?_⟩) ?_ ?_
              rotate_left
              · intro w'
                go_simp
                with_reducible rfl
              rotate_left
              · simp only [Act.put, List.setIfInBounds_toArray, List.set_cons_zero, List.set_cons_succ, i64_w, i32_w]
                rfl
              refine pure_ (i := 14) (N := some 32) (v := ?_) (a' := ?_) #[true, true, true, true, true, true, true, true, true, true, true, true, true, true, true, false, false, true, false] rfl rfl (any_of HT_.out (by kernel_rfl)) (fun _ _ _ h => h) (Or.inl ⟨by rfl, ?_⟩) ?_ ?_
              rotate_left
              · intro w'
                go_simp
                with_reducible rfl
              rotate_left
              · simp only [Act.put, List.setIfInBounds_toArray, List.set_cons_zero, List.set_cons_succ, i64_w, i32_w]
                rfl
              refine one_ (i := 15) (N := some 33) #[true, true, true, true, true, true, true, true, true, true, true, true, true, true, true, true, false, true, false] rfl rfl (one_of HT_.out (by kernel_rfl)) (by decide) (fun K hK => ?_)
              refine Kd.R_make_step (Kd.int .u64) _ 41 (by rfl) (N := 33) rfl 22 _ _ rfl ji23 rfl rfl Tryd.underlying22 (.int .u64 0) 8 info41 rfl (by decide) (by omega) 0 (ok := fun _ => True) (okp := fun _ => True) rfl (fun _ hk => hk) trivial (of_decide_eq_true (by first | (with_reducible assumption) | assumption)) (Nat.le_trans (Nat.mul_le_mul_right _ (of_decide_eq_true (by first | (with_reducible assumption) | assumption) : ji23.toNat ≤ 35184372088832)) (by omega)) (Below.refl _ _) (Nat.le_refl _) ?_
              intro v124 w38 ho39 hb hg_ hnew_
              clear hg_ hnew_
              (first | rw [← Ny123.out] at ho39 | (simp only [Int.reduceToNat] at ho39; rw [← Ny123.out] at ho39))
              have n0_ := Aside0.mk (Kd.V_elder' (by (with_reducible repeat (first | apply Kd.V_alloc | apply Kd.V_drewN | apply Kd.V_drew)); exact HO1_1.out) (Kd.R_base ho39) hb)
              have n1_ := Aside0.mk (Kd.V_elder' (by (with_reducible repeat (first | apply Kd.V_alloc | apply Kd.V_drewN | apply Kd.V_drew)); exact HO121.out) (Kd.R_base ho39) hb)
              have n2_ := Aside0.mk (Kd.R_lower (Kd.R_newM (M := fun k_ => (w.heap.size ≤ k_)) ho39 (keep_size (w := w) (g := g) (row := none) (by repeat (first | (with_reducible first | exact HK.out | apply KeepBut.set_ | apply keep_drewN | apply keep_drew | apply keep_alloc | refine keep_far ?_ GW116.out _ | refine keep_far ?_ GW117.out _ | refine keep_far ?_ GW126.out _) | exact HK.out))) (fun k_ h_ => h_)) (keep_size (w := w) (g := g) (row := none) (by repeat (first | (with_reducible first | exact HK.out | apply KeepBut.set_ | apply keep_drewN | apply keep_drew | apply keep_alloc | refine keep_far ?_ GW116.out _ | refine keep_far ?_ GW117.out _ | refine keep_far ?_ GW126.out _) | exact HK.out))))
              have n3_ := Aside0.mk (IsS80.below (by repeat (first | (with_reducible first | exact HI0.out | apply IsS80.alloc | apply IsS80.drewN | apply IsS80.drew | apply IsS80.set_0 | refine IsS80.far ?_ NB0_116.out _ | refine IsS80.far ?_ NB0_117.out _ | refine IsS80.far ?_ NB0_126.out _) | exact HI0.out)) hb)
              have n4_ := Aside0.mk (blk_below (g := gb116) (o := .cells #[.int .i64 t118, .slice Ao33 t119.length co33] 82 (0, 0)) (by (with_reducible repeat (first | refine blk_drewN ?_ _ | refine blk_drew ?_ | refine blk_alloc ?_ _)); exact BK116.out) hb)
              have n5_ := Aside0.mk (blk_below (g := gb117) (o := .cells #[.int .i64 0, .slice none 0 0] 82 (0, 0)) (by (with_reducible repeat (first | refine blk_drewN ?_ _ | refine blk_drew ?_ | refine blk_alloc ?_ _)); exact BK117.out) hb)
              have n6_ := Aside0.mk (blk_below (g := gb126) (o := .cells #[.int .i64 0, .slice none 0 0] 82 (0, 0)) (by (with_reducible repeat (first | refine blk_drewN ?_ _ | refine blk_drew ?_ | refine blk_alloc ?_ _)); exact BK126.out) hb)
              have n7_ := Aside0.mk (KeepBut.trans (by repeat (first | (with_reducible first | exact HK.out | apply KeepBut.set_ | apply keep_drewN | apply keep_drew | apply keep_alloc | refine keep_far ?_ GW116.out _ | refine keep_far ?_ GW117.out _ | refine keep_far ?_ GW126.out _) | exact HK.out)) (KeepBut.of_below hb g none) (.inl rfl))
              have n8_ := Aside0.mk (below_step (by repeat (first | (with_reducible first | exact HB.out | apply below_alloc | apply pw_below_drewN | apply below_drew1 | refine below_set ?_ (IsS80.ge HI0.out) | refine below_set ?_ GE116.out | refine below_set ?_ GE117.out | refine below_set ?_ GE126.out) | exact HB.out)) hb)
              clear HO1_1
              clear HO121
              clear HI0
              clear BK116
              clear BK117
              clear BK126
              clear HK
              clear HB
              have HO1_1 := n0_
              have HO121 := n1_
              have HO125 := n2_
              have HI0 := n3_
              have BK116 := n4_
              have BK117 := n5_
              have BK126 := n6_
              have HK := n7_
              have HB := n8_
              clear n0_ n1_ n2_ n3_ n4_ n5_ n6_ n7_ n8_
              clear hb ho39
              obtain ⟨Ao40, co40, eo40⟩ := Kd.R_slice HO125.out
              (first | subst eo40 | (injection eo40 with f1_ f2_ f3_; have f4_ := f1_.symm; have f5_ := f3_.symm; clear f1_ f2_ f3_; subst f4_; subst f5_))
              refine hK.out _ _ ⟨(blk_cell BK116.out 0).trans rfl, (blk_cell BK116.out 1).trans rfl⟩ (fun hHeld => ?_)
              clear hK K
              refine norm_ (a' := ?_) ?_ ?_
              rotate_left
              · show Act.put _ (some 33) _ = _
                simp only [Act.put, List.setIfInBounds_toArray, List.set_cons_zero, List.set_cons_succ, i64_w, i32_w]
                rfl
              refine pure_ (i := 16) (N := some 34) (v := ?_) (a' := ?_) #[true, true, true, true, true, true, true, true, true, true, true, true, true, true, true, true, true, true, false] rfl rfl (any_of HT_.out (by kernel_rfl)) (fun _ _ _ h => h) (Or.inl ⟨by rfl, ?_⟩) ?_ ?_
              rotate_left
              · intro w'
                go_simp
                with_reducible rfl
              rotate_left
              · simp only [Act.put, List.setIfInBounds_toArray, List.set_cons_zero, List.set_cons_succ, i64_w, i32_w]
                rfl
              exact norm_ (by simp only [putAll, Act.put, List.setIfInBounds_toArray, List.set_cons_zero, List.set_cons_succ]) (hCont (.slice Ao40 y123.length co40, gb126) _ ⟨hHeld, (by (with_reducible repeat (first | apply Kd.V_alloc | apply Kd.V_drewN | apply Kd.V_drew)); exact Kd.V_mono HO121.out (fun _ hk => ⟨hk.1.1.1, ⟨hk.2, ⟨hk.1.1.2.2.2, ⟨hk.1.1.2.1, ⟨hk.1.1.2.2.1, hk.1.2⟩⟩⟩⟩⟩)), (by (with_reducible repeat (first | apply Kd.R_alloc | apply Kd.R_drewN | apply Kd.R_drew)); exact Kd.R_mono HO125.out (fun _ hk => hk.1)), (by (with_reducible repeat (first | apply Kd.V_alloc | apply Kd.V_drewN | apply Kd.V_drew)); exact Kd.V_mono HO1_1.out (fun _ hk => ⟨hk.1.1.1, ⟨hk.2, ⟨hk.1.1.2.1, ⟨hk.1.1.2.2.1, ⟨hk.1.1.2.2.2, hk.1.2⟩⟩⟩⟩⟩)), (by (with_reducible repeat (first | refine blk_drewN ?_ _ | refine blk_drew ?_ | refine blk_alloc ?_ _)); exact BK116.out), (by (with_reducible repeat (first | refine blk_drewN ?_ _ | refine blk_drew ?_ | refine blk_alloc ?_ _)); exact BK117.out), (by (with_reducible repeat (first | refine blk_drewN ?_ _ | refine blk_drew ?_ | refine blk_alloc ?_ _)); exact BK126.out), GW126.out, GE126.out, NB0_126.out, NB126_0.out, NB116_126.out, NB126_116.out, NB117_126.out, NB126_117.out, (by repeat (first | (with_reducible first | exact HI0.out | apply IsS80.alloc | apply IsS80.drewN | apply IsS80.drew | apply IsS80.set_0 | refine IsS80.far ?_ NB0_116.out _ | refine IsS80.far ?_ NB0_117.out _ | refine IsS80.far ?_ NB0_126.out _) | exact HI0.out)), (by repeat (first | (with_reducible first | exact HK.out | apply KeepBut.set_ | apply keep_drewN | apply keep_drew | apply keep_alloc | refine keep_far ?_ GW116.out _ | refine keep_far ?_ GW117.out _ | refine keep_far ?_ GW126.out _) | exact HK.out)), (by repeat (first | (with_reducible first | exact HB.out | apply below_alloc | apply pw_below_drewN | apply below_drew1 | refine below_set ?_ (IsS80.ge HI0.out) | refine below_set ?_ GE116.out | refine below_set ?_ GE117.out | refine below_set ?_ GE126.out) | exact HB.out))⟩)
          rintro ⟨v124, gb126⟩ w41 ⟨hS_, h0_, h1_, h2_, h3_, h4_, h5_, h6_, h7_, h8_, h9_, h10_, h11_, h12_, h13_, h14_, h15_, h16_⟩
          have n0_ : Aside0 (Kd.V (Kd.int .u64) 41 w41 w.heap.size (fun k_ => (P1_1_ k_ ∨ w.heap.size ≤ k_) ∧ some k_ ≠ (v124 : Value).ownBlock ∧ k_ ≠ g ∧ k_ ≠ gb116 ∧ k_ ≠ gb117 ∧ k_ ≠ gb126) (.slice Ao33 t119.length co33) t119) := ⟨h0_⟩
          have n1_ : Aside0 (Kd.R (Kd.int .u64) 41 w41 w.heap.size (fun k_ => (w.heap.size ≤ k_)) v124 y123) := ⟨h1_⟩
          have n2_ : Aside0 (Kd.V (Kd.int .u64) 41 w41 w.heap.size (fun k_ => (P1_1_ k_ ∨ w.heap.size ≤ k_) ∧ some k_ ≠ (v124 : Value).ownBlock ∧ k_ ≠ g ∧ k_ ≠ gb116 ∧ k_ ≠ gb117 ∧ k_ ≠ gb126) (.slice A1_1 l1_1.length c1_1) l1_1) := ⟨h2_⟩
          have n3_ : Aside0 (w41.heap[gb116]? = some (.cells #[.int .i64 t118, .slice Ao33 t119.length co33] 82 (0, 0))) := ⟨h3_⟩
          have n4_ : Aside0 (w41.heap[gb117]? = some (.cells #[.int .i64 0, .slice none 0 0] 82 (0, 0))) := ⟨h4_⟩
          have n5_ : Aside0 (w41.heap[gb126]? = some (.cells #[.int .i64 0, .slice none 0 0] 82 (0, 0))) := ⟨h5_⟩
          have n6_ : Aside0 (w.heap.size ≤ gb126) := ⟨h6_⟩
          have n7_ : Aside0 (w0.heap.size ≤ gb126) := ⟨h7_⟩
          have n8_ : Aside0 (g ≠ gb126) := ⟨h8_⟩
          have n9_ : Aside0 (gb126 ≠ g) := ⟨h9_⟩
          have n10_ : Aside0 (gb116 ≠ gb126) := ⟨h10_⟩
          have n11_ : Aside0 (gb126 ≠ gb116) := ⟨h11_⟩
          have n12_ : Aside0 (gb117 ≠ gb126) := ⟨h12_⟩
          have n13_ : Aside0 (gb126 ≠ gb117) := ⟨h13_⟩
          have n14_ : Aside0 (IsS80 w0 w41 g s0_0) := ⟨h14_⟩
          have n15_ : Aside0 (KeepBut w w41 g none) := ⟨h15_⟩
          have n16_ : Aside0 (Below w0.heap.size w0 w41) := ⟨h16_⟩
          clear HO1_1
          clear HO121
          clear BK116
          clear BK117
          clear HI0
          clear HK
          clear HB
          clear h0_ h1_ h2_ h3_ h4_ h5_ h6_ h7_ h8_ h9_ h10_ h11_ h12_ h13_ h14_ h15_ h16_
          have HO121 := n0_
          have HO125 := n1_
          have HO1_1 := n2_
          have BK116 := n3_
          have BK117 := n4_
          have BK126 := n5_
          have GW126 := n6_
          have GE126 := n7_
          have NB0_126 := n8_
          have NB126_0 := n9_
          have NB116_126 := n10_
          have NB126_116 := n11_
          have NB117_126 := n12_
          have NB126_117 := n13_
          have HI0 := n14_
          have HK := n15_
          have HB := n16_
          clear n0_ n1_ n2_ n3_ n4_ n5_ n6_ n7_ n8_ n9_ n10_ n11_ n12_ n13_ n14_ n15_ n16_
          have hHeld : w41.cell? ⟨gb116, 0, none⟩ = some (.int .i64 t118) ∧ w41.cell? ⟨gb116, 1, none⟩ = some (.slice Ao33 t119.length co33) := hS_
          obtain ⟨Ao42, co42, eo42⟩ := Kd.R_slice HO125.out
          (first | subst eo42 | (injection eo42 with f1_ f2_ f3_; have f4_ := f1_.symm; have f5_ := f3_.symm; clear f1_ f2_ f3_; subst f4_; subst f5_))
          refine norm_ (a' := ?_) ?_ ?_
          rotate_left
          · simp only [putAll, Act.put, List.setIfInBounds_toArray, List.set_cons_zero, List.set_cons_succ]
            rfl
          refine one_ (i := 18) (N := none) #[true, true, true, true, true, true, true, true, true, true, true, true, true, true, true, true, true, true, true] rfl rfl (one_of HT_.out (by kernel_rfl)) (by decide) (fun K hK => ?_)
          have hs43 : w41.cell? ⟨gb126, 0, none⟩ = some (.int .i64 0) := (blk_cell BK126.out 0).trans rfl
          have hfs43 := blk_frozen BK126.out 0
          have hns43_0 := NB116_126.out
          have hns43_1 := NB117_126.out
          have hms43_0 := NB126_116.out
          have hms43_1 := NB126_117.out
          have hs44 : w41.cell? ⟨gb126, 1, none⟩ = some (.slice none 0 0) := (blk_cell BK126.out 1).trans rfl
          have hfs44 := blk_frozen BK126.out 1
          have hns44_0 := NB116_126.out
          have hns44_1 := NB117_126.out
          have hms44_0 := NB126_116.out
          have hms44_1 := NB126_117.out
          refine skip_ (w1 := ?_) (by rfl) rfl ?_ ?_
          rotate_left
          · go_simp
            rfl
          refine hK.out _ _ ⟨((cell_far (p := ⟨gb126, _, none⟩) NB116_126.out _).trans (((cell_far (p := ⟨gb126, _, none⟩) NB116_126.out _).trans (hHeld.1)))), ((cell_far (p := ⟨gb126, _, none⟩) NB116_126.out _).trans (((cell_far (p := ⟨gb126, _, none⟩) NB116_126.out _).trans (hHeld.2))))⟩ (fun hHeld => ?_)
          clear hK K
          refine done_ (done_of HT_.out (by kernel_rfl)) ?_
          have hnb45 := NB116_126.out
          have hnc45 := NB126_116.out
          have hcz46_0 : w41.cell? ⟨gb116, 0, none⟩ = some (.int .i64 t118) := (blk_cell BK116.out 0).trans rfl
          have hcz46_1 : w41.cell? ⟨gb116, 1, none⟩ = some (.slice Ao33 t119.length co33) := (blk_cell BK116.out 1).trans rfl
          have hfz46_0 := blk_frozen BK116.out 0
          have hfz46_1 := blk_frozen BK116.out 1
          try go_wp2
          go_loopg [38] k (fun kq v38 w' => ∃ (x36_1 : List Int) (x38_1 : Int) (x1000_1 : Bool) (x117001_1 : List Int) (x127001_1 : List Int) (u117001 : Value) (u127001 : Value), v38 = .int .i64 x38_1 ∧ Aside0 (merge_count_down.l0 kq a2 x36_1 (t119.length : Int) x38_1 x1000_1 t118 x117001_1 ji17 x127001_1 = some (r1, r2, r3)) ∧ Aside0 (kq ≤ k) ∧ Aside0 (Kd.V (Kd.int .u64) 41 w' w.heap.size (fun k_ => (P1_1_ k_ ∨ w.heap.size ≤ k_) ∧ some k_ ≠ (u127001 : Value).ownBlock ∧ k_ ≠ gb116 ∧ k_ ≠ gb117 ∧ k_ ≠ gb126 ∧ k_ ≠ g) (.slice Ao33 t119.length co33) x36_1) ∧ Aside0 (Kd.V (Kd.int .u64) 41 w' w.heap.size (fun k_ => (P1_1_ k_ ∨ w.heap.size ≤ k_) ∧ some k_ ≠ (u127001 : Value).ownBlock ∧ k_ ≠ gb116 ∧ k_ ≠ gb117 ∧ k_ ≠ gb126 ∧ k_ ≠ g) u117001 x117001_1) ∧ Aside0 (Kd.R (Kd.int .u64) 41 w' w.heap.size (fun k_ => (w.heap.size ≤ k_)) u127001 x127001_1) ∧ Aside0 (w'.heap[gb116]? = some (.cells #[.int .i64 t118, u117001] 82 (0, 0))) ∧ Aside0 (w'.heap[gb117]? = some (.cells #[.int .i64 0, (.slice none 0 0)] 82 (0, 0))) ∧ Aside0 (w'.heap[gb126]? = some (.cells #[.int .i64 ji17, u127001] 82 (0, 0))) ∧ Aside0 (IsS80 w0 w' g x1000_1) ∧ Aside0 (KeepBut w w' g none) ∧ Aside0 (Below w0.heap.size w0 w'))
          case atStart => exact ⟨(t119), (0), (s0_0), (t119), (y123), (.slice Ao33 t119.length co33), (.slice Ao42 y123.length co42), (by first | rfl | (simp; done) | (simp [*]; done)), H', ⟨Nat.le_refl _⟩, ⟨by (with_reducible repeat (first | apply Kd.V_alloc | apply Kd.V_drewN | apply Kd.V_drew)); exact Kd.V_mono (Kd.V_far (p := ⟨gb126, 1, none⟩) (Kd.V_far (p := ⟨gb126, 0, none⟩) (Kd.V_mono HO121.out (fun k_ hk => (⟨hk, hk.2.2.2.2.2⟩ : _ ∧ k_ ≠ gb126))) (fun _ hk => hk.2) (.int .i64 ji17)) (fun _ hk => hk.2) (.slice Ao42 y123.length co42)) (fun _ hk => ⟨hk.1.1, ⟨hk.1.2.1, ⟨hk.1.2.2.2.1, ⟨hk.1.2.2.2.2.1, ⟨hk.1.2.2.2.2.2, hk.1.2.2.1⟩⟩⟩⟩⟩)⟩, ⟨by (with_reducible repeat (first | apply Kd.V_alloc | apply Kd.V_drewN | apply Kd.V_drew)); exact Kd.V_mono (Kd.V_far (p := ⟨gb126, 1, none⟩) (Kd.V_far (p := ⟨gb126, 0, none⟩) (Kd.V_mono HO121.out (fun k_ hk => (⟨hk, hk.2.2.2.2.2⟩ : _ ∧ k_ ≠ gb126))) (fun _ hk => hk.2) (.int .i64 ji17)) (fun _ hk => hk.2) (.slice Ao42 y123.length co42)) (fun _ hk => ⟨hk.1.1, ⟨hk.1.2.1, ⟨hk.1.2.2.2.1, ⟨hk.1.2.2.2.2.1, ⟨hk.1.2.2.2.2.2, hk.1.2.2.1⟩⟩⟩⟩⟩)⟩, ⟨by (with_reducible repeat (first | apply Kd.R_alloc | apply Kd.R_drewN | apply Kd.R_drew)); exact Kd.R_mono (Kd.R_far (p := ⟨gb126, 1, none⟩) (Kd.R_far (p := ⟨gb126, 0, none⟩) (Kd.R_types HO125.out BK126.out (by decide)) (fun _ hk => hk.2) (.int .i64 ji17)) (fun _ hk => hk.2) (.slice Ao42 y123.length co42)) (fun _ hk => hk.1)⟩, ⟨by (with_reducible repeat (first | refine blk_drewN ?_ _ | refine blk_drew ?_ | refine blk_alloc ?_ _)); refine blk_far ?_ NB116_126.out _; (with_reducible repeat (first | refine blk_drewN ?_ _ | refine blk_drew ?_ | refine blk_alloc ?_ _)); refine blk_far ?_ NB116_126.out _; (with_reducible repeat (first | refine blk_drewN ?_ _ | refine blk_drew ?_ | refine blk_alloc ?_ _)); exact BK116.out⟩, ⟨by (with_reducible repeat (first | refine blk_drewN ?_ _ | refine blk_drew ?_ | refine blk_alloc ?_ _)); refine blk_far ?_ NB117_126.out _; (with_reducible repeat (first | refine blk_drewN ?_ _ | refine blk_drew ?_ | refine blk_alloc ?_ _)); refine blk_far ?_ NB117_126.out _; (with_reducible repeat (first | refine blk_drewN ?_ _ | refine blk_drew ?_ | refine blk_alloc ?_ _)); exact BK117.out⟩, ⟨by (with_reducible repeat (first | refine blk_drewN ?_ _ | refine blk_drew ?_ | refine blk_alloc ?_ _)); refine blk_put (cs := #[.int .i64 ji17, .slice none 0 0]) ?_ 1 _ rfl; (with_reducible repeat (first | refine blk_drewN ?_ _ | refine blk_drew ?_ | refine blk_alloc ?_ _)); refine blk_put (cs := #[.int .i64 0, .slice none 0 0]) ?_ 0 _ rfl; (with_reducible repeat (first | refine blk_drewN ?_ _ | refine blk_drew ?_ | refine blk_alloc ?_ _)); exact BK126.out⟩, ⟨by repeat (first | (with_reducible first | exact HI0.out | apply IsS80.alloc | apply IsS80.drewN | apply IsS80.drew | apply IsS80.set_0 | refine IsS80.far ?_ NB0_116.out _ | refine IsS80.far ?_ NB0_117.out _ | refine IsS80.far ?_ NB0_126.out _) | exact HI0.out)⟩, ⟨by repeat (first | (with_reducible first | exact HK.out | apply KeepBut.set_ | apply keep_drewN | apply keep_drew | apply keep_alloc | refine keep_far ?_ GW116.out _ | refine keep_far ?_ GW117.out _ | refine keep_far ?_ GW126.out _) | exact HK.out)⟩, ⟨by repeat (first | (with_reducible first | exact HB.out | apply below_alloc | apply pw_below_drewN | apply below_drew1 | refine below_set ?_ (IsS80.ge HI0.out) | refine below_set ?_ GE116.out | refine below_set ?_ GE117.out | refine below_set ?_ GE126.out) | exact HB.out)⟩⟩
          case round =>
            clear H'
            try clear c1
            try clear p2
            try clear c4
            try clear p6
            try clear c7
            try clear c45
            try clear hcz46_0
            try clear hcz46_1
            try clear hfz46_0
            try clear hfz46_1
            try clear HA
            try clear HK1
            try clear HO_36
            try clear HO_117001
            try clear HO_127001
            try clear BK116
            try clear BK117
            try clear BK126
            try clear HI0
            try clear HK
            try clear HB
            obtain ⟨x36_1, x38_1, x1000_1, x117001_1, x127001_1, u117001, u127001, rfl, HA, HK1, HO_36, HO_117001, HO_127001, BK116, BK117, BK126, HI0, HK, HB⟩ := hrel
            have hl36_1 := (Kd.V_reads' HO_36.out).1
            rw [hl36_1] at HO_36
            (try simp only [hl36_1])
            (try simp only [hl36_1] at BK116)
            (try simp only [hl36_1] at BK117)
            (try simp only [hl36_1] at BK126)
            (try simp only [hl36_1] at HO_117001)
            (try simp only [hl36_1] at HO_127001)
            cases gk with
            | zero => exact absurd HA.out (by simp [merge_count_down.l0])
            | succ k1 =>
              have H := HA.out
              clear HA
              simp only [merge_count_down.l0] at H
              by_cases c47 : x38_1 < (t119.length : Int)
              · rw [if_pos c47] at H
                have c47b0 : decide (x38_1 < (t119.length : Int)) = true := decide_eq_true c47
                (try rw [hl36_1] at c47b0)
                clear c47
                by_cases c48 : 0 ≤ x38_1
                · rw [if_pos c48] at H
                  have c48b0 : decide (0 ≤ x38_1) = true := decide_eq_true c48
                  clear c48
                  by_cases c49 : x38_1 < (x36_1.length : Int)
                  · rw [if_pos c49] at H
                    have c49b0 : decide (x38_1 < (x36_1.length : Int)) = true := decide_eq_true c49
                    clear c49
                    by_cases c50 : 0 ≤ a2
                    · rw [if_pos c50] at H
                      have c50b0 := eq_true c50
                      have c50b1 : decide (0 ≤ a2) = true := decide_eq_true c50
                      clear c50
                      obtain ⟨ji51, hji51⟩ : ∃ j_ : Int, (shr .i64 (wrap64 (t118 + x38_1)) a2) = j_ := ⟨_, rfl⟩
                      replace H : (if 0 ≤ (wrap64 ((ji51) - ji17)) then (if (wrap64 ((ji51) - ji17)) < (x127001_1.length : Int) then ((merge_count_plus.f x1000_1 (rd x127001_1 (wrap64 ((ji51) - ji17))) (rd x36_1 x38_1)).bind fun bt129 => (merge_count_down.l0 k1 a2 x36_1 (t119.length : Int) (wrap64 (x38_1 + 1)) bt129.2 t118 x117001_1 ji17 (x127001_1.set ((wrap64 ((ji51) - ji17)) : Int).toNat bt129.1))) else (none)) else (none)) = some (r1, r2, r3) := by first | (rw [hji51] at H; exact H) | (simp only [hji51] at H ⊢; exact H)
                      have hji51_ : ((wrap64 (t118 + x38_1)) / 2 ^ min a2.toNat 64) = ji51 := hji51
                      have hji51z : a2 ≤ 64 → ((wrap64 (t118 + x38_1)) / 2 ^ a2.toNat) = ji51 := shr_small hji51
                      obtain ⟨ji52, hji52⟩ : ∃ j_ : Int, (wrap64 ((ji51) - ji17)) = j_ := ⟨_, rfl⟩
                      replace H : (if 0 ≤ (ji52) then (if (ji52) < (x127001_1.length : Int) then ((merge_count_plus.f x1000_1 (rd x127001_1 (ji52)) (rd x36_1 x38_1)).bind fun bt129 => (merge_count_down.l0 k1 a2 x36_1 (t119.length : Int) (wrap64 (x38_1 + 1)) bt129.2 t118 x117001_1 ji17 (x127001_1.set ((ji52) : Int).toNat bt129.1))) else (none)) else (none)) = some (r1, r2, r3) := by first | (rw [hji52] at H; exact H) | (simp only [hji52] at H ⊢; exact H)
                      have hji52w : (IntKind.i64.wrap ((ji51) - ji17)) = ji52 := (i64_w _).trans hji52
                      by_cases c53 : 0 ≤ (ji52)
                      · rw [if_pos c53] at H
                        have c53b0 : decide (0 ≤ (ji52)) = true := decide_eq_true c53
                        clear c53
                        by_cases c54 : (ji52) < (x127001_1.length : Int)
                        · rw [if_pos c54] at H
                          have c54b0 : decide ((ji52) < (x127001_1.length : Int)) = true := decide_eq_true c54
                          clear c54
                          replace H := Option.bind_eq_some_iff.mp H
                          obtain ⟨⟨t129, t130⟩, A550, H⟩ := H
                          replace H : (merge_count_down.l0 k1 a2 x36_1 (t119.length : Int) (wrap64 (x38_1 + 1)) t130 t118 x117001_1 ji17 (x127001_1.set ((ji52) : Int).toNat t129)) = some (r1, r2, r3) := H
                          have A55 := Aside0.mk A550
                          clear A550
                          obtain ⟨y131, hy131⟩ : ∃ y_ : List Int, y_ = (x127001_1.set ((ji52) : Int).toNat t129) := ⟨_, rfl⟩
                          replace H : (merge_count_down.l0 k1 a2 x36_1 (t119.length : Int) (wrap64 (x38_1 + 1)) t130 t118 x117001_1 ji17 y131) = some (r1, r2, r3) := by first | (rw [hy131]; with_reducible exact H) | (have H2_ := (Option.bind_some _ _).symm.trans H; rw [hy131]; with_reducible exact H2_) | (have H2_ := (Option.bind_some _ _).symm.trans H; with_reducible exact H2_) | with_reducible exact H | (rw [hy131]; exact H) | exact H
                          have Ny131 := Aside0.mk hy131
                          clear hy131
                          have H' := Aside0.mk H
                          clear H
                          have p127 : 0 ≤ (x38_1 : Int) := of_decide_eq_true (by first | (with_reducible assumption) | assumption)
                          have q127 : x38_1 < (x36_1.length : Int) := of_decide_eq_true (by first | (with_reducible assumption) | assumption)
                          obtain ⟨ad127, e127, hx127_0⟩ := Kd.at_int (Kd.V_reads' HO_36.out).2.2 x38_1 p127 q127
                          cases e127
                          replace p127 := eq_true p127
                          replace q127 := eq_true q127
                          try go_wp2
                          have n0_ := Aside0.mk (Kd.V_drew HO_36.out)
                          have n1_ := Aside0.mk (Kd.V_drew HO_117001.out)
                          have n2_ := Aside0.mk (Kd.R_drew HO_127001.out)
                          have n3_ := Aside0.mk (blk_drew BK116.out)
                          have n4_ := Aside0.mk (blk_drew BK117.out)
                          have n5_ := Aside0.mk (blk_drew BK126.out)
                          have n6_ := Aside0.mk (IsS80.drew HI0.out)
                          have n7_ := Aside0.mk (keep_drew HK.out)
                          have n8_ := Aside0.mk (below_drew1 HB.out)
                          clear HO_36
                          clear HO_117001
                          clear HO_127001
                          clear BK116
                          clear BK117
                          clear BK126
                          clear HI0
                          clear HK
                          clear HB
                          have HO_36 := n0_
                          have HO_117001 := n1_
                          have HO_127001 := n2_
                          have BK116 := n3_
                          have BK117 := n4_
                          have BK126 := n5_
                          have HI0 := n6_
                          have HK := n7_
                          have HB := n8_
                          clear n0_ n1_ n2_ n3_ n4_ n5_ n6_ n7_ n8_
                          refine start_ (n := 10) (S := fun w' => w'.cell? ⟨gb116, 0, none⟩ = some (.int .i64 t118) ∧ w'.cell? ⟨gb116, 1, none⟩ = some (u117001) ∧ w'.cell? ⟨gb126, 0, none⟩ = some (.int .i64 ji17) ∧ w'.cell? ⟨gb126, 1, none⟩ = some (u127001)) (ds := []) #[false, false, false, false, false, false, false, false, false, false] (by kernel_rfl) rfl rfl ⟨(blk_cell BK116.out 0).trans rfl, (blk_cell BK116.out 1).trans rfl, (blk_cell BK126.out 0).trans rfl, (blk_cell BK126.out 1).trans rfl⟩ (fun hHeld => ?_); refine with_tabW merge_count_down.tab8 merge_count_down.bits8 (fun HT_ HW_ => ?_)
                          generalize wr.drew = w57 at HO_36 HO_117001 HO_127001 BK116 BK117 BK126 HI0 HK HB hHeld ⊢
                          refine pure_ (i := 0) (N := some 43) (v := ?_) (a' := ?_) #[true, false, false, false, false, false, false, false, false, false] rfl rfl (any_of HT_.out (by kernel_rfl)) (fun _ _ _ h => h) (Or.inl ⟨by rfl, ?_⟩) ?_ ?_
                          rotate_left
                          · intro w'
                            go_simp
                            with_reducible rfl
                          rotate_left
                          · simp only [Act.put, List.setIfInBounds_toArray, List.set_cons_zero, List.set_cons_succ, i64_w, i32_w]
                            rfl
                          refine pure_ (i := 2) (N := some 45) (v := ?_) (a' := ?_) #[true, false, true, false, false, false, false, false, false, false] rfl rfl (any_of HT_.out (by kernel_rfl)) (fun _ _ _ h => h) (Or.inl ⟨by rfl, ?_⟩) ?_ ?_
                          rotate_left
                          · intro w'
                            go_simp
                            with_reducible rfl
                          rotate_left
                          · simp only [Act.put, List.setIfInBounds_toArray, List.set_cons_zero, List.set_cons_succ, i64_w, i32_w]
                            rfl
                          refine pure_ (i := 4) (N := some 47) (v := ?_) (a' := ?_) #[true, false, true, false, true, false, false, false, false, false] rfl rfl (any_of HT_.out (by kernel_rfl)) (fun _ _ _ h => h) (Or.inl ⟨by rfl, ?_⟩) ?_ ?_
                          rotate_left
                          · intro w'
                            go_simp
                            with_reducible rfl
                          rotate_left
                          · simp only [Act.put, List.setIfInBounds_toArray, List.set_cons_zero, List.set_cons_succ, i64_w, i32_w]
                            rfl
                          refine pure_ (i := 6) (N := some 49) (v := ?_) (a' := ?_) #[true, false, true, false, true, false, true, false, false, false] rfl rfl (any_of HT_.out (by kernel_rfl)) (fun _ _ _ h => h) (Or.inl ⟨by rfl, ?_⟩) ?_ ?_
                          rotate_left
                          · intro w'
                            go_simp
                            with_reducible rfl
                          rotate_left
                          · simp only [Act.put, List.setIfInBounds_toArray, List.set_cons_zero, List.set_cons_succ, i64_w, i32_w]
                            rfl
                          refine take_ (i := 1) (N := some 44) (v := ?_) (a' := ?_) #[true, true, true, false, true, false, true, false, false, false] rfl rfl (take_ofW HT_.out HW_.out (by kernel_rfl)) (fun _ _ _ h => h) (Or.inl ⟨by rfl, ?_⟩) hHeld ?_ ?_
                          rotate_left
                          · rintro w' ⟨s0, s1, s2, s3⟩
                            go_simp
                            with_reducible rfl
                          rotate_left
                          · simp only [Act.put, List.setIfInBounds_toArray, List.set_cons_zero, List.set_cons_succ, i64_w, i32_w]
                            rfl
                          refine pure_ (i := 3) (N := some 46) (v := ?_) (a' := ?_) #[true, true, true, true, true, false, true, false, false, false] rfl rfl (any_of HT_.out (by kernel_rfl)) (fun _ _ _ h => h) (Or.inl ⟨by rfl, ?_⟩) ?_ ?_
                          rotate_left
                          · intro w'
                            go_simp
                            with_reducible rfl
                          rotate_left
                          · simp only [Act.put, List.setIfInBounds_toArray, List.set_cons_zero, List.set_cons_succ, i64_w, i32_w]
                            rfl
                          refine pure_ (i := 5) (N := some 48) (v := ?_) (a' := ?_) #[true, true, true, true, true, true, true, false, false, false] rfl rfl (any_of HT_.out (by kernel_rfl)) (fun _ _ _ h => h) (Or.inl ⟨by rfl, ?_⟩) ?_ ?_
                          rotate_left
                          · intro w'
                            go_simp
                            with_reducible rfl
                          rotate_left
                          · simp only [Act.put, List.setIfInBounds_toArray, List.set_cons_zero, List.set_cons_succ, i64_w, i32_w]
                            rfl
                          refine take_ (i := 7) (N := some 50) (v := ?_) (a' := ?_) #[true, true, true, true, true, true, true, true, false, false] rfl rfl (take_ofW HT_.out HW_.out (by kernel_rfl)) (fun _ _ _ h => h) (Or.inl ⟨by rfl, ?_⟩) hHeld ?_ ?_
                          rotate_left
                          · rintro w' ⟨s0, s1, s2, s3⟩
                            go_simp
                            with_reducible rfl
                          rotate_left
                          · simp only [Act.put, List.setIfInBounds_toArray, List.set_cons_zero, List.set_cons_succ, i64_w, i32_w]
                            rfl
                          refine pure_ (i := 8) (N := some 51) (v := ?_) (a' := ?_) #[true, true, true, true, true, true, true, true, true, false] rfl rfl (any_of HT_.out (by kernel_rfl)) (fun _ _ _ h => h) (Or.inl ⟨by rfl, ?_⟩) ?_ ?_
                          rotate_left
                          · intro w'
                            go_simp
                            with_reducible rfl
                          rotate_left
                          · simp only [Act.put, List.setIfInBounds_toArray, List.set_cons_zero, List.set_cons_succ, i64_w, i32_w]
                            rfl
                          refine pure_ (i := 9) (N := some 10) (v := ?_) (a' := ?_) #[true, true, true, true, true, true, true, true, true, true] rfl rfl (any_of HT_.out (by kernel_rfl)) (fun _ _ _ h => h) (Or.inl ⟨by rfl, ?_⟩) ?_ ?_
                          rotate_left
                          · intro w'
                            go_simp
                            with_reducible rfl
                          rotate_left
                          · simp only [Act.put, List.setIfInBounds_toArray, List.set_cons_zero, List.set_cons_succ, i64_w, i32_w]
                            rfl
                          refine done_ (done_of HT_.out (by kernel_rfl)) ?_
                          try go_wp2
                          have n0_ := Aside0.mk (Kd.V_drew HO_36.out)
                          have n1_ := Aside0.mk (Kd.V_drew HO_117001.out)
                          have n2_ := Aside0.mk (Kd.R_drew HO_127001.out)
                          have n3_ := Aside0.mk (blk_drew BK116.out)
                          have n4_ := Aside0.mk (blk_drew BK117.out)
                          have n5_ := Aside0.mk (blk_drew BK126.out)
                          have n6_ := Aside0.mk (IsS80.drew HI0.out)
                          have n7_ := Aside0.mk (keep_drew HK.out)
                          have n8_ := Aside0.mk (below_drew1 HB.out)
                          clear HO_36
                          clear HO_117001
                          clear HO_127001
                          clear BK116
                          clear BK117
                          clear BK126
                          clear HI0
                          clear HK
                          clear HB
                          have HO_36 := n0_
                          have HO_117001 := n1_
                          have HO_127001 := n2_
                          have BK116 := n3_
                          have BK117 := n4_
                          have BK126 := n5_
                          have HI0 := n6_
                          have HK := n7_
                          have HB := n8_
                          clear n0_ n1_ n2_ n3_ n4_ n5_ n6_ n7_ n8_
                          obtain ⟨Ao59, co59, eo59⟩ := Kd.R_slice HO_127001.out
                          (first | subst eo59 | (injection eo59 with f1_ f2_ f3_; have f4_ := f1_.symm; have f5_ := f3_.symm; clear f1_ f2_ f3_; subst f4_; subst f5_))
                          have p128 : 0 ≤ ((ji52) : Int) := of_decide_eq_true (by first | (with_reducible assumption) | assumption)
                          have q128 : (ji52) < (x127001_1.length : Int) := of_decide_eq_true (by first | (with_reducible assumption) | assumption)
                          obtain ⟨ad128, e128, hx128_0⟩ := Kd.at_int (Kd.R_reads' HO_127001.out).2.2 (ji52) p128 q128
                          cases e128
                          replace p128 := eq_true p128
                          replace q128 := eq_true q128
                          refine start_ (n := 13) (S := fun w' => w'.cell? ⟨gb126, 0, none⟩ = some (.int .i64 ji17) ∧ w'.cell? ⟨gb126, 1, none⟩ = some (.slice (some ad128) x127001_1.length co59) ∧ w'.cell? (ad128.add ((ji52)).toNat) = some (.int .u64 (rd x127001_1 (ji52)))) (ds := [12]) #[false, false, false, false, false, false, false, false, false, false, false, false, false] (by kernel_rfl) rfl rfl ⟨(blk_cell BK126.out 0).trans rfl, (blk_cell BK126.out 1).trans rfl, hx128_0⟩ (fun hHeld => ?_); refine with_tabW merge_count_down.tab9 merge_count_down.bits9 (fun HT_ HW_ => ?_)
                          generalize w57.drew = w58 at HO_36 HO_117001 HO_127001 BK116 BK117 BK126 HI0 HK HB hx128_0 hHeld ⊢
                          refine pure_ (i := 0) (N := some 52) (v := ?_) (a' := ?_) #[true, false, false, false, false, false, false, false, false, false, false, false, false] rfl rfl (any_of HT_.out (by kernel_rfl)) (fun _ _ _ h => h) (Or.inl ⟨by rfl, ?_⟩) ?_ ?_
                          rotate_left
                          · intro w'
                            go_simp
                            with_reducible rfl
                          rotate_left
                          · simp only [Act.put, List.setIfInBounds_toArray, List.set_cons_zero, List.set_cons_succ, i64_w, i32_w]
                            rfl
                          refine pure_ (i := 2) (N := some 54) (v := ?_) (a' := ?_) #[true, false, true, false, false, false, false, false, false, false, false, false, false] rfl rfl (any_of HT_.out (by kernel_rfl)) (fun _ _ _ h => h) (Or.inl ⟨by rfl, ?_⟩) ?_ ?_
                          rotate_left
                          · intro w'
                            go_simp
                            with_reducible rfl
                          rotate_left
                          · simp only [Act.put, List.setIfInBounds_toArray, List.set_cons_zero, List.set_cons_succ, i64_w, i32_w]
                            rfl
                          refine pure_ (i := 3) (N := some 55) (v := ?_) (a' := ?_) #[true, false, true, true, false, false, false, false, false, false, false, false, false] rfl rfl (any_of HT_.out (by kernel_rfl)) (fun _ _ _ h => h) (Or.inl ⟨by rfl, ?_⟩) ?_ ?_
                          rotate_left
                          · intro w'
                            go_simp
                            with_reducible rfl
                          rotate_left
                          · simp only [Act.put, List.setIfInBounds_toArray, List.set_cons_zero, List.set_cons_succ, i64_w, i32_w]
                            rfl
                          refine pure_ (i := 4) (N := some 56) (v := ?_) (a' := ?_) #[true, false, true, true, true, false, false, false, false, false, false, false, false] rfl rfl (any_of HT_.out (by kernel_rfl)) (fun _ _ _ h => h) (Or.inl ⟨by rfl, ?_⟩) ?_ ?_
                          rotate_left
                          · intro w'
                            go_simp
                            with_reducible rfl
                          rotate_left
                          · simp only [Act.put, List.setIfInBounds_toArray, List.set_cons_zero, List.set_cons_succ, i64_w, i32_w]
                            rfl
                          refine pure_ (i := 6) (N := some 58) (v := ?_) (a' := ?_) #[true, false, true, true, true, false, true, false, false, false, false, false, false] rfl rfl (any_of HT_.out (by kernel_rfl)) (fun _ _ _ h => h) (Or.inl ⟨by rfl, ?_⟩) ?_ ?_
                          rotate_left
                          · intro w'
                            go_simp
                            with_reducible rfl
                          rotate_left
                          · simp only [Act.put, List.setIfInBounds_toArray, List.set_cons_zero, List.set_cons_succ, i64_w, i32_w]
                            rfl
                          refine pure_ (i := 9) (N := some 61) (v := ?_) (a' := ?_) #[true, false, true, true, true, false, true, false, false, true, false, false, false] rfl rfl (any_of HT_.out (by kernel_rfl)) (fun _ _ _ h => h) (Or.inl ⟨by rfl, ?_⟩) ?_ ?_
                          rotate_left
                          · intro w'
                            go_simp
                            with_reducible rfl
                          rotate_left
                          · simp only [Act.put, List.setIfInBounds_toArray, List.set_cons_zero, List.set_cons_succ, i64_w, i32_w]
                            rfl
                          refine take_ (i := 1) (N := some 53) (v := ?_) (a' := ?_) #[true, true, true, true, true, false, true, false, false, true, false, false, false] rfl rfl (take_ofW HT_.out HW_.out (by kernel_rfl)) (fun _ _ _ h => h) (Or.inl ⟨by rfl, ?_⟩) hHeld ?_ ?_
                          rotate_left
                          · rintro w' ⟨s0, s1, s2⟩
                            go_simp
                            with_reducible rfl
                          rotate_left
                          · simp only [Act.put, List.setIfInBounds_toArray, List.set_cons_zero, List.set_cons_succ, i64_w, i32_w]
                            rfl
                          refine take_ (i := 5) (N := some 57) (v := ?_) (a' := ?_) #[true, true, true, true, true, true, true, false, false, true, false, false, false] rfl rfl (take_ofW HT_.out HW_.out (by kernel_rfl)) (fun _ _ _ h => h) (Or.inl ⟨by rfl, ?_⟩) hHeld ?_ ?_
                          rotate_left
                          · rintro w' ⟨s0, s1, s2⟩
                            go_simp
                            with_reducible rfl
                          rotate_left
                          · simp only [Act.put, List.setIfInBounds_toArray, List.set_cons_zero, List.set_cons_succ, i64_w, i32_w]
                            rfl
                          refine pure_ (i := 7) (N := some 59) (v := ?_) (a' := ?_) #[true, true, true, true, true, true, true, true, false, true, false, false, false] rfl rfl (any_of HT_.out (by kernel_rfl)) (fun _ _ _ h => h) (Or.inl ⟨by rfl, ?_⟩) ?_ ?_
                          rotate_left
                          · intro w'
                            go_simp
                            with_reducible rfl
                          rotate_left
                          · simp only [Act.put, List.setIfInBounds_toArray, List.set_cons_zero, List.set_cons_succ, i64_w, i32_w]
                            rfl
                          refine take_ (i := 8) (N := some 60) (v := ?_) (a' := ?_) #[true, true, true, true, true, true, true, true, true, true, false, false, false] rfl rfl (take_ofW HT_.out HW_.out (by kernel_rfl)) (fun _ _ _ h => h) (Or.inl ⟨by rfl, ?_⟩) hHeld ?_ ?_
                          rotate_left
                          · rintro w' ⟨s0, s1, s2⟩
                            go_simp
                            with_reducible rfl
                          rotate_left
                          · simp only [Act.put, List.setIfInBounds_toArray, List.set_cons_zero, List.set_cons_succ, i64_w, i32_w]
                            rfl
                          refine one_ (i := 10) (N := some 62) #[true, true, true, true, true, true, true, true, true, true, true, false, false] rfl rfl (one_of HT_.out (by kernel_rfl)) (by decide) (fun K hK => ?_)
                          refine goes_ Tryd.func53 (by kernel_rfl) rfl #[.pointer (some ⟨g, 0, none⟩), .int .u64 (rd x127001_1 (ji52)), .int .u64 (rd x36_1 x38_1)] (by rfl) rfl rfl (by (try simp only [List.map_toArray, List.map_cons, List.map_nil]); first | done | (simp only [hji52]; rfl) | rfl | (simp only [List.length_drop, List.length_take]; rfl)) ?_
                          with_reducible refine (merge_count_plus.calls g x1000_1 (rd x127001_1 (ji52)) (rd x36_1 x38_1) t129 t130 w0 _ ?side1 ?side2 A55.out).mono ?_
                          (case side1 => repeat (first | (with_reducible first | exact HI0.out | apply IsS80.alloc | apply IsS80.drewN | apply IsS80.drew | apply IsS80.set_0 | refine IsS80.far ?_ NB0_116.out _ | refine IsS80.far ?_ NB0_117.out _ | refine IsS80.far ?_ NB0_126.out _) | exact HI0.out))
                          (case side2 => repeat (first | (with_reducible first | exact HB.out | apply below_alloc | apply pw_below_drewN | apply below_drew1 | refine below_set ?_ (IsS80.ge HI0.out) | refine below_set ?_ GE116.out | refine below_set ?_ GE117.out | refine below_set ?_ GE126.out) | exact HB.out))
                          rintro e w60 ⟨rfl, hi, hb, hk⟩
                          have HS2_ := keep_cell hk (hHeld.2.2) (by first | (rw [add_block]; exact Kd.own_blk (IsS80.own_ne HI0.out HO_127001.out (by decide))) | (show (Addr.add _ _).block ≠ _; rw [add_block]; exact Kd.own_blk (IsS80.own_ne HI0.out HO_127001.out (by decide))) | exact Kd.own_blk (IsS80.own_ne HI0.out HO_127001.out (by decide)))
                          refine ⟨_, rfl, ?_⟩
                          have n0_ := Aside0.mk (Kd.V_mono (Kd.V_keep (Kd.V_mono (ok := fun k_ => (((P1_1_ k_ ∨ w.heap.size ≤ k_)) ∧ (some k_ ≠ (.slice (some ad128) x127001_1.length co59 : Value).ownBlock ∧ (k_ ≠ gb116 ∧ (k_ ≠ gb117 ∧ (k_ ≠ gb126 ∧ k_ ≠ g)))))) (by (with_reducible repeat (first | apply Kd.V_alloc | apply Kd.V_drewN | apply Kd.V_drew)); exact HO_36.out) (fun k_ hk_ => (⟨hk_, hk_.2.2.2.2.2⟩ : _ ∧ k_ ≠ g))) hk (fun _ h => h.2)) (fun _ h => h.1))
                          have n1_ := Aside0.mk (Kd.V_mono (Kd.V_keep (Kd.V_mono (ok := fun k_ => (((P1_1_ k_ ∨ w.heap.size ≤ k_)) ∧ (some k_ ≠ (.slice (some ad128) x127001_1.length co59 : Value).ownBlock ∧ (k_ ≠ gb116 ∧ (k_ ≠ gb117 ∧ (k_ ≠ gb126 ∧ k_ ≠ g)))))) (by (with_reducible repeat (first | apply Kd.V_alloc | apply Kd.V_drewN | apply Kd.V_drew)); exact HO_117001.out) (fun k_ hk_ => (⟨hk_, hk_.2.2.2.2.2⟩ : _ ∧ k_ ≠ g))) hk (fun _ h => h.2)) (fun _ h => h.1))
                          have n2_ := Aside0.mk (Kd.R_mono (Kd.R_keep (IsS80.apart (show IsS80 w0 _ g x1000_1 from by repeat (first | (with_reducible first | exact HI0.out | apply IsS80.alloc | apply IsS80.drewN | apply IsS80.drew | apply IsS80.set_0 | refine IsS80.far ?_ NB0_116.out _ | refine IsS80.far ?_ NB0_117.out _ | refine IsS80.far ?_ NB0_126.out _) | exact HI0.out)) (by (with_reducible repeat (first | apply Kd.R_alloc | apply Kd.R_drewN | apply Kd.R_drew)); exact HO_127001.out) (by decide)) hk (fun _ h => h.2)) (fun _ h => h.1))
                          have n3_ := Aside0.mk (KeepBut.blk hk (g' := gb116) (o := .cells #[.int .i64 t118, u117001] 82 (0, 0)) (by (with_reducible repeat (first | refine blk_drewN ?_ _ | refine blk_drew ?_ | refine blk_alloc ?_ _)); exact BK116.out) NB116_0.out (by simp))
                          have n4_ := Aside0.mk (KeepBut.blk hk (g' := gb117) (o := .cells #[.int .i64 0, .slice none 0 0] 82 (0, 0)) (by (with_reducible repeat (first | refine blk_drewN ?_ _ | refine blk_drew ?_ | refine blk_alloc ?_ _)); exact BK117.out) NB117_0.out (by simp))
                          have n5_ := Aside0.mk (KeepBut.blk hk (g' := gb126) (o := .cells #[.int .i64 ji17, .slice (some ad128) x127001_1.length co59] 82 (0, 0)) (by (with_reducible repeat (first | refine blk_drewN ?_ _ | refine blk_drew ?_ | refine blk_alloc ?_ _)); exact BK126.out) NB126_0.out (by simp))
                          have n6_ := Aside0.mk (KeepBut.trans (by repeat (first | (with_reducible first | exact HK.out | apply KeepBut.set_ | apply keep_drewN | apply keep_drew | apply keep_alloc | refine keep_far ?_ GW116.out _ | refine keep_far ?_ GW117.out _ | refine keep_far ?_ GW126.out _) | exact HK.out)) hk (.inl rfl))
                          have n7_ := Aside0.mk (hb)
                          have n8_ := Aside0.mk (hi)
                          clear HO_36
                          clear HO_117001
                          clear HO_127001
                          clear BK116
                          clear BK117
                          clear BK126
                          clear HK
                          clear HB
                          clear HI0
                          have HO_36 := n0_
                          have HO_117001 := n1_
                          have HO_127001 := n2_
                          have BK116 := n3_
                          have BK117 := n4_
                          have BK126 := n5_
                          have HK := n6_
                          have HB := n7_
                          have HI0 := n8_
                          clear n0_ n1_ n2_ n3_ n4_ n5_ n6_ n7_ n8_
                          (try clear hb)
                          (try clear hb2)
                          (try clear hk)
                          (try clear hi)
                          have p56 : 0 ≤ ((ji52) : Int) := of_decide_eq_true (by first | (with_reducible assumption) | assumption)
                          have q56 : ((ji52) : Int) < ((x127001_1.length : Int) : Int) := of_decide_eq_true (by first | (with_reducible assumption) | assumption)
                          obtain ⟨go56, co56, eo56, gb56, gl56, cl56, HG56⟩ := Kd.R_form HO_127001.out (by omega)
                          (first | cases eo56 | (injection eo56 with ea_ en_ ec_; (first | subst ea_ | (injection ea_ with ea_; subst ea_)); subst ec_; clear en_))
                          have GB56 := Aside0.mk gb56
                          have GG56 := Aside0.mk HG56
                          clear gb56 gl56 HG56
                          (first | simp only [add_plain] at hx128_0 | skip)
                          obtain ⟨hx56_0, hf56_0⟩ := Kd.R_celln 0 HO_127001.out ((ji52) : Int) p56 q56
                          replace p56 := eq_true p56
                          replace q56 := eq_true q56
                          have HN0_go56 := Aside0.mk (show g ≠ go56 from by have h_ := IsS80.own_ne HI0.out HO_127001.out (by decide); intro e_; exact h_ (by rw [e_]; rfl))
                          have HP61 := Kd.R_putn HO_127001.out ((ji52) : Int) t129
                          rw [← Ny131.out] at HP61
                          have HQ61 := Aside0.mk HP61
                          clear HP61
                          refine hK.out _ _ ⟨(blk_cell BK126.out 0).trans rfl, (blk_cell BK126.out 1).trans rfl, HS2_⟩ (fun hHeld => ?_)
                          clear hK K
                          refine norm_ (a' := ?_) ?_ ?_
                          rotate_left
                          · show Act.put _ (some 62) _ = _
                            simp only [Act.put, List.setIfInBounds_toArray, List.set_cons_zero, List.set_cons_succ, i64_w, i32_w]
                            rfl
                          refine pure_ (i := 11) (N := some 63) (v := ?_) (a' := ?_) #[true, true, true, true, true, true, true, true, true, true, true, true, false] rfl rfl (any_of HT_.out (by kernel_rfl)) (fun _ _ _ h => h) (Or.inl ⟨by rfl, ?_⟩) ?_ ?_
                          rotate_left
                          · intro w'
                            go_simp
                            with_reducible rfl
                          rotate_left
                          · simp only [Act.put, List.setIfInBounds_toArray, List.set_cons_zero, List.set_cons_succ, i64_w, i32_w]
                            rfl
                          refine last_ (i := 12) (N := none) #[true, true, true, true, true, true, true, true, true, true, true, true, true] rfl rfl (one_of HT_.out (by kernel_rfl)) (by decide) (fun K hK => ?_)
                          refine skip_ (w1 := ?_) (by rfl) rfl ?_ ?_
                          rotate_left
                          · go_simp
                            rfl
                          refine hK.out _ _ ?_
                          clear hK K
                          refine done_ (done_of HT_.out (by kernel_rfl)) ?_
                          try go_wp2
                          (try simp only [← hl36_1])
                          go_roundg k1
                          case measure => have := HK1.out; omega
                          case rel => exact ⟨(x36_1), (wrap64 (x38_1 + 1)), (t130), (x117001_1), (y131), (u117001), (.slice (some ⟨go56, 0, none⟩) x127001_1.length co59), (by first | rfl | (simp; done) | (simp [*]; done)), H', ⟨by have := HK1.out; omega⟩, ⟨by (try simp only [hl36_1]); (with_reducible repeat (first | apply Kd.V_alloc | apply Kd.V_drewN | apply Kd.V_drew)); exact Kd.V_mono (Kd.V_far (p := ⟨go56, ((ji52) : Int).toNat, none⟩) (Kd.V_mono HO_36.out (fun k_ hk => (⟨hk, fun e_ => hk.2.1 (by rw [e_]; rfl)⟩ : _ ∧ k_ ≠ go56))) (fun _ hk => hk.2) (.int .u64 t129)) (fun _ hk => ⟨hk.1.1, ⟨hk.1.2.1, ⟨hk.1.2.2.1, ⟨hk.1.2.2.2.1, ⟨hk.1.2.2.2.2.1, hk.1.2.2.2.2.2⟩⟩⟩⟩⟩)⟩, ⟨by (try simp only [hl36_1]); (with_reducible repeat (first | apply Kd.V_alloc | apply Kd.V_drewN | apply Kd.V_drew)); exact Kd.V_mono (Kd.V_far (p := ⟨go56, ((ji52) : Int).toNat, none⟩) (Kd.V_mono HO_117001.out (fun k_ hk => (⟨hk, fun e_ => hk.2.1 (by rw [e_]; rfl)⟩ : _ ∧ k_ ≠ go56))) (fun _ hk => hk.2) (.int .u64 t129)) (fun _ hk => ⟨hk.1.1, ⟨hk.1.2.1, ⟨hk.1.2.2.1, ⟨hk.1.2.2.2.1, ⟨hk.1.2.2.2.2.1, hk.1.2.2.2.2.2⟩⟩⟩⟩⟩)⟩, ⟨by (try simp only [hl36_1]); (with_reducible repeat (first | apply Kd.R_alloc | apply Kd.R_drewN | apply Kd.R_drew)); exact HQ61.out⟩, ⟨by (try simp only [hl36_1]); (with_reducible repeat (first | refine blk_drewN ?_ _ | refine blk_drew ?_ | refine blk_alloc ?_ _)); refine blk_far ?_ (by have h_ := Kd.R_ne HO_127001.out BK116.out (by decide); intro e_; exact h_ (by rw [e_]; rfl)) _; (with_reducible repeat (first | refine blk_drewN ?_ _ | refine blk_drew ?_ | refine blk_alloc ?_ _)); exact BK116.out⟩, ⟨by (try simp only [hl36_1]); (with_reducible repeat (first | refine blk_drewN ?_ _ | refine blk_drew ?_ | refine blk_alloc ?_ _)); refine blk_far ?_ (by have h_ := Kd.R_ne HO_127001.out BK117.out (by decide); intro e_; exact h_ (by rw [e_]; rfl)) _; (with_reducible repeat (first | refine blk_drewN ?_ _ | refine blk_drew ?_ | refine blk_alloc ?_ _)); exact BK117.out⟩, ⟨by (try simp only [hl36_1]); (with_reducible repeat (first | refine blk_drewN ?_ _ | refine blk_drew ?_ | refine blk_alloc ?_ _)); refine blk_far ?_ (by have h_ := Kd.R_ne HO_127001.out BK126.out (by decide); intro e_; exact h_ (by rw [e_]; rfl)) _; (with_reducible repeat (first | refine blk_drewN ?_ _ | refine blk_drew ?_ | refine blk_alloc ?_ _)); exact BK126.out⟩, ⟨by repeat (first | (with_reducible first | exact HI0.out | apply IsS80.alloc | apply IsS80.drewN | apply IsS80.drew | apply IsS80.set_0 | refine IsS80.far ?_ HN0_go56.out _ | refine IsS80.far ?_ NB0_116.out _ | refine IsS80.far ?_ NB0_117.out _ | refine IsS80.far ?_ NB0_126.out _) | exact HI0.out)⟩, ⟨by repeat (first | (with_reducible first | exact HK.out | apply KeepBut.set_ | apply keep_drewN | apply keep_drew | apply keep_alloc | refine keep_far ?_ GB56.out _ | refine keep_far ?_ GW116.out _ | refine keep_far ?_ GW117.out _ | refine keep_far ?_ GW126.out _) | exact HK.out)⟩, ⟨by repeat (first | (with_reducible first | exact HB.out | apply below_alloc | apply pw_below_drewN | apply below_drew1 | refine below_set ?_ (Nat.le_trans HL.out GB56.out) | refine below_set ?_ (IsS80.ge HI0.out) | refine below_set ?_ GE116.out | refine below_set ?_ GE117.out | refine below_set ?_ GE126.out) | exact HB.out)⟩⟩
                        · rw [if_neg c54] at H
                          exact absurd H (by simp)
                      · rw [if_neg c53] at H
                        exact absurd H (by simp)
                    · rw [if_neg c50] at H
                      exact absurd H (by simp)
                  · rw [if_neg c49] at H
                    exact absurd H (by simp)
                · rw [if_neg c48] at H
                  exact absurd H (by simp)
              · rw [if_neg c47] at H
                have c47b0 : decide (x38_1 < (t119.length : Int)) = false := decide_eq_false c47
                (try rw [hl36_1] at c47b0)
                clear c47
                simp only [Option.some.injEq, Prod.mk.injEq] at H
                obtain ⟨rfl, rfl, rfl⟩ := H
                have hnb62 := NB126_116.out
                have hnc62 := NB116_126.out
                have hnb63 := NB126_117.out
                have hnc63 := NB117_126.out
                have hnb64 := NB126_0.out
                have hnc64 := NB0_126.out
                have hcz65_0 : wr.cell? ⟨gb126, 0, none⟩ = some (.int .i64 ji17) := (blk_cell BK126.out 0).trans rfl
                have hcz65_1 : wr.cell? ⟨gb126, 1, none⟩ = some (u127001) := (blk_cell BK126.out 1).trans rfl
                have hfz65_0 := blk_frozen BK126.out 0
                have hfz65_1 := blk_frozen BK126.out 1
                have hnb66 := NB117_116.out
                have hnc66 := NB116_117.out
                have hnb67 := NB117_0.out
                have hnc67 := NB0_117.out
                have hcz68_0 : wr.cell? ⟨gb117, 0, none⟩ = some (.int .i64 0) := (blk_cell BK117.out 0).trans rfl
                have hcz68_1 : wr.cell? ⟨gb117, 1, none⟩ = some (.slice none 0 0) := (blk_cell BK117.out 1).trans rfl
                have hfz68_0 := blk_frozen BK117.out 0
                have hfz68_1 := blk_frozen BK117.out 1
                obtain ⟨Ao69, co69, eo69⟩ := Kd.R_slice HO_127001.out
                subst eo69
                go_wp2
                refine bodyPost_ret (results_cell_row rfl _ _ gb117 82 #[.int .i64 ji17, .slice Ao69 x127001_1.length co69] (0, 0) _ rfl (by (with_reducible repeat (first | refine blk_drewN ?_ _ | refine blk_drew ?_ | refine blk_alloc ?_ _)); refine blk_put (cs := #[.int .i64 ji17, .slice none 0 0]) ?_ 1 _ rfl; (with_reducible repeat (first | refine blk_drewN ?_ _ | refine blk_drew ?_ | refine blk_alloc ?_ _)); refine blk_put (cs := #[.int .i64 0, .slice none 0 0]) ?_ 0 _ rfl; (with_reducible repeat (first | refine blk_drewN ?_ _ | refine blk_drew ?_ | refine blk_alloc ?_ _)); exact BK117.out) Tryd.underlying82 rfl (by kernel_rfl)) rfl ?_
                exact ⟨_, by first | rfl | (simp [errW_none, errW_some] <;> rfl) | (simp only [← hji17, ← hji20, ← hji23]; first | rfl | (simp [errW_none, errW_some] <;> rfl)) | (simp [*, errW_none, errW_some] <;> rfl), Kd.V_mono (Kd.R_V (by (with_reducible repeat (first | apply Kd.R_alloc | apply Kd.R_drewN | apply Kd.R_drew)); exact Kd.R_mono (Kd.R_far (p := ⟨gb117, 1, none⟩) (Kd.R_far (p := ⟨gb117, 0, none⟩) (Kd.R_types HO_127001.out BK117.out (by decide)) (fun _ hk => hk.2) (.int .i64 ji17)) (fun _ hk => hk.2) (.slice Ao69 x127001_1.length co69)) (fun _ hk => hk.1))) (fun k_ hk => by first | exact ⟨(.inr (hk.1)), hk.2⟩ | exact (.inr (hk))), by repeat (first | (with_reducible first | exact HI0.out | apply IsS80.alloc | apply IsS80.drewN | apply IsS80.drew | apply IsS80.set_0 | refine IsS80.far ?_ NB0_116.out _ | refine IsS80.far ?_ NB0_117.out _ | refine IsS80.far ?_ NB0_126.out _) | exact HI0.out), by repeat (first | (with_reducible first | exact HB.out | apply below_alloc | apply pw_below_drewN | apply below_drew1 | refine below_set ?_ (IsS80.ge HI0.out) | refine below_set ?_ GE116.out | refine below_set ?_ GE117.out | refine below_set ?_ GE126.out) | exact HB.out), by repeat (first | (with_reducible first | exact HK.out | apply KeepBut.set_ | apply keep_drewN | apply keep_drew | apply keep_alloc | refine keep_far ?_ GW116.out _ | refine keep_far ?_ GW117.out _ | refine keep_far ?_ GW126.out _) | exact HK.out)⟩
        · rw [if_neg c25] at H
          exact absurd H (by simp)
      · rw [if_neg c24] at H
        exact absurd H (by simp)
    · rw [if_neg c16] at H
      exact absurd H (by simp)

end Go.Proofs.YtcmghblegllmlaaDoor.PMerge
