/- hyglaw25.first: what the chapter's examples fix. -/
import Derived.Test.YtcmghblegllmlaaDoorBase
import Derived.Test.YtcmghblegllmlaaDoorPMergex3
namespace Go.Proofs.YtcmghblegllmlaaDoor.Hand
open Go.RowKit Go.Proofs.YtcmghblegllmlaaDoorW.PrintWords Go.Proofs.YtcmghblegllmlaaDoorW.PrintLast Go.Proofs.YtcmghblegllmlaaDoorW.PrintMore Go.Proofs.YtcmghblegllmlaaDoor.PMerge Go.Proofs.YtcmghblegllmlaaDoor.Cd Go.Proofs.YtcmghblegllmlaaDoor.Dn
attribute [local go_sem] max2_int min2_int max_two min_two max_three min_three max_four min_four
attribute [local go_sem] setCell_drewN alloc_drewN cell_off cell_up cell_down cell_up2 cell_down2
set_option linter.unusedVariables false
set_option linter.unusedSimpArgs false

set_option maxHeartbeats 4000000 in
set_option maxRecDepth 100000 in
theorem kinds_calls (A0 A1 B0 B1 : Option Addr) (a0 c0 a1 c1 b0 d0 b1 d1 : Nat) (as_ at_ ak an af bs bt bk bn bf : Int) (au bu : ByteArray) (w : World) :
    Calls Tryd.prog 69 #[.agg #[.slice A0 a0 c0, .int .u64 as_, .int .u64 at_, .int .i64 ak, .int .u64 an, .slice A1 a1 c1, .int .u32 af, .string au], .agg #[.slice B0 b0 d0, .int .u64 bs, .int .u64 bt, .int .i64 bk, .int .u64 bn, .slice B1 b1 d1, .int .u32 bf, .string bu]] w fun e w' => e = .returned (.bool (decide (ak = bk) && (decide (ak = 1) || decide (ak = 2)))) ∧ Below w.heap.size w w' := by
  have hu := Tryd.underlying71
  by_cases h0 : ak = bk
  · subst h0
    have e0 : (ak == ak) = true := by simp
    by_cases h1 : ak = 1
    · subst h1
      go_enter Tryd.func69, Tryd.ntmps69
      go_wp2
      go_ret
      exact ⟨by simp, by repeat (first | exact Below.refl _ _ | apply below_alloc | apply pw_below_drewN | apply below_drew1)⟩
    · have e1 : (ak == 1) = false := by simp [h1]
      by_cases h2 : ak = 2
      · subst h2
        go_enter Tryd.func69, Tryd.ntmps69
        go_wp2
        go_ret
        exact ⟨by simp, by repeat (first | exact Below.refl _ _ | apply below_alloc | apply pw_below_drewN | apply below_drew1)⟩
      · have e2 : (ak == 2) = false := by simp [h2]
        go_enter Tryd.func69, Tryd.ntmps69
        go_wp2
        go_ret
        exact ⟨by simp [h1, h2], by repeat (first | exact Below.refl _ _ | apply below_alloc | apply pw_below_drewN | apply below_drew1)⟩
  · have e0 : (ak == bk) = false := by simp [h0]
    go_enter Tryd.func69, Tryd.ntmps69
    go_wp2
    go_ret
    exact ⟨by simp [h0], by repeat (first | exact Below.refl _ _ | apply below_alloc | apply pw_below_drewN | apply below_drew1)⟩

set_option maxHeartbeats 4000000 in
set_option maxRecDepth 100000 in
/-- two numbers that can't be held against one another -/
theorem number_unlike (A0 A1 B0 B1 : Option Addr) (a0 c0 a1 c1 b0 d0 b1 d1 : Nat) (as_ at_ ak an af bs bt bk bn bf : Int) (au bu : ByteArray) (w : World) (hk : (decide (ak = bk) && (decide (ak = 1) || decide (ak = 2))) = false) :
    Calls Tryd.prog 30 #[.agg #[.slice A0 a0 c0, .int .u64 as_, .int .u64 at_, .int .i64 ak, .int .u64 an, .slice A1 a1 c1, .int .u32 af, .string au], .agg #[.slice B0 b0 d0, .int .u64 bs, .int .u64 bt, .int .i64 bk, .int .u64 bn, .slice B1 b1 d1, .int .u32 bf, .string bu]] w fun e w' => e = .returned (.tuple #[.agg #[.slice none 0 0, .int .u64 0, .int .u64 0, .int .i64 0, .int .u64 0, .slice none 0 0, .int .u32 0, .string ⟨#[]⟩], .iface 31 (.int .i64 13)]) ∧ Below w.heap.size w w' := by
  have hu := Tryd.underlying71
  go_enter Tryd.func30, Tryd.ntmps30
  go_wp2_with (go_at_call 69; go_loud (refine (kinds_calls A0 A1 B0 B1 a0 c0 a1 c1 b0 d0 b1 d1 as_ at_ ak an af bs bt bk bn bf au bu _).mono ?_; rintro e w1 ⟨rfl, hB1⟩; have HB1 := Aside0.mk hB1; have q0_0 : w1.cell? ⟨w.heap.size + 1 + 1, 0, none⟩ = some (.slice none 0 0) := keepc hB1 (cell_top (by simp) rfl); have q0_1 : w1.cell? ⟨w.heap.size + 1 + 1, 1, none⟩ = some (.int .u64 0) := keepc hB1 (cell_top (by simp) rfl); have q0_2 : w1.cell? ⟨w.heap.size + 1 + 1, 2, none⟩ = some (.int .u64 0) := keepc hB1 (cell_top (by simp) rfl); have q0_3 : w1.cell? ⟨w.heap.size + 1 + 1, 3, none⟩ = some (.int .i64 0) := keepc hB1 (cell_top (by simp) rfl); have q0_4 : w1.cell? ⟨w.heap.size + 1 + 1, 4, none⟩ = some (.int .u64 0) := keepc hB1 (cell_top (by simp) rfl); have q0_5 : w1.cell? ⟨w.heap.size + 1 + 1, 5, none⟩ = some (.slice none 0 0) := keepc hB1 (cell_top (by simp) rfl); have q0_6 : w1.cell? ⟨w.heap.size + 1 + 1, 6, none⟩ = some (.int .u32 0) := keepc hB1 (cell_top (by simp) rfl); have q0_7 : w1.cell? ⟨w.heap.size + 1 + 1, 7, none⟩ = some (.string ⟨#[]⟩) := keepc hB1 (cell_top (by simp) rfl); have qf0 : ∀ o, w1.frozen? ⟨w.heap.size + 1 + 1, o, none⟩ = false := fun o => keepf hB1 (by simp) (frozen_top (by simp)); rw [hk]; clear hB1))
  refine bodyPost_ret (v := .tuple #[.agg #[.slice none 0 0, .int .u64 0, .int .u64 0, .int .i64 0, .int .u64 0, .slice none 0 0, .int .u32 0, .string ⟨#[]⟩], .iface 31 (.int .i64 13)]) (by simp [results, Tryd.results30, go_sem, *]) rfl ⟨rfl, ?_⟩
  refine Below.setCell (p := ⟨w.heap.size + 1 + 1, 7, none⟩) (Below.setCell (p := ⟨w.heap.size + 1 + 1, 6, none⟩) (Below.setCell (p := ⟨w.heap.size + 1 + 1, 5, none⟩) (Below.setCell (p := ⟨w.heap.size + 1 + 1, 4, none⟩) (Below.setCell (p := ⟨w.heap.size + 1 + 1, 3, none⟩) (Below.setCell (p := ⟨w.heap.size + 1 + 1, 2, none⟩) (Below.setCell (p := ⟨w.heap.size + 1 + 1, 1, none⟩) (Below.setCell (p := ⟨w.heap.size + 1 + 1, 0, none⟩) (Below.trans ?_ (HB1.out.mono (by simp; omega))) (by simp; try omega) _) (by simp; try omega) _) (by simp; try omega) _) (by simp; try omega) _) (by simp; try omega) _) (by simp; try omega) _) (by simp; try omega) _) (by simp; try omega) _
  repeat (first | exact Below.refl _ _ | apply below_alloc)

/-- two literal sides, shifted by one -/
theorem res1 {r : Int × List Int × Option Int} (h : Res (-1) [1, 1] 1 r) : r = (-1, [1, 1], none) := by
  refine Res.one h (.inl ⟨rfl, by omega, by omega, .inr ⟨by decide, by decide, by decide⟩, fun p => ?_, fun p => ?_, by decide⟩)
  all_goals (simp only [dn, S, Int.pow_zero, Int.ediv_one]; (repeat' split) <;> simp_all <;> omega)
theorem res2 {r : Int × List Int × Option Int} (h : Res 0 [1, 1] 1 r) : r = (0, [2], none) := by
  refine Res.one h (.inl ⟨rfl, by omega, by omega, .inr ⟨by decide, by decide, by decide⟩, fun p => ?_, fun p => ?_, by decide⟩)
  all_goals (simp only [dn, S, Int.pow_zero, Int.ediv_one]; (repeat' split) <;> simp_all <;> omega)
theorem u64_11 : U64 [1, 1] := fun x hx => by simp at hx; omega

theorem nums_l0 (l : List Int) (hl : l.length ≤ 100000) : ∀ n i : Nat, i + n = l.length → ∀ k, n + 1 ≤ k → hygref_Nums.l0 k l l (i : Int) = some true := by
  intro n
  induction n with
  | zero =>
    intro i hi k hk
    obtain ⟨k, rfl⟩ : ∃ j, k = j + 1 := ⟨k - 1, by omega⟩
    rw [hygref_Nums.l0, if_neg (by omega)]
  | succ n ih =>
    intro i hi k hk
    obtain ⟨k, rfl⟩ : ∃ j, k = j + 1 := ⟨k - 1, by omega⟩
    rw [hygref_Nums.l0, if_pos (by omega), if_pos (by omega), if_pos (by omega), if_pos rfl, w64 _ (by omega) (by omega)]
    exact ih (i + 1) (by omega) k (by omega)
theorem nums_same (l : List Int) (hl : l.length ≤ 100000) (k : Nat) (hk : l.length + 1 ≤ k) : hygref_Nums.f k l l = some true := by
  unfold hygref_Nums.f
  rw [if_pos rfl]
  exact nums_l0 l hl l.length 0 (by omega) k (by omega)
theorem lit_C (W : World) (xs : List Int) (hx : xs.length ≤ 1000) (t b c : Nat) (hb : b = W.heap.size) (cs : Array Value) (hcs : cs = (xs.map (Value.int .u64)).toArray) :
    Kd.C (Kd.int .u64) (W.alloc (.cells cs t)) (some ⟨b, 0, none⟩) xs.length xs := by
  subst hcs; subst hb
  refine Kd.C_of_reads (d := (0 : Int)) (h1 := fun _ => rfl) ⟨rfl, by omega, fun _ => ⟨_, rfl, fun i hi => ?_⟩⟩
  have : (⟨W.heap.size, 0, none⟩ : Addr).add i = ⟨W.heap.size, i, none⟩ := by unfold Addr.add; split <;> simp_all
  rw [this]
  refine cell_top rfl ?_
  simp [List.getD, hi]
theorem lit_V (W : World) (xs : List Int) (hx : xs.length ≤ 1000) (t b c : Nat) (base : Nat) (hb : b = W.heap.size) (hc : xs.length ≤ c) (cs : Array Value) (hcs : cs = (xs.map (Value.int .u64)).toArray) :
    Kd.V (Kd.int .u64) 41 (W.alloc (.cells cs t)) base (fun k => k < (W.alloc (.cells cs t)).heap.size) (.slice (some ⟨b, 0, none⟩) xs.length c) xs :=
  ⟨_, _, rfl, hc, Kd.C_F (Kd.heap_int _) (lit_C W xs hx t b c hb cs hcs)⟩

theorem errV_none : errV none = .nilIface := rfl
attribute [local go_sem] errV_none
set_option maxHeartbeats 8000000 in
set_option maxRecDepth 100000 in
theorem first_calls (w : World) (hg : Lays w) : Calls Tryd.prog 10 #[] w fun e w' => e = .returned (.bool true) ∧ Below w.heap.size w w' := by
  have hu := Tryd.underlying24
  have hu2 := Tryd.underlying71
  go_enter Tryd.func10, Tryd.ntmps10
  go_wp2_with (first | (go_at_call 12; have hz_ := HB1; clear hz_; refine (down_res 0 (by omega) (by omega) _ _ 2 [1, 1] ⟨#[]⟩ 1 _ (lit_V (w1.alloc _) [1, 1] (by decide) _ _ 2 _ (by simp) (by decide) _ rfl) (by decide) u64_11).mono ?_; rintro e w2 ⟨r2, v2, rfl, hr2, hf2, hR2, hB2⟩; obtain rfl := res2 hr2; obtain ⟨A2, c2, rfl⟩ := Kd.R_slice hR2; have HV2 := Aside0.mk (Kd.R_V (base' := 0) hR2); have hb12 := (Below.trans (by repeat (first | exact Below.refl _ _ | apply below_alloc)) (hB2.mono (by simp; try omega)) : Below w1.heap.size w1 w2); have HV1b := Aside0.mk (Kd.V_below HV1.out hb12); have HB2 := Aside0.mk (below_step HB1.out hb12); have pa0 : w2.cell? ⟨w1.heap.size, 0, none⟩ = some (.int .i32 (-1)) := keepc hB2 (keepc (below_alloc (Below.refl _ _) _) (cell_top rfl rfl)); have pa1 : w2.cell? ⟨w1.heap.size, 1, none⟩ = some (.slice A1 2 c1) := keepc hB2 (keepc (below_alloc (Below.refl _ _) _) (cell_top rfl rfl)); have pa2 : w2.cell? ⟨w1.heap.size, 2, none⟩ = some (.string ⟨#[]⟩) := keepc hB2 (keepc (below_alloc (Below.refl _ _) _) (cell_top rfl rfl)); clear hr2 hf2 hR2 hB2 hb12) | (go_at_call 12; refine (down_res (-1) (by omega) (by omega) _ _ 2 [1, 1] ⟨#[]⟩ 1 _ (lit_V w [1, 1] (by decide) _ _ 2 _ rfl (by decide) _ rfl) (by decide) u64_11).mono ?_; rintro e w1 ⟨r1, v1, rfl, hr1, hf1, hR1, hB1⟩; obtain rfl := res1 hr1; obtain ⟨A1, c1, rfl⟩ := Kd.R_slice hR1; have HV1 := Aside0.mk (Kd.R_V (base' := 0) hR1); have HB1 := Aside0.mk (Below.trans (by repeat (first | exact Below.refl _ _ | apply below_alloc)) (hB1.mono (by simp; try omega)) : Below w.heap.size w w1); clear hr1 hf1 hR1 hB1) | (go_at_call 30; refine (number_unlike none none none none 0 0 0 0 0 0 0 0 0 0 1 0 0 0 0 2 0 0 ⟨#[]⟩ ⟨#[]⟩ _ (by decide)).mono ?_; rintro e w3 ⟨rfl, hB3⟩; have hb23 := (Below.trans (by repeat (first | exact Below.refl _ _ | apply below_alloc)) (hB3.mono (by simp; try omega)) : Below w2.heap.size w2 w3); have HV1c := Aside0.mk (Kd.V_below HV1b.out hb23); have HV2c := Aside0.mk (Kd.V_below HV2.out hb23); have HB3 := Aside0.mk (below_step HB2.out hb23); have qa0 : w3.cell? ⟨w1.heap.size, 0, none⟩ = some (.int .i32 (-1)) := keepc hb23 pa0; have qa1 : w3.cell? ⟨w1.heap.size, 1, none⟩ = some (.slice A1 2 c1) := keepc hb23 pa1; have qa2 : w3.cell? ⟨w1.heap.size, 2, none⟩ = some (.string ⟨#[]⟩) := keepc hb23 pa2; have qb0 : w3.cell? ⟨w2.heap.size, 0, none⟩ = some (.int .i32 0) := keepc hB3 (cell_top rfl rfl); have qb1 : w3.cell? ⟨w2.heap.size, 1, none⟩ = some (.slice A2 1 c2) := keepc hB3 (cell_top rfl rfl); have qb2 : w3.cell? ⟨w2.heap.size, 2, none⟩ = some (.string ⟨#[]⟩) := keepc hB3 (cell_top rfl rfl); have ga0 : (w3.alloc (.cells #[.slice none 0 0, .int .u64 0, .int .u64 0, .int .i64 0, .int .u64 0, .slice none 0 0, .int .u32 0, .string ⟨#[]⟩] 71)).cell? ⟨w1.heap.size, 0, none⟩ = some (.int .i32 (-1)) := keepc (below_alloc (Below.refl _ _) _) qa0; have ga1 : (w3.alloc (.cells #[.slice none 0 0, .int .u64 0, .int .u64 0, .int .i64 0, .int .u64 0, .slice none 0 0, .int .u32 0, .string ⟨#[]⟩] 71)).cell? ⟨w1.heap.size, 1, none⟩ = some (.slice A1 2 c1) := keepc (below_alloc (Below.refl _ _) _) qa1; have ga2 : (w3.alloc (.cells #[.slice none 0 0, .int .u64 0, .int .u64 0, .int .i64 0, .int .u64 0, .slice none 0 0, .int .u32 0, .string ⟨#[]⟩] 71)).cell? ⟨w1.heap.size, 2, none⟩ = some (.string ⟨#[]⟩) := keepc (below_alloc (Below.refl _ _) _) qa2; clear hB3 hb23) | (go_at_call 24; have hz_ := HB4; clear hz_; refine (hygref_Nums.calls 3 A2 c2 [2] _ 1 [2] true _ (Kd.V_reads' (Kd.V_below HV2d.out (by repeat (first | exact Below.refl _ _ | apply below_alloc)))).2.2 (Kd.V_reads' HV2d.out).2.1 (lit_C w4 [2] (by decide) _ _ 1 rfl _ rfl) (by decide) (nums_same [2] (by decide) 3 (by decide))).mono ?_; rintro e w5 ⟨rfl, hD5⟩; have hB5 := hD5.below; have HB5 := Aside0.mk (below_step HB4.out (Below.trans (by repeat (first | exact Below.refl _ _ | apply below_alloc)) (hB5.mono (by simp; try omega)) : Below w4.heap.size w4 w5)); clear hD5 hB5) | (go_at_call 24; refine (hygref_Nums.calls 4 A1 c1 [1, 1] _ 2 [1, 1] true _ (Kd.V_reads' (Kd.V_below HV1c.out (by repeat (first | exact Below.refl _ _ | apply below_alloc)))).2.2 (Kd.V_reads' HV1c.out).2.1 (lit_C (w3.alloc _) [1, 1] (by decide) _ _ 2 (by simp) _ rfl) (by decide) (nums_same [1, 1] (by decide) 4 (by decide))).mono ?_; rintro e w4 ⟨rfl, hD4⟩; have hB4 := hD4.below; have hb34 := (Below.trans (by repeat (first | exact Below.refl _ _ | apply below_alloc)) (hB4.mono (by simp; try omega)) : Below w3.heap.size w3 w4); have HV2d := Aside0.mk (Kd.V_below HV2c.out hb34); have HB4 := Aside0.mk (below_step HB3.out hb34); have sa0 : w4.cell? ⟨w1.heap.size, 0, none⟩ = some (.int .i32 (-1)) := keepc hb34 qa0; have sa1 : w4.cell? ⟨w1.heap.size, 1, none⟩ = some (.slice A1 2 c1) := keepc hb34 qa1; have sa2 : w4.cell? ⟨w1.heap.size, 2, none⟩ = some (.string ⟨#[]⟩) := keepc hb34 qa2; have sb0 : w4.cell? ⟨w2.heap.size, 0, none⟩ = some (.int .i32 0) := keepc hb34 qb0; have sb1 : w4.cell? ⟨w2.heap.size, 1, none⟩ = some (.slice A2 1 c2) := keepc hb34 qb1; have sb2 : w4.cell? ⟨w2.heap.size, 2, none⟩ = some (.string ⟨#[]⟩) := keepc hb34 qb2; clear hD4 hB4 hb34) | (go_at_call 13; refine (code_some 13 _ (Lays.below hg HB5.out)).mono ?_; rintro e w6 ⟨rfl, hB6⟩; have HB6 := Aside0.mk (below_step HB5.out hB6); clear hB6))
  go_ret
  exact ⟨rfl, HB6.out⟩
end Go.Proofs.YtcmghblegllmlaaDoor.Hand
