/- The law ConvSeen answers true at any input. Conditions: errors.errorType is laid as the program's text lays it. -/
import Derived.Test.YtcjdbimojffggaaDoorGone
import Derived.Test.YtcjdbimojffggaaDoorOpening
set_option linter.unusedVariables false
set_option linter.unusedSimpArgs false
/-! Who is seen stays. -/
namespace Sx
open Go Go.Proofs
set_option linter.unusedVariables false
set_option linter.unusedSimpArgs false
set_option maxRecDepth 30000
def numAt (s e n : Int) : NumD := ⟨.rows [], s, e, 2, n, .rows [], 0, nos⟩
def keyA : ByteArray := ⟨#[97]⟩
def keyB : ByteArray := ⟨#[98]⟩
theorem nt {α : Type} [BEq α] [ReflBEq α] {p : Prop} (x : α) (c : (x != x) = true) : p := by simp [bne] at c
theorem nf {α : Type} [BEq α] [ReflBEq α] {p : Prop} (x : α) (c : (x == x) = false) : p := by simp at c
theorem x64_eq {n : Int} (h : 0 ≤ n ∧ n < 18446744073709551616) : x64 n = n := by show IntKind.u64.wrap n = n; rw [IntKind.wrap_u64]; omega
theorem addI_one {t s e c : Int} (hc : 0 ≤ c ∧ c ≤ 1000) : addI (numAt 0 t c) (numAt s e 1) = some (numAt 0 e (c + 1)) := by
  have e1 : w64 c = c := w64_eq (by omega)
  have e2 : w64 1 = 1 := rfl
  have e3 : w64 (c + 1) = c + 1 := w64_eq (by omega)
  have e4 : x64 (c + 1) = c + 1 := x64_eq (by omega)
  have hb : sumBad c 1 = false := by
    unfold sumBad
    rw [e1, e2, e3]
    simp
    try omega
  show (bif sumBad c 1 then none else some (numAt 0 e (x64 (w64 (w64 c + w64 1))))) = _
  rw [hb, e1, e2, e3, e4]; rfl
def mapS (g h : Bool) (seen c : Nat) : List (ByteArray × List D) :=
  (bif g then [] else [(keyA, rowS (numAt 0 ((seen + 1 : Nat) : Int) (c : Nat)) (seen : Nat))]) ++ (bif h then [(keyB, rowS (numAt 0 1 0) 0)] else [])
theorem kab : keyA ≠ keyB := by
  intro h
  have := congrArg (fun b : ByteArray => b.data[0]?) h
  simp [keyA, keyB] at this
theorem keys_s {g h : Bool} {seen c : Nat} : ((mapS g h seen c).map (·.1)).Nodup := by
  cases g <;> cases h <;> simp [mapS, kab]
theorem look_a {g h : Bool} {seen c : Nat} : lookN keyA (mapS g h seen c) = bif g then none else some (numAt 0 ((seen + 1 : Nat) : Int) (c : Nat), ((seen : Nat) : Int)) := by
  cases g <;> cases h <;> simp [mapS, lookN, findM, kab] <;> rfl
theorem look_b {g h : Bool} {seen c : Nat} : lookN keyB (mapS g h seen c) = bif h then some (numAt 0 1 0, 0) else none := by
  cases g <;> cases h <;> simp [mapS, lookN, findM, kab.symm] <;> rfl
theorem len_s {g h : Bool} {seen c : Nat} : (mapS g h seen c).length = (bif g then 0 else 1) + (bif h then 1 else 0) := by
  cases g <;> cases h <;> rfl
theorem row_s {g h : Bool} {seen c : Nat} {s : ByteArray} : RowOk 1 s (mapS g h seen c) := by
  intro r hr
  cases g <;> cases h <;> simp only [mapS, cond_true, cond_false, List.nil_append, List.append_nil, List.singleton_append, List.cons_append, findM] at hr
  · split at hr
    · exact ⟨_, _, (Option.some.inj hr).symm, good0 rfl rfl⟩
    · cases hr
  · split at hr
    · exact ⟨_, _, (Option.some.inj hr).symm, good0 rfl rfl⟩
    · split at hr
      · exact ⟨_, _, (Option.some.inj hr).symm, good0 rfl rfl⟩
      · cases hr
  · cases hr
  · split at hr
    · exact ⟨_, _, (Option.some.inj hr).symm, good0 rfl rfl⟩
    · cases hr
theorem put_a {h : Bool} {seen c s' c' : Nat} : putM keyA (rowS (numAt 0 ((s' + 1 : Nat) : Int) (c' : Nat)) (s' : Nat)) (mapS false h seen c) = mapS false h s' c' := by
  cases h <;> simp [mapS, putM]
theorem old_row {nw ti s e n seen : Int} : oldB nw ti (rowS (numAt s e n) seen) = decide (w64 (nw - seen) ≥ ti) := rfl
theorem filt {g h : Bool} {seen c k : Nat} {ti : Int} (hk : seen ≤ k ∧ k ≤ 1000) (hh : h = decide ((k : Int) < ti)) :
    ((mapS g h seen c).filter fun kr => !oldB (w64 ((k : Int) + 1)) ti kr.2) = mapS (g || decide ((k : Int) + 1 - seen ≥ ti)) (decide ((k : Int) + 1 < ti)) seen c := by
  have e0 : w64 ((k : Int) + 1) = (k : Int) + 1 := w64_eq (by omega)
  have e1 : w64 ((k : Int) + 1 - seen) = (k : Int) + 1 - seen := w64_eq (by omega)
  have e2 : w64 ((k : Int) + 1 - 0) = (k : Int) + 1 := by rw [Int.sub_zero]; exact e0
  subst hh
  unfold mapS
  rw [List.filter_append, e0]
  congr 1
  · cases g
    · by_cases c1 : (k : Int) + 1 - seen ≥ ti
      · simp [old_row, e1, c1]
      · simp [old_row, e1, c1]
    · rfl
  · by_cases c1 : (k : Int) + 1 < ti
    · have c2 : (k : Int) < ti := by omega
      have c3 : ¬ (k : Int) + 1 ≥ ti := by omega
      simp [old_row, e0, e2, c1, c2, c3]
    · by_cases c2 : (k : Int) < ti
      · have c3 : (k : Int) + 1 ≥ ti := by omega
        simp [old_row, e0, e2, c1, c2, c3]
      · simp [c1, c2]
end Sx
/-! ConvSeen walked. -/
namespace Sx
open Go Go.Proofs
set_option linter.unusedVariables false
set_option linter.unusedSimpArgs false
set_option maxRecDepth 30000
def seenLS : List U → Out SV
  | [.c (.v (.int .i64 ti)), .c (.v (.int .i64 sp)), .c (.v (.int .i64 ev))] => one (Bo true)
  | _ => .fail
set_option maxHeartbeats 4000000 in
theorem seen_ok : Ok G1 3 seenLS := by
  have hS : AllSound (B [(5, .pure (normG (B []) [] firstS)), (6, .full (normF (B []) [3, 3, 3] newS)), (7, .full (normF (B []) [23, 9, 44] (upS Whole addI 1))), (8, .full (normF (B []) [23] tickS)), (9, .full (normF (B []) [23, 9] (stateS 1)))]) G1 :=
    .cons _ first_ok (.consF _ new_ok (.consF _ (up_ok numI_ok addI_same) (.consF _ tick_ok (.consF _ state_ok noneS))))
  refine okP hS Tryd.func3 rfl (by decide) fun K us hk => ?_
  unfold seenLS at hk
  split at hk
  · rename_i ti sp ev
    refine ⟨by show 3 ≤ _; decide, ?_⟩
    have hk : K (.u (.c (Bo true))) := hk
    conv => whnf
    refine Ask.i (fun c1 => ?_) (fun c1 => ?_)
    · conv => whnf
      exact hk
    have c1 : decide (ti < 1) = false := c1
    conv => whnf
    refine Ask.i (fun c2 => ?_) (fun c2 => ?_)
    · conv => whnf
      exact hk
    have c2 : decide (ti > 20) = false := c2
    conv => whnf
    refine Ask.i (fun c3 => ?_) (fun c3 => ?_)
    · conv => whnf
      exact hk
    have c3 : decide (sp < 0) = false := c3
    conv => whnf
    refine Ask.i (fun c4 => ?_) (fun c4 => ?_)
    · conv => whnf
      exact hk
    have c4 : decide (sp > 100) = false := c4
    conv => whnf
    refine Ask.i (fun c5 => ?_) (fun c5 => ?_)
    · conv => whnf
      exact hk
    have c5 : decide (ev < 1) = false := c5
    conv => whnf
    refine Ask.i (fun c6 => ?_) (fun c6 => ?_)
    · conv => whnf
      exact hk
    have c6 : decide (ev > 30) = false := c6
    have c1 := of_decide_eq_false c1
    have c2 := of_decide_eq_false c2
    have c3 := of_decide_eq_false c3
    have c4 := of_decide_eq_false c4
    have c5 := of_decide_eq_false c5
    have c6 := of_decide_eq_false c6
    conv => whnf
    intro c hc
    obtain rfl : c = false := by
      rw [← show badN 2 1 ti = c from hc]
      simp [badN]
      omega
    conv => whnf
    refine ⟨⟨⟨rfl, rfl, good0 rfl rfl⟩, fun r h => by cases h⟩, ?_⟩
    conv => whnf
    intro o ho
    obtain rfl : none = o := ho
    conv => whnf
    intro c hc
    obtain rfl : false = c := hc
    conv => whnf
    refine ⟨⟨⟨rfl, rfl, good0 rfl rfl⟩, fun r h => by cases h⟩, ?_⟩
    conv => whnf
    intro o ho
    obtain rfl : none = o := ho
    conv => whnf
    intro c hc
    obtain rfl : false = c := hc
    conv => whnf
    refine ⟨[], _, _, rfl, (Nat × Nat × Nat) × (Bool × Bool), (fun x => match x with | ((k, seen, c), (g, h)) => ([(0, .u (.c (I64 ti))), (1, .u (.c (I64 sp))), (2, .u (.c (I64 ev))), (7, .u (.c (.p 100047 0))), (9, .u (.c (I64 (seen : Nat)))), (10, .u (.c (Bo g))), (11, .u (.c (I64 ((k + 1 : Nat) : Int))))],
      [(100047, .cells 59 [I64 2, I64 1, I64 ti, I64 (k : Nat), .m 200047 57]), (200047, .map 57 (mapS g h seen c))])),
      (fun x => match x with | ((k, seen, c), (g, h)) => (k : Int) ≤ sp ∧ seen ≤ k ∧ c ≤ k ∧ h = decide ((k : Int) < ti)), (fun x => match x with | ((k, seen, c), (g, h)) => sp.toNat - k), ?_, ⟨((0, 0, 0), (false, true)), ⟨?_, Nat.le_refl _, Nat.le_refl _, ?_⟩, ⟨rfl, rfl, rfl, rfl, rfl, rfl, rfl, trivial⟩, ⟨rfl, rfl, trivial⟩⟩, ?_⟩
    · rintro ⟨⟨k, seen, c⟩, g, h⟩ _; rfl
    · show (0 : Int) ≤ sp; omega
    · show true = decide ((0 : Int) < ti)
      simp; omega
    rintro ⟨⟨k, seen, c⟩, g, h⟩ ⟨p1, p2, p3, p4⟩
    have p1 : (k : Int) ≤ sp := p1
    have p2 : seen ≤ k := p2
    have p3 : c ≤ k := p3
    have p4 : h = decide ((k : Int) < ti) := p4
    have hk100 : k ≤ 100 := by omega
    conv => whnf
    refine Ask.i (fun d1 => ?_) (fun d1 => ?_)
    · have d1 : (((k + 1 : Nat) : Int) ≤ sp) := of_decide_eq_true d1
      conv => whnf
      refine ⟨keys_s, ?_⟩
      conv => whnf
      intro l' hl'
      obtain rfl := (filt ⟨p2, by omega⟩ p4).symm.trans hl'
      obtain ⟨g', hg'⟩ : ∃ g', g' = (g || decide ((k : Int) + 1 - seen ≥ ti)) := ⟨_, rfl⟩
      obtain ⟨h', hh'⟩ : ∃ h', h' = decide ((k : Int) + 1 < ti) := ⟨_, rfl⟩
      rw [← hg', ← hh']
      have ek1 : w64 ((k : Int) + 1) = ((k + 1 : Nat) : Int) := by rw [w64_eq (by omega)]; omega
      have ek2 : w64 (((k + 1 : Nat) : Int) + 1) = ((k + 1 + 1 : Nat) : Int) := by rw [w64_eq (by omega)]; omega
      have ek3 : x64 ((k + 1 : Nat) : Int) = ((k + 1 : Nat) : Int) := x64_eq (by omega)
      have ek4 : x64 (w64 (((k + 1 : Nat) : Int) + 1)) = ((k + 1 + 1 : Nat) : Int) := by rw [ek2, x64_eq (by omega)]
      have ek5 : w64 (((k + 1 : Nat) : Int) - (seen : Int)) = (k : Int) + 1 - seen := by rw [w64_eq (by omega)]; omega
      conv => whnf
      refine Ask.i (fun e1 => ?_) (fun e1 => ?_)
      · have e1 : (((k + 1 : Nat) : Int) == ti) = true := e1
        have e1 : ((k + 1 : Nat) : Int) = ti := by simpa using e1
        obtain rfl : h = true := by rw [p4]; simp; omega
        obtain rfl : h' = false := by rw [hh']; simp; omega
        cases g with
        | true =>
          obtain rfl : g' = true := by rw [hg']; rfl
          conv => whnf
          refine ⟨by omega, ?_⟩
          conv => whnf
          refine Ask.i (fun e5 => ?_) (fun e5 => ?_)
          · conv => whnf
            refine ⟨row_s, ?_⟩
            conv => whnf
            intro o ho
            obtain rfl : none = o := look_a.symm.trans ho
            conv => whnf
            refine ⟨row_s, ?_⟩
            conv => whnf
            intro o ho
            obtain rfl := look_b.symm.trans ho
            conv => whnf
            refine Ask.i (fun e6 => ?_) (fun e6 => ?_)
            · have e6 : (false != decide (((k + 1 : Nat) : Int) < ti)) = true := e6
              rw [show decide (((k + 1 : Nat) : Int) < ti) = false by rw [hh']; congr 1] at e6
              exact nt _ e6
            conv => whnf
            exact ⟨((k + 1, seen, c), (true, false)), ⟨d1, by show _ ≤ _; omega, by show _ ≤ _; omega, hh'⟩, by show sp.toNat - (k + 1) < sp.toNat - k; omega, ⟨rfl, rfl, rfl, rfl, rfl, rfl, congrArg (fun z : Int => some (SV.u (.c (I64 z)))) ek2, trivial⟩, ⟨congrArg (fun z : Int => some (Blk.cells 59 [I64 2, I64 1, I64 ti, I64 z, .m 200047 57])) ek1, rfl, trivial⟩⟩
          · conv => whnf
            refine ⟨row_s, ?_⟩
            conv => whnf
            intro o ho
            obtain rfl : none = o := look_a.symm.trans ho
            conv => whnf
            refine ⟨row_s, ?_⟩
            conv => whnf
            intro o ho
            obtain rfl := look_b.symm.trans ho
            conv => whnf
            refine Ask.i (fun e6 => ?_) (fun e6 => ?_)
            · have e6 : (false != decide (((k + 1 : Nat) : Int) < ti)) = true := e6
              rw [show decide (((k + 1 : Nat) : Int) < ti) = false by rw [hh']; congr 1] at e6
              exact nt _ e6
            conv => whnf
            exact ⟨((k + 1, seen, c), (true, false)), ⟨d1, by show _ ≤ _; omega, by show _ ≤ _; omega, hh'⟩, by show sp.toNat - (k + 1) < sp.toNat - k; omega, ⟨rfl, rfl, rfl, rfl, rfl, rfl, congrArg (fun z : Int => some (SV.u (.c (I64 z)))) ek2, trivial⟩, ⟨congrArg (fun z : Int => some (Blk.cells 59 [I64 2, I64 1, I64 ti, I64 z, .m 200047 57])) ek1, rfl, trivial⟩⟩
        | false =>
          conv => whnf
          refine Ask.i (fun e2 => ?_) (fun e2 => ?_)
          · have e2 : decide (w64 (((k + 1 : Nat) : Int) - (seen : Int)) ≥ ti) = true := e2
            rw [ek5] at e2
            obtain rfl : g' = true := by rw [hg', e2]; rfl
            conv => whnf
            refine ⟨by omega, ?_⟩
            conv => whnf
            refine Ask.i (fun e5 => ?_) (fun e5 => ?_)
            · conv => whnf
              refine ⟨row_s, ?_⟩
              conv => whnf
              intro o ho
              obtain rfl : none = o := look_a.symm.trans ho
              conv => whnf
              refine ⟨row_s, ?_⟩
              conv => whnf
              intro o ho
              obtain rfl := look_b.symm.trans ho
              conv => whnf
              refine Ask.i (fun e6 => ?_) (fun e6 => ?_)
              · have e6 : (false != decide (((k + 1 : Nat) : Int) < ti)) = true := e6
                rw [show decide (((k + 1 : Nat) : Int) < ti) = false by rw [hh']; congr 1] at e6
                exact nt _ e6
              conv => whnf
              exact ⟨((k + 1, seen, c), (true, false)), ⟨d1, by show _ ≤ _; omega, by show _ ≤ _; omega, hh'⟩, by show sp.toNat - (k + 1) < sp.toNat - k; omega, ⟨rfl, rfl, rfl, rfl, rfl, rfl, congrArg (fun z : Int => some (SV.u (.c (I64 z)))) ek2, trivial⟩, ⟨congrArg (fun z : Int => some (Blk.cells 59 [I64 2, I64 1, I64 ti, I64 z, .m 200047 57])) ek1, rfl, trivial⟩⟩
            · conv => whnf
              refine ⟨row_s, ?_⟩
              conv => whnf
              intro o ho
              obtain rfl : none = o := look_a.symm.trans ho
              conv => whnf
              refine ⟨row_s, ?_⟩
              conv => whnf
              intro o ho
              obtain rfl := look_b.symm.trans ho
              conv => whnf
              refine Ask.i (fun e6 => ?_) (fun e6 => ?_)
              · have e6 : (false != decide (((k + 1 : Nat) : Int) < ti)) = true := e6
                rw [show decide (((k + 1 : Nat) : Int) < ti) = false by rw [hh']; congr 1] at e6
                exact nt _ e6
              conv => whnf
              exact ⟨((k + 1, seen, c), (true, false)), ⟨d1, by show _ ≤ _; omega, by show _ ≤ _; omega, hh'⟩, by show sp.toNat - (k + 1) < sp.toNat - k; omega, ⟨rfl, rfl, rfl, rfl, rfl, rfl, congrArg (fun z : Int => some (SV.u (.c (I64 z)))) ek2, trivial⟩, ⟨congrArg (fun z : Int => some (Blk.cells 59 [I64 2, I64 1, I64 ti, I64 z, .m 200047 57])) ek1, rfl, trivial⟩⟩
          · have e2 : decide (w64 (((k + 1 : Nat) : Int) - (seen : Int)) ≥ ti) = false := e2
            rw [ek5] at e2
            obtain rfl : g' = false := by rw [hg', e2]; rfl
            conv => whnf
            refine ⟨by omega, ?_⟩
            conv => whnf
            refine Ask.i (fun e5 => ?_) (fun e5 => ?_)
            · conv => whnf
              refine ⟨⟨⟨rfl, rfl, good0 rfl rfl⟩, row_s⟩, ?_⟩
              conv => whnf
              intro o ho
              obtain rfl := look_a.symm.trans ho
              conv => whnf
              intro cc hcc
              obtain rfl : cc = false := by
                have hcc : (decide (x64 ((k + 1 : Nat) : Int) < ((seen + 1 : Nat) : Int)) || decide (x64 (w64 (((k + 1 : Nat) : Int) + 1)) < ((seen + 1 : Nat) : Int))) = cc := hcc
                rw [← hcc, ek3, ek4]
                simp
                omega
              conv => whnf
              refine ⟨⟨rfl, rfl⟩, ?_⟩
              conv => whnf
              intro o2 ho2
              have ho2 : addI (numAt 0 ((seen + 1 : Nat) : Int) ((c : Nat) : Int)) (numAt (x64 ((k + 1 : Nat) : Int)) (x64 (w64 (((k + 1 : Nat) : Int) + 1))) 1) = o2 := ho2
              rw [addI_one (by omega)] at ho2
              subst ho2
              conv => whnf
              generalize hm : putM _ _ _ = mm
              obtain rfl : mm = mapS false false (k + 1) (c + 1) := by
                rw [← hm, ← put_a (s' := k + 1) (c' := c + 1)]
                show putM keyA (rowS (numAt 0 (x64 (w64 (((k + 1 : Nat) : Int) + 1))) ((c : Int) + 1)) (w64 ((k : Int) + 1))) _ = _
                rw [ek4, ek1]; rfl
              refine ⟨row_s, ?_⟩
              conv => whnf
              intro o ho
              obtain rfl := look_a.symm.trans ho
              conv => whnf
              refine ⟨row_s, ?_⟩
              conv => whnf
              intro o ho
              obtain rfl := look_b.symm.trans ho
              conv => whnf
              refine Ask.i (fun e6 => ?_) (fun e6 => ?_)
              · have e6 : (false != decide (((k + 1 : Nat) : Int) < ti)) = true := e6
                rw [show decide (((k + 1 : Nat) : Int) < ti) = false by rw [hh']; congr 1] at e6
                exact nt _ e6
              conv => whnf
              exact ⟨((k + 1, k + 1, c + 1), (false, false)), ⟨d1, by show _ ≤ _; omega, by show _ ≤ _; omega, hh'⟩, by show sp.toNat - (k + 1) < sp.toNat - k; omega, ⟨rfl, rfl, rfl, rfl, rfl, rfl, congrArg (fun z : Int => some (SV.u (.c (I64 z)))) ek2, trivial⟩, ⟨congrArg (fun z : Int => some (Blk.cells 59 [I64 2, I64 1, I64 ti, I64 z, .m 200047 57])) ek1, rfl, trivial⟩⟩
            · conv => whnf
              refine ⟨row_s, ?_⟩
              conv => whnf
              intro o ho
              obtain rfl := look_a.symm.trans ho
              conv => whnf
              refine ⟨row_s, ?_⟩
              conv => whnf
              intro o ho
              obtain rfl := look_b.symm.trans ho
              conv => whnf
              refine Ask.i (fun e6 => ?_) (fun e6 => ?_)
              · have e6 : (false != decide (((k + 1 : Nat) : Int) < ti)) = true := e6
                rw [show decide (((k + 1 : Nat) : Int) < ti) = false by rw [hh']; congr 1] at e6
                exact nt _ e6
              conv => whnf
              exact ⟨((k + 1, seen, c), (false, false)), ⟨d1, by show _ ≤ _; omega, by show _ ≤ _; omega, hh'⟩, by show sp.toNat - (k + 1) < sp.toNat - k; omega, ⟨rfl, rfl, rfl, rfl, rfl, rfl, congrArg (fun z : Int => some (SV.u (.c (I64 z)))) ek2, trivial⟩, ⟨congrArg (fun z : Int => some (Blk.cells 59 [I64 2, I64 1, I64 ti, I64 z, .m 200047 57])) ek1, rfl, trivial⟩⟩
      · have e1 : (((k + 1 : Nat) : Int) == ti) = false := e1
        have e1 : ¬ ((k + 1 : Nat) : Int) = ti := by simpa using e1
        obtain rfl : h' = h := by rw [hh', p4]; congr 1; apply propext; omega
        cases g with
        | true =>
          obtain rfl : g' = true := by rw [hg']; rfl
          conv => whnf
          refine Ask.i (fun e4 => ?_) (fun e4 => ?_)
          · cases h' <;> exact absurd e4 Bool.false_ne_true
          conv => whnf
          refine ⟨by omega, ?_⟩
          conv => whnf
          refine Ask.i (fun e5 => ?_) (fun e5 => ?_)
          · conv => whnf
            refine ⟨row_s, ?_⟩
            conv => whnf
            intro o ho
            obtain rfl : none = o := look_a.symm.trans ho
            conv => whnf
            refine ⟨row_s, ?_⟩
            conv => whnf
            intro o ho
            cases h' with
            | true =>
              obtain rfl := look_b.symm.trans ho
              conv => whnf
              refine Ask.i (fun e6 => ?_) (fun e6 => ?_)
              · have e6 : (true != decide (((k + 1 : Nat) : Int) < ti)) = true := e6
                rw [show decide (((k + 1 : Nat) : Int) < ti) = true by rw [hh']; congr 1] at e6
                exact nt _ e6
              conv => whnf
              exact ⟨((k + 1, seen, c), (true, true)), ⟨d1, by show _ ≤ _; omega, by show _ ≤ _; omega, hh'⟩, by show sp.toNat - (k + 1) < sp.toNat - k; omega, ⟨rfl, rfl, rfl, rfl, rfl, rfl, congrArg (fun z : Int => some (SV.u (.c (I64 z)))) ek2, trivial⟩, ⟨congrArg (fun z : Int => some (Blk.cells 59 [I64 2, I64 1, I64 ti, I64 z, .m 200047 57])) ek1, rfl, trivial⟩⟩
            | false =>
              obtain rfl := look_b.symm.trans ho
              conv => whnf
              refine Ask.i (fun e6 => ?_) (fun e6 => ?_)
              · have e6 : (false != decide (((k + 1 : Nat) : Int) < ti)) = true := e6
                rw [show decide (((k + 1 : Nat) : Int) < ti) = false by rw [hh']; congr 1] at e6
                exact nt _ e6
              conv => whnf
              exact ⟨((k + 1, seen, c), (true, false)), ⟨d1, by show _ ≤ _; omega, by show _ ≤ _; omega, hh'⟩, by show sp.toNat - (k + 1) < sp.toNat - k; omega, ⟨rfl, rfl, rfl, rfl, rfl, rfl, congrArg (fun z : Int => some (SV.u (.c (I64 z)))) ek2, trivial⟩, ⟨congrArg (fun z : Int => some (Blk.cells 59 [I64 2, I64 1, I64 ti, I64 z, .m 200047 57])) ek1, rfl, trivial⟩⟩
          · conv => whnf
            refine ⟨row_s, ?_⟩
            conv => whnf
            intro o ho
            obtain rfl : none = o := look_a.symm.trans ho
            conv => whnf
            refine ⟨row_s, ?_⟩
            conv => whnf
            intro o ho
            cases h' with
            | true =>
              obtain rfl := look_b.symm.trans ho
              conv => whnf
              refine Ask.i (fun e6 => ?_) (fun e6 => ?_)
              · have e6 : (true != decide (((k + 1 : Nat) : Int) < ti)) = true := e6
                rw [show decide (((k + 1 : Nat) : Int) < ti) = true by rw [hh']; congr 1] at e6
                exact nt _ e6
              conv => whnf
              exact ⟨((k + 1, seen, c), (true, true)), ⟨d1, by show _ ≤ _; omega, by show _ ≤ _; omega, hh'⟩, by show sp.toNat - (k + 1) < sp.toNat - k; omega, ⟨rfl, rfl, rfl, rfl, rfl, rfl, congrArg (fun z : Int => some (SV.u (.c (I64 z)))) ek2, trivial⟩, ⟨congrArg (fun z : Int => some (Blk.cells 59 [I64 2, I64 1, I64 ti, I64 z, .m 200047 57])) ek1, rfl, trivial⟩⟩
            | false =>
              obtain rfl := look_b.symm.trans ho
              conv => whnf
              refine Ask.i (fun e6 => ?_) (fun e6 => ?_)
              · have e6 : (false != decide (((k + 1 : Nat) : Int) < ti)) = true := e6
                rw [show decide (((k + 1 : Nat) : Int) < ti) = false by rw [hh']; congr 1] at e6
                exact nt _ e6
              conv => whnf
              exact ⟨((k + 1, seen, c), (true, false)), ⟨d1, by show _ ≤ _; omega, by show _ ≤ _; omega, hh'⟩, by show sp.toNat - (k + 1) < sp.toNat - k; omega, ⟨rfl, rfl, rfl, rfl, rfl, rfl, congrArg (fun z : Int => some (SV.u (.c (I64 z)))) ek2, trivial⟩, ⟨congrArg (fun z : Int => some (Blk.cells 59 [I64 2, I64 1, I64 ti, I64 z, .m 200047 57])) ek1, rfl, trivial⟩⟩
        | false =>
          conv => whnf
          refine Ask.i (fun e2 => ?_) (fun e2 => ?_)
          · have e2 : decide (w64 (((k + 1 : Nat) : Int) - (seen : Int)) ≥ ti) = true := e2
            rw [ek5] at e2
            obtain rfl : g' = true := by rw [hg', e2]; rfl
            conv => whnf
            refine Ask.i (fun e4 => ?_) (fun e4 => ?_)
            · cases h' <;> exact absurd e4 Bool.false_ne_true
            conv => whnf
            refine ⟨by omega, ?_⟩
            conv => whnf
            refine Ask.i (fun e5 => ?_) (fun e5 => ?_)
            · conv => whnf
              refine ⟨row_s, ?_⟩
              conv => whnf
              intro o ho
              obtain rfl : none = o := look_a.symm.trans ho
              conv => whnf
              refine ⟨row_s, ?_⟩
              conv => whnf
              intro o ho
              cases h' with
              | true =>
                obtain rfl := look_b.symm.trans ho
                conv => whnf
                refine Ask.i (fun e6 => ?_) (fun e6 => ?_)
                · have e6 : (true != decide (((k + 1 : Nat) : Int) < ti)) = true := e6
                  rw [show decide (((k + 1 : Nat) : Int) < ti) = true by rw [hh']; congr 1] at e6
                  exact nt _ e6
                conv => whnf
                exact ⟨((k + 1, seen, c), (true, true)), ⟨d1, by show _ ≤ _; omega, by show _ ≤ _; omega, hh'⟩, by show sp.toNat - (k + 1) < sp.toNat - k; omega, ⟨rfl, rfl, rfl, rfl, rfl, rfl, congrArg (fun z : Int => some (SV.u (.c (I64 z)))) ek2, trivial⟩, ⟨congrArg (fun z : Int => some (Blk.cells 59 [I64 2, I64 1, I64 ti, I64 z, .m 200047 57])) ek1, rfl, trivial⟩⟩
              | false =>
                obtain rfl := look_b.symm.trans ho
                conv => whnf
                refine Ask.i (fun e6 => ?_) (fun e6 => ?_)
                · have e6 : (false != decide (((k + 1 : Nat) : Int) < ti)) = true := e6
                  rw [show decide (((k + 1 : Nat) : Int) < ti) = false by rw [hh']; congr 1] at e6
                  exact nt _ e6
                conv => whnf
                exact ⟨((k + 1, seen, c), (true, false)), ⟨d1, by show _ ≤ _; omega, by show _ ≤ _; omega, hh'⟩, by show sp.toNat - (k + 1) < sp.toNat - k; omega, ⟨rfl, rfl, rfl, rfl, rfl, rfl, congrArg (fun z : Int => some (SV.u (.c (I64 z)))) ek2, trivial⟩, ⟨congrArg (fun z : Int => some (Blk.cells 59 [I64 2, I64 1, I64 ti, I64 z, .m 200047 57])) ek1, rfl, trivial⟩⟩
            · conv => whnf
              refine ⟨row_s, ?_⟩
              conv => whnf
              intro o ho
              obtain rfl : none = o := look_a.symm.trans ho
              conv => whnf
              refine ⟨row_s, ?_⟩
              conv => whnf
              intro o ho
              cases h' with
              | true =>
                obtain rfl := look_b.symm.trans ho
                conv => whnf
                refine Ask.i (fun e6 => ?_) (fun e6 => ?_)
                · have e6 : (true != decide (((k + 1 : Nat) : Int) < ti)) = true := e6
                  rw [show decide (((k + 1 : Nat) : Int) < ti) = true by rw [hh']; congr 1] at e6
                  exact nt _ e6
                conv => whnf
                exact ⟨((k + 1, seen, c), (true, true)), ⟨d1, by show _ ≤ _; omega, by show _ ≤ _; omega, hh'⟩, by show sp.toNat - (k + 1) < sp.toNat - k; omega, ⟨rfl, rfl, rfl, rfl, rfl, rfl, congrArg (fun z : Int => some (SV.u (.c (I64 z)))) ek2, trivial⟩, ⟨congrArg (fun z : Int => some (Blk.cells 59 [I64 2, I64 1, I64 ti, I64 z, .m 200047 57])) ek1, rfl, trivial⟩⟩
              | false =>
                obtain rfl := look_b.symm.trans ho
                conv => whnf
                refine Ask.i (fun e6 => ?_) (fun e6 => ?_)
                · have e6 : (false != decide (((k + 1 : Nat) : Int) < ti)) = true := e6
                  rw [show decide (((k + 1 : Nat) : Int) < ti) = false by rw [hh']; congr 1] at e6
                  exact nt _ e6
                conv => whnf
                exact ⟨((k + 1, seen, c), (true, false)), ⟨d1, by show _ ≤ _; omega, by show _ ≤ _; omega, hh'⟩, by show sp.toNat - (k + 1) < sp.toNat - k; omega, ⟨rfl, rfl, rfl, rfl, rfl, rfl, congrArg (fun z : Int => some (SV.u (.c (I64 z)))) ek2, trivial⟩, ⟨congrArg (fun z : Int => some (Blk.cells 59 [I64 2, I64 1, I64 ti, I64 z, .m 200047 57])) ek1, rfl, trivial⟩⟩
          · have e2 : decide (w64 (((k + 1 : Nat) : Int) - (seen : Int)) ≥ ti) = false := e2
            rw [ek5] at e2
            obtain rfl : g' = false := by rw [hg', e2]; rfl
            conv => whnf
            refine Ask.i (fun e4 => ?_) (fun e4 => ?_)
            · cases h' <;> exact absurd e4 Bool.false_ne_true
            conv => whnf
            refine ⟨by omega, ?_⟩
            conv => whnf
            refine Ask.i (fun e5 => ?_) (fun e5 => ?_)
            · conv => whnf
              refine ⟨⟨⟨rfl, rfl, good0 rfl rfl⟩, row_s⟩, ?_⟩
              conv => whnf
              intro o ho
              obtain rfl := look_a.symm.trans ho
              conv => whnf
              intro cc hcc
              obtain rfl : cc = false := by
                have hcc : (decide (x64 ((k + 1 : Nat) : Int) < ((seen + 1 : Nat) : Int)) || decide (x64 (w64 (((k + 1 : Nat) : Int) + 1)) < ((seen + 1 : Nat) : Int))) = cc := hcc
                rw [← hcc, ek3, ek4]
                simp
                omega
              conv => whnf
              refine ⟨⟨rfl, rfl⟩, ?_⟩
              conv => whnf
              intro o2 ho2
              have ho2 : addI (numAt 0 ((seen + 1 : Nat) : Int) ((c : Nat) : Int)) (numAt (x64 ((k + 1 : Nat) : Int)) (x64 (w64 (((k + 1 : Nat) : Int) + 1))) 1) = o2 := ho2
              rw [addI_one (by omega)] at ho2
              subst ho2
              conv => whnf
              generalize hm : putM _ _ _ = mm
              obtain rfl : mm = mapS false h' (k + 1) (c + 1) := by
                rw [← hm, ← put_a (s' := k + 1) (c' := c + 1)]
                show putM keyA (rowS (numAt 0 (x64 (w64 (((k + 1 : Nat) : Int) + 1))) ((c : Int) + 1)) (w64 ((k : Int) + 1))) _ = _
                rw [ek4, ek1]; rfl
              refine ⟨row_s, ?_⟩
              conv => whnf
              intro o ho
              obtain rfl := look_a.symm.trans ho
              conv => whnf
              refine ⟨row_s, ?_⟩
              conv => whnf
              intro o ho
              cases h' with
              | true =>
                obtain rfl := look_b.symm.trans ho
                conv => whnf
                refine Ask.i (fun e6 => ?_) (fun e6 => ?_)
                · have e6 : (true != decide (((k + 1 : Nat) : Int) < ti)) = true := e6
                  rw [show decide (((k + 1 : Nat) : Int) < ti) = true by rw [hh']; congr 1] at e6
                  exact nt _ e6
                conv => whnf
                exact ⟨((k + 1, k + 1, c + 1), (false, true)), ⟨d1, by show _ ≤ _; omega, by show _ ≤ _; omega, hh'⟩, by show sp.toNat - (k + 1) < sp.toNat - k; omega, ⟨rfl, rfl, rfl, rfl, rfl, rfl, congrArg (fun z : Int => some (SV.u (.c (I64 z)))) ek2, trivial⟩, ⟨congrArg (fun z : Int => some (Blk.cells 59 [I64 2, I64 1, I64 ti, I64 z, .m 200047 57])) ek1, rfl, trivial⟩⟩
              | false =>
                obtain rfl := look_b.symm.trans ho
                conv => whnf
                refine Ask.i (fun e6 => ?_) (fun e6 => ?_)
                · have e6 : (false != decide (((k + 1 : Nat) : Int) < ti)) = true := e6
                  rw [show decide (((k + 1 : Nat) : Int) < ti) = false by rw [hh']; congr 1] at e6
                  exact nt _ e6
                conv => whnf
                exact ⟨((k + 1, k + 1, c + 1), (false, false)), ⟨d1, by show _ ≤ _; omega, by show _ ≤ _; omega, hh'⟩, by show sp.toNat - (k + 1) < sp.toNat - k; omega, ⟨rfl, rfl, rfl, rfl, rfl, rfl, congrArg (fun z : Int => some (SV.u (.c (I64 z)))) ek2, trivial⟩, ⟨congrArg (fun z : Int => some (Blk.cells 59 [I64 2, I64 1, I64 ti, I64 z, .m 200047 57])) ek1, rfl, trivial⟩⟩
            · conv => whnf
              refine ⟨row_s, ?_⟩
              conv => whnf
              intro o ho
              obtain rfl := look_a.symm.trans ho
              conv => whnf
              refine ⟨row_s, ?_⟩
              conv => whnf
              intro o ho
              cases h' with
              | true =>
                obtain rfl := look_b.symm.trans ho
                conv => whnf
                refine Ask.i (fun e6 => ?_) (fun e6 => ?_)
                · have e6 : (true != decide (((k + 1 : Nat) : Int) < ti)) = true := e6
                  rw [show decide (((k + 1 : Nat) : Int) < ti) = true by rw [hh']; congr 1] at e6
                  exact nt _ e6
                conv => whnf
                exact ⟨((k + 1, seen, c), (false, true)), ⟨d1, by show _ ≤ _; omega, by show _ ≤ _; omega, hh'⟩, by show sp.toNat - (k + 1) < sp.toNat - k; omega, ⟨rfl, rfl, rfl, rfl, rfl, rfl, congrArg (fun z : Int => some (SV.u (.c (I64 z)))) ek2, trivial⟩, ⟨congrArg (fun z : Int => some (Blk.cells 59 [I64 2, I64 1, I64 ti, I64 z, .m 200047 57])) ek1, rfl, trivial⟩⟩
              | false =>
                obtain rfl := look_b.symm.trans ho
                conv => whnf
                refine Ask.i (fun e6 => ?_) (fun e6 => ?_)
                · have e6 : (false != decide (((k + 1 : Nat) : Int) < ti)) = true := e6
                  rw [show decide (((k + 1 : Nat) : Int) < ti) = false by rw [hh']; congr 1] at e6
                  exact nt _ e6
                conv => whnf
                exact ⟨((k + 1, seen, c), (false, false)), ⟨d1, by show _ ≤ _; omega, by show _ ≤ _; omega, hh'⟩, by show sp.toNat - (k + 1) < sp.toNat - k; omega, ⟨rfl, rfl, rfl, rfl, rfl, rfl, congrArg (fun z : Int => some (SV.u (.c (I64 z)))) ek2, trivial⟩, ⟨congrArg (fun z : Int => some (Blk.cells 59 [I64 2, I64 1, I64 ti, I64 z, .m 200047 57])) ek1, rfl, trivial⟩⟩
    · conv => whnf
      exact hk
  · exact hk.elim
end Sx
/-! ConvSeen, at any input. -/
namespace Sx
open Go Go.Proofs Go.RowKit
set_option linter.unusedVariables false
set_option maxRecDepth 30000
theorem convSeen_walk {W : World} (a0 : Int) (_ : (Lit.int .i64 a0).wf = true) (a1 : Int) (_ : (Lit.int .i64 a1).wf = true) (a2 : Int) (_ : (Lit.int .i64 a2).wf = true) (hg : YtcjdbimojffggaaDoor.Cd.Lays W) :
    Calls Tryd.prog 3 #[.int .i64 a0, .int .i64 a1, .int .i64 a2] W fun e W' => e = .returned (.bool true) ∧ Below W.heap.size W W' := by
  have := seen_ok.2 (fun s => s = .u (.c (Bo true))) [.c (I64 a0), .c (I64 a1), .c (I64 a2)] (fun _ => False) W [.int .i64 a0, .int .i64 a1, .int .i64 a2]
    rfl (GOk1 hg) (fun b h => h.elim) ⟨⟨rfl, rfl⟩, ⟨rfl, rfl⟩, ⟨rfl, rfl⟩, trivial⟩
  refine this.mono fun e' W' ⟨r, v, h1, h2, h3, h4⟩ => ?_
  subst h2
  obtain ⟨rfl, _⟩ := h3
  exact ⟨h1, h4.below⟩
end Sx
