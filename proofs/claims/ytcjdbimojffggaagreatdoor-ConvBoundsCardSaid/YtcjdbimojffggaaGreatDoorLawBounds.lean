/- The law ConvBounds answers true at any input. Conditions: the input reads as data of the row's types, and errors.errorType is laid as the program's text lays it. -/
import Derived.Test.YtcjdbimojffggaaGreatDoorVo
import Derived.Test.YtcjdbimojffggaaGreatDoorVm
import Derived.Test.YtcjdbimojffggaaGreatDoorVh
import Derived.Test.YtcjdbimojffggaaGreatDoorVi
set_option linter.unusedVariables false
set_option linter.unusedSimpArgs false
/-! ConvBounds walked. -/
namespace Sx
open Go Go.Proofs
set_option linter.unusedVariables false
set_option linter.unusedSimpArgs false
set_option maxRecDepth 30000
def boundsLS (k : Nat) : List U → Out SV
  | [.c (.v (.int .i64 st)), .c (.v (.int .i64 bu)), .c (.v (.int .i64 ti)), .c (.d 22 (.rows R))] => .need (R.length ≤ 9223372036854775807 ∧ (∀ r ∈ R, OpTyp r) ∧ (FewOk R → ∀ r ∈ R, RowDp k r)) (one (Bo true))
  | _ => .fail
/-- the rest of a table, after some ticks -/
structure Rest (nw0 ti : Int) (j : Nat) (l : LL) : Prop where
  keys : (l.map (·.1)).Nodup
  rows : ∀ kr ∈ l, ∃ (p : PtD) (i : Int), kr.2 = p.row i ∧ 0 ≤ i ∧ i ≤ nw0 ∧ (1 ≤ j → nw0 + j - i < ti)
theorem old_row {nw ti i : Int} {p : PtD} : oldB nw ti (p.row i) = decide (w64 (nw - i) ≥ ti) := rfl
theorem Rest.next {nw0 ti : Int} {j : Nat} {l : LL} (h : Rest nw0 ti j l) (hn : 0 ≤ nw0 ∧ nw0 ≤ 60) (hj : j ≤ 1000) : Rest nw0 ti (j + 1) (l.filter fun kr => !oldB (w64 (nw0 + j + 1)) ti kr.2) := by
  have e0 : w64 (nw0 + j + 1) = nw0 + j + 1 := w64_eq (by omega)
  refine ⟨h.keys.sublist ((List.filter_sublist ..).map _), fun kr hm => ?_⟩
  obtain ⟨hm, hq⟩ := List.mem_filter.1 hm
  obtain ⟨p, i, e, h1, h2, h3⟩ := h.rows kr hm
  refine ⟨p, i, e, h1, h2, fun _ => ?_⟩
  rw [e0, e, old_row, w64_eq (n := nw0 + j + 1 - i) (by omega)] at hq
  simp at hq
  omega
theorem Rest.done {nw0 ti : Int} {j : Nat} {l : LL} (h : Rest nw0 ti j l) (hj : (j : Int) = ti) (h1 : 1 ≤ j) : l = [] := by
  cases l with
  | nil => rfl
  | cons kr l =>
    obtain ⟨p, i, _, q1, q2, q3⟩ := h.rows kr (List.mem_cons_self ..)
    have := q3 h1
    omega
set_option maxHeartbeats 8000000 in
theorem bounds_ok {k : Nat} : Ok G1 3 (boundsLS k) := by
  have hS : AllSound (B [(6, .pure (normG (B []) [] Nu.firstS)), (7, .full (normF (B []) [3, 3, 3] newS)), (8, .pure (normG (B []) [22] fewT)), (9, .full (normF (B []) [24, 9] (stateT (k + 1)))), (10, .full (normF (B []) [24] lenTS)), (11, .full (normF (B []) [24, 9, 46] (upR (k + 1)))), (12, .pure (normG (B []) [55, 55] (sameT (k + 1)))), (13, .pure (normG (B []) [46] plainT)), (14, .full (normF (B []) [24] tickS)), (15, .full (normF (B []) [24] tkeysT))]) G1 :=
    .cons _ Nu.first_ok (.consF _ new_ok (.cons _ few_ok (.consF _ state_ok' (.consF _ lenT_ok (.consF _ upR_ok (.cons _ same_ok (.cons _ plain_ok (.consF _ tick_ok (.consF _ tkeys_ok noneS)))))))))
  refine okP hS Tryz.func3 rfl (by decide) fun K us hk => ?_
  unfold boundsLS at hk
  split at hk
  · rename_i st bu ti R
    refine ⟨by show 4 ≤ _; decide, ?_⟩
    obtain ⟨⟨hlen, hT, hDp⟩, hk⟩ := hk
    have hk : K (.u (.c (Bo true))) := hk
    conv => whnf
    intro c hc
    cases c with
    | true =>
      conv => whnf
      exact hk
    | false =>
      have hc : badN st bu ti = false := hc
      unfold badN at hc
      simp only [Bool.or_eq_false_iff, decide_eq_false_iff_not] at hc
      obtain ⟨n1, n2, n3, n4, n5, n6⟩ := hc
      conv => whnf
      refine ⟨⟨hlen, hT⟩, ?_⟩
      conv => whnf
      intro b hb
      cases b with
      | false =>
        conv => whnf
        exact hk
      | true =>
        have hF := hb rfl
        have hD := hDp hF
        have hl60 := hF.len
        conv => whnf
        refine ⟨[], _, _, rfl, (Nat × Nat) × LL, (fun x => match x with | ((i, nw), l) => ([(0, .u (.c (I64 st))), (1, .u (.c (I64 bu))), (2, .u (.c (I64 ti))), (3, .u (.c (.d 22 (.rows R)))), (9, .u (.c (.p 100029 0))), (11, .u (.c (I64 (i : Nat))))],
          [(100029, .cells 81 [I64 st, I64 bu, I64 ti, I64 (nw : Nat), .m 200029 79]), (200029, .map 79 l)])),
          (fun x => match x with | ((i, nw), l) => i ≤ R.length ∧ nw ≤ i ∧ TabOk k st bu (nw : Nat) l), (fun x => match x with | ((i, nw), l) => R.length - i), ?_, ⟨((0, 0), []), ⟨Nat.zero_le _, Nat.le_refl _, TabOk.nil (by omega)⟩, ⟨rfl, rfl, rfl, rfl, rfl, rfl, trivial⟩, ⟨rfl, rfl, trivial⟩⟩, ?_⟩
        · rintro ⟨⟨i, nw⟩, l⟩ _; rfl
        rintro ⟨⟨i, nw⟩, l⟩ ⟨p1, p2, p3⟩
        have p1 : i ≤ R.length := p1
        have p2 : nw ≤ i := p2
        have p3 : TabOk k st bu ((nw : Nat) : Int) l := p3
        conv => whnf
        refine Ask.i (fun d1 => ?_) (fun d1 => ?_)
        · have d1 : (i : Int) < ((R.length : Nat) : Int) := of_decide_eq_true d1
          have hi : i < R.length := by omega
          have hb : (0 : Int) ≤ (i : Int) ∧ (i : Int) < ((R.length : Nat) : Int) := ⟨by omega, d1⟩
          have hmem : R.getD i [] ∈ R := by rw [List.getD_eq_getElem?_getD, List.getElem?_eq_getElem hi]; exact List.getElem_mem hi
          have tT := hT _ hmem
          have tS := hF.small _ hmem
          have tD := hD _ hmem
          have tK := hF.key _ hmem
          have told := told_of tT tS tD
          have ek1 : w64 ((i : Int) + 1) = ((i + 1 : Nat) : Int) := by rw [w64_eq (by omega)]; omega
          have ek2 : w64 ((nw : Int) + 1) = ((nw + 1 : Nat) : Int) := by rw [w64_eq (by omega)]; omega
          conv => whnf
          refine ⟨hb, ?_⟩
          conv => whnf
          refine ⟨p3.row, ?_⟩
          conv => whnf
          intro o ho
          have ho : lookP (cellD (R.getD i []) 1).toStr l = o := ho
          cases o with
          | none =>
            conv => whnf
            refine Ask.i (fun e1 => ?_) (fun e1 => ?_)
            · conv => whnf
              refine ⟨⟨tT.i22, tT.i23, tT.i41, tT.i45, told, by omega, by omega, p3.row⟩, ?_⟩
              conv => whnf
              intro o1 ho1
              cases o1 with
              | none =>
                conv => whnf
                intro v hv
                conv => whnf
                refine ⟨p3.row, ?_⟩
                conv => whnf
                intro o2 ho2
                have ho2 : lookP (cellD (R.getD i []) 1).toStr l = o2 := ho2
                obtain rfl := ho.symm.trans ho2
                conv => whnf
                refine Ask.i (fun e2 => ?_) (fun e2 => absurd (of_decide_eq_false e2) (by omega))
                conv => whnf
                refine ⟨mixed, [(10, [100029, 200029])], [(1, []), (10, [100029, 200029]), (15, [100029, 200029]), (16, [100029, 200029]), (17, [100029, 200029]), (18, [100029, 200029]), (19, [100029, 200029])], [], by kernel_rfl, ?_⟩
                conv => whnf
                refine Ask.i (fun e3 => nt _ e3) (fun _ => ?_)
                conv => whnf
                refine ⟨⟨rfl, good0⟩, ?_⟩
                conv => whnf
                refine Ask.i (fun f1 => ?_) (fun f1 => ?_)
                · have f1 : decide (((l.length : Nat) : Int) > st) = true := f1
                  have := of_decide_eq_true f1
                  exact absurd (p3).len (Int.not_le.2 this)
                conv => whnf
                refine ⟨⟨(p3).keys, (p3).size, by have := (p3).len; omega⟩, ?_⟩
                conv => whnf
                intro ks hks
                conv => whnf
                refine Ask.i (fun f2 => ?_) (fun f2 => ?_)
                · have f2 : ((((ks.length : Nat) : Int)) != ((l.length : Nat) : Int)) = true := f2
                  rw [hks] at f2
                  exact nt _ f2
                conv => whnf
                exact ⟨((i + 1, nw), l), ⟨hi, by omega, p3⟩, by show R.length - (i + 1) < R.length - i; omega, ⟨rfl, rfl, rfl, rfl, rfl, congrArg (fun z : Int => some (SV.u (.c (I64 z)))) ek1, trivial⟩, ⟨rfl, rfl, trivial⟩⟩
              | some x =>
                have hx := ho1 x rfl
                have p4 := p3.put hx tK (by omega)
                have gx := hx.1
                have gs := gx.short (by omega)
                conv => whnf
                refine ⟨p4.row, ?_⟩
                conv => whnf
                intro o2 ho2
                obtain rfl := look_put.symm.trans ho2
                conv => whnf
                refine Ask.i (fun e2 => absurd (of_decide_eq_true e2) (by have := hx.2.2.1; omega)) (fun e2 => ?_)
                conv => whnf
                refine ⟨mixed, [], [(3, []), (4, []), (5, []), (6, []), (7, []), (14, []), (15, []), (23, []), (24, [])], [], by kernel_rfl, ?_⟩
                conv => whnf
                refine ⟨⟨rfl, gx.same⟩, ?_⟩
                conv => whnf
                refine Ask.i (fun e3 => absurd gs.1 (Int.not_le.2 (of_decide_eq_true e3))) (fun e3 => ?_)
                conv => whnf
                refine Ask.i (fun e4 => absurd gs.2 (Int.not_le.2 (of_decide_eq_true e4))) (fun e4 => ?_)
                conv => whnf
                refine Ask.i (fun e5 => ?_) (fun e5 => ?_)
                · have e5 : ((x.2 == 1) == false) = true := e5
                  rw [show x.2 = 1 from hx.2.2.2.1.2 (look_none.1 ho)] at e5
                  cases e5
                conv => whnf
                refine Ask.i (fun f1 => ?_) (fun f1 => ?_)
                · have f1 : decide ((((putM (cellD (R.getD i []) 1).toStr (x.1.row ((nw : Nat) : Int)) l).length : Nat) : Int) > st) = true := f1
                  have := of_decide_eq_true f1
                  exact absurd (p4).len (Int.not_le.2 this)
                conv => whnf
                refine ⟨⟨(p4).keys, (p4).size, by have := (p4).len; omega⟩, ?_⟩
                conv => whnf
                intro ks hks
                conv => whnf
                refine Ask.i (fun f2 => ?_) (fun f2 => ?_)
                · have f2 : ((((ks.length : Nat) : Int)) != (((putM (cellD (R.getD i []) 1).toStr (x.1.row ((nw : Nat) : Int)) l).length : Nat) : Int)) = true := f2
                  rw [hks] at f2
                  exact nt _ f2
                conv => whnf
                exact ⟨((i + 1, nw), (putM (cellD (R.getD i []) 1).toStr (x.1.row ((nw : Nat) : Int)) l)), ⟨hi, by omega, p4⟩, by show R.length - (i + 1) < R.length - i; omega, ⟨rfl, rfl, rfl, rfl, rfl, congrArg (fun z : Int => some (SV.u (.c (I64 z)))) ek1, trivial⟩, ⟨rfl, rfl, trivial⟩⟩
            · conv => whnf
              refine Ask.i (fun e2 => ?_) (fun e2 => ?_)
              · conv => whnf
                refine ⟨p3.keys, ?_⟩
                conv => whnf
                intro l' hl'
                have p4 := p3.filter (fun kr => !oldB (w64 ((nw : Int) + 1)) ti kr.2) (nw' := ((nw + 1 : Nat) : Int)) (by omega)
                obtain rfl := hl'
                conv => whnf
                refine Ask.i (fun e3 => nt _ e3) (fun _ => ?_)
                conv => whnf
                refine Ask.i (fun f1 => ?_) (fun f1 => ?_)
                · have f1 : decide ((((l.filter fun kr => !oldB (w64 ((nw : Int) + 1)) ti kr.2).length : Nat) : Int) > st) = true := f1
                  have := of_decide_eq_true f1
                  exact absurd (p4).len (Int.not_le.2 this)
                conv => whnf
                refine ⟨⟨(p4).keys, (p4).size, by have := (p4).len; omega⟩, ?_⟩
                conv => whnf
                intro ks hks
                conv => whnf
                refine Ask.i (fun f2 => ?_) (fun f2 => ?_)
                · have f2 : ((((ks.length : Nat) : Int)) != (((l.filter fun kr => !oldB (w64 ((nw : Int) + 1)) ti kr.2).length : Nat) : Int)) = true := f2
                  rw [hks] at f2
                  exact nt _ f2
                conv => whnf
                exact ⟨((i + 1, nw + 1), (l.filter fun kr => !oldB (w64 ((nw : Int) + 1)) ti kr.2)), ⟨hi, by omega, p4⟩, by show R.length - (i + 1) < R.length - i; omega, ⟨rfl, rfl, rfl, rfl, rfl, congrArg (fun z : Int => some (SV.u (.c (I64 z)))) ek1, trivial⟩, ⟨congrArg (fun z : Int => some (Blk.cells 81 [I64 st, I64 bu, I64 ti, I64 z, .m 200029 79])) ek2, rfl, trivial⟩⟩
              · conv => whnf
                refine Ask.i (fun f1 => ?_) (fun f1 => ?_)
                · have f1 : decide (((l.length : Nat) : Int) > st) = true := f1
                  have := of_decide_eq_true f1
                  exact absurd (p3).len (Int.not_le.2 this)
                conv => whnf
                refine ⟨⟨(p3).keys, (p3).size, by have := (p3).len; omega⟩, ?_⟩
                conv => whnf
                intro ks hks
                conv => whnf
                refine Ask.i (fun f2 => ?_) (fun f2 => ?_)
                · have f2 : ((((ks.length : Nat) : Int)) != ((l.length : Nat) : Int)) = true := f2
                  rw [hks] at f2
                  exact nt _ f2
                conv => whnf
                exact ⟨((i + 1, nw), l), ⟨hi, by omega, p3⟩, by show R.length - (i + 1) < R.length - i; omega, ⟨rfl, rfl, rfl, rfl, rfl, congrArg (fun z : Int => some (SV.u (.c (I64 z)))) ek1, trivial⟩, ⟨rfl, rfl, trivial⟩⟩
          | some x0 =>
            have g0 := (p3.had ho).same
            conv => whnf
            refine Ask.i (fun e1 => ?_) (fun e1 => ?_)
            · conv => whnf
              refine ⟨⟨tT.i22, tT.i23, tT.i41, tT.i45, told, by omega, by omega, p3.row⟩, ?_⟩
              conv => whnf
              intro o1 ho1
              cases o1 with
              | none =>
                conv => whnf
                intro v hv
                conv => whnf
                refine ⟨p3.row, ?_⟩
                conv => whnf
                intro o2 ho2
                have ho2 : lookP (cellD (R.getD i []) 1).toStr l = o2 := ho2
                obtain rfl := ho.symm.trans ho2
                conv => whnf
                refine Ask.i (fun e2 => ?_) (fun e2 => absurd (of_decide_eq_false e2) (by omega))
                conv => whnf
                refine ⟨mixed, [(10, [100029, 200029])], [(1, []), (10, [100029, 200029]), (15, [100029, 200029]), (16, [100029, 200029]), (17, [100029, 200029]), (18, [100029, 200029]), (19, [100029, 200029])], [], by kernel_rfl, ?_⟩
                conv => whnf
                refine Ask.i (fun e3 => nt _ e3) (fun _ => ?_)
                conv => whnf
                refine ⟨⟨rfl, g0⟩, ?_⟩
                conv => whnf
                refine Ask.i (fun f1 => ?_) (fun f1 => ?_)
                · have f1 : decide (((l.length : Nat) : Int) > st) = true := f1
                  have := of_decide_eq_true f1
                  exact absurd (p3).len (Int.not_le.2 this)
                conv => whnf
                refine ⟨⟨(p3).keys, (p3).size, by have := (p3).len; omega⟩, ?_⟩
                conv => whnf
                intro ks hks
                conv => whnf
                refine Ask.i (fun f2 => ?_) (fun f2 => ?_)
                · have f2 : ((((ks.length : Nat) : Int)) != ((l.length : Nat) : Int)) = true := f2
                  rw [hks] at f2
                  exact nt _ f2
                conv => whnf
                exact ⟨((i + 1, nw), l), ⟨hi, by omega, p3⟩, by show R.length - (i + 1) < R.length - i; omega, ⟨rfl, rfl, rfl, rfl, rfl, congrArg (fun z : Int => some (SV.u (.c (I64 z)))) ek1, trivial⟩, ⟨rfl, rfl, trivial⟩⟩
              | some x =>
                have hx := ho1 x rfl
                have p4 := p3.put hx tK (by omega)
                have gx := hx.1
                have gs := gx.short (by omega)
                conv => whnf
                refine ⟨p4.row, ?_⟩
                conv => whnf
                intro o2 ho2
                obtain rfl := look_put.symm.trans ho2
                conv => whnf
                refine Ask.i (fun e2 => absurd (of_decide_eq_true e2) (by have := hx.2.2.1; omega)) (fun e2 => ?_)
                conv => whnf
                refine ⟨mixed, [], [(3, []), (4, []), (5, []), (6, []), (7, []), (14, []), (15, []), (23, []), (24, [])], [], by kernel_rfl, ?_⟩
                conv => whnf
                refine ⟨⟨rfl, gx.same⟩, ?_⟩
                conv => whnf
                refine Ask.i (fun e3 => absurd gs.1 (Int.not_le.2 (of_decide_eq_true e3))) (fun e3 => ?_)
                conv => whnf
                refine Ask.i (fun e4 => absurd gs.2 (Int.not_le.2 (of_decide_eq_true e4))) (fun e4 => ?_)
                conv => whnf
                refine Ask.i (fun e5 => ?_) (fun e5 => ?_)
                · have e5 : ((x.2 == 1) == true) = true := e5
                  have e6 : x.2 = 1 := by simpa using e5
                  have h7 : lookP (cellD (R.getD i []) 1).toStr l = none := look_none.2 (hx.2.2.2.1.1 e6)
                  rw [h7] at ho
                  cases ho
                conv => whnf
                refine Ask.i (fun f1 => ?_) (fun f1 => ?_)
                · have f1 : decide ((((putM (cellD (R.getD i []) 1).toStr (x.1.row ((nw : Nat) : Int)) l).length : Nat) : Int) > st) = true := f1
                  have := of_decide_eq_true f1
                  exact absurd (p4).len (Int.not_le.2 this)
                conv => whnf
                refine ⟨⟨(p4).keys, (p4).size, by have := (p4).len; omega⟩, ?_⟩
                conv => whnf
                intro ks hks
                conv => whnf
                refine Ask.i (fun f2 => ?_) (fun f2 => ?_)
                · have f2 : ((((ks.length : Nat) : Int)) != (((putM (cellD (R.getD i []) 1).toStr (x.1.row ((nw : Nat) : Int)) l).length : Nat) : Int)) = true := f2
                  rw [hks] at f2
                  exact nt _ f2
                conv => whnf
                exact ⟨((i + 1, nw), (putM (cellD (R.getD i []) 1).toStr (x.1.row ((nw : Nat) : Int)) l)), ⟨hi, by omega, p4⟩, by show R.length - (i + 1) < R.length - i; omega, ⟨rfl, rfl, rfl, rfl, rfl, congrArg (fun z : Int => some (SV.u (.c (I64 z)))) ek1, trivial⟩, ⟨rfl, rfl, trivial⟩⟩
            · conv => whnf
              refine Ask.i (fun e2 => ?_) (fun e2 => ?_)
              · conv => whnf
                refine ⟨p3.keys, ?_⟩
                conv => whnf
                intro l' hl'
                have p4 := p3.filter (fun kr => !oldB (w64 ((nw : Int) + 1)) ti kr.2) (nw' := ((nw + 1 : Nat) : Int)) (by omega)
                obtain rfl := hl'
                conv => whnf
                refine Ask.i (fun e3 => nt _ e3) (fun _ => ?_)
                conv => whnf
                refine Ask.i (fun f1 => ?_) (fun f1 => ?_)
                · have f1 : decide ((((l.filter fun kr => !oldB (w64 ((nw : Int) + 1)) ti kr.2).length : Nat) : Int) > st) = true := f1
                  have := of_decide_eq_true f1
                  exact absurd (p4).len (Int.not_le.2 this)
                conv => whnf
                refine ⟨⟨(p4).keys, (p4).size, by have := (p4).len; omega⟩, ?_⟩
                conv => whnf
                intro ks hks
                conv => whnf
                refine Ask.i (fun f2 => ?_) (fun f2 => ?_)
                · have f2 : ((((ks.length : Nat) : Int)) != (((l.filter fun kr => !oldB (w64 ((nw : Int) + 1)) ti kr.2).length : Nat) : Int)) = true := f2
                  rw [hks] at f2
                  exact nt _ f2
                conv => whnf
                exact ⟨((i + 1, nw + 1), (l.filter fun kr => !oldB (w64 ((nw : Int) + 1)) ti kr.2)), ⟨hi, by omega, p4⟩, by show R.length - (i + 1) < R.length - i; omega, ⟨rfl, rfl, rfl, rfl, rfl, congrArg (fun z : Int => some (SV.u (.c (I64 z)))) ek1, trivial⟩, ⟨congrArg (fun z : Int => some (Blk.cells 81 [I64 st, I64 bu, I64 ti, I64 z, .m 200029 79])) ek2, rfl, trivial⟩⟩
              · conv => whnf
                refine Ask.i (fun f1 => ?_) (fun f1 => ?_)
                · have f1 : decide (((l.length : Nat) : Int) > st) = true := f1
                  have := of_decide_eq_true f1
                  exact absurd (p3).len (Int.not_le.2 this)
                conv => whnf
                refine ⟨⟨(p3).keys, (p3).size, by have := (p3).len; omega⟩, ?_⟩
                conv => whnf
                intro ks hks
                conv => whnf
                refine Ask.i (fun f2 => ?_) (fun f2 => ?_)
                · have f2 : ((((ks.length : Nat) : Int)) != ((l.length : Nat) : Int)) = true := f2
                  rw [hks] at f2
                  exact nt _ f2
                conv => whnf
                exact ⟨((i + 1, nw), l), ⟨hi, by omega, p3⟩, by show R.length - (i + 1) < R.length - i; omega, ⟨rfl, rfl, rfl, rfl, rfl, congrArg (fun z : Int => some (SV.u (.c (I64 z)))) ek1, trivial⟩, ⟨rfl, rfl, trivial⟩⟩
        · conv => whnf
          refine Ask.i (fun e1 => ?_) (fun e1 => ?_)
          · conv => whnf
            exact hk
          have e1 := of_decide_eq_false e1
          have p5 : nw ≤ 60 := by omega
          conv => whnf
          refine ⟨[], _, _, rfl, Nat × LL, (fun x => match x with | (j, l1) => ([(2, .u (.c (I64 ti))), (9, .u (.c (.p 100029 0))), (20, .u (.c (I64 ((l.length : Int) - (l1.length : Int))))), (21, .u (.c (I64 (l.length : Nat)))), (22, .u (.c (I64 (j : Nat))))],
            [(100029, .cells 81 [I64 st, I64 bu, I64 ti, I64 ((nw : Int) + (j : Nat)), .m 200029 79]), (200029, .map 79 l1)])),
            (fun x => match x with | (j, l1) => (j : Int) ≤ ti ∧ Rest ((nw : Nat) : Int) ti j l1 ∧ l1.length ≤ l.length), (fun x => match x with | (j, l1) => ti.toNat - j), ?_, ⟨(0, l), ⟨by show (0 : Int) ≤ ti; omega, ⟨p3.keys, fun kr hm => ?_⟩, Nat.le_refl _⟩, ⟨rfl, rfl, ?_, rfl, rfl, trivial⟩, ⟨?_, rfl, trivial⟩⟩, ?_⟩
          · rintro ⟨j, l1⟩ _; rfl
          · obtain ⟨p, i, q1, _, q2, q3⟩ := p3.rows kr hm
            exact ⟨p, i, q1, q2, q3, fun h => by omega⟩
          · exact congrArg (fun z : Int => some (SV.u (.c (I64 z)))) (Int.sub_self _).symm
          · exact congrArg (fun z : Int => some (Blk.cells 81 [I64 st, I64 bu, I64 ti, I64 z, .m 200029 79])) (Int.add_zero _).symm
          rintro ⟨j, l1⟩ ⟨q1, q2, q3⟩
          have q1 : (j : Int) ≤ ti := q1
          have q2 : Rest ((nw : Nat) : Int) ti j l1 := q2
          have q3 : l1.length ≤ l.length := q3
          have hl3 := p3.len
          conv => whnf
          refine Ask.i (fun d2 => ?_) (fun d2 => ?_)
          · have d2 := of_decide_eq_true d2
            conv => whnf
            refine ⟨q2.keys, ?_⟩
            conv => whnf
            intro l' hl'
            have hl' : (l1.filter fun kr => !oldB (w64 ((nw : Int) + (j : Nat) + 1)) ti kr.2) = l' := hl'
            have q4 := q2.next ⟨by omega, by omega⟩ (by omega)
            rw [hl'] at q4
            have q5 : l'.length ≤ l1.length := by rw [← hl']; exact List.length_filter_le ..
            conv => whnf
            refine ⟨(j + 1, l'), ⟨by show ((j + 1 : Nat) : Int) ≤ ti; omega, q4, by show l'.length ≤ l.length; omega⟩, by show ti.toNat - (j + 1) < ti.toNat - j; omega, ⟨rfl, rfl, congrArg (fun z : Int => some (SV.u (.c (I64 z)))) ?_, rfl, congrArg (fun z : Int => some (SV.u (.c (I64 z)))) ?_, trivial⟩, ⟨congrArg (fun z : Int => some (Blk.cells 81 [I64 st, I64 bu, I64 ti, I64 z, .m 200029 79])) ?_, rfl, trivial⟩⟩
            · show w64 (((l.length : Int) - (l1.length : Int)) + w64 (((l1.length : Nat) : Int) - ((l'.length : Nat) : Int))) = (l.length : Int) - (l'.length : Int)
              rw [w64_eq (n := ((l1.length : Nat) : Int) - ((l'.length : Nat) : Int)) (by omega), w64_eq (by omega)]
              omega
            · show w64 (((j : Nat) : Int) + 1) = ((j + 1 : Nat) : Int)
              rw [w64_eq (by omega)]; omega
            · show w64 ((nw : Int) + (j : Nat) + 1) = (nw : Int) + ((j + 1 : Nat) : Int)
              rw [w64_eq (by omega)]; omega
          · have d2 := of_decide_eq_false d2
            obtain rfl := q2.done (by omega) (by omega)
            conv => whnf
            refine Ask.i (fun d3 => ?_) (fun d3 => ?_)
            · conv => whnf
              exact hk
            · have d3 : (((l.length : Int) - 0) == ((l.length : Nat) : Int)) = false := d3
              rw [Int.sub_zero] at d3
              exact nf _ d3
  · exact hk.elim
  end Sx
/-! ConvBounds, at any input. -/
namespace Sx
open Go Go.Proofs Go.RowKit
set_option linter.unusedVariables false
set_option maxRecDepth 30000
def goodO (t : TypeId) : Bool := [22, 48, 3, 9, 4, 46, 35, 40, 44, 30, 31, 32, 33, 37, 38, 21, 42, 165, 160, 163, 161].contains t
theorem goodO_ok : ∀ t, goodO t = true → goodB (B []).tt goodO t = true := by
  intro t ht
  have h : [22, 48, 3, 9, 4, 46, 35, 40, 44, 30, 31, 32, 33, 37, 38, 21, 42, 165, 160, 163, 161].all (fun t => goodB (B []).tt goodO t) = true := by kernel_rfl
  exact List.all_eq_true.1 h t (by simpa [goodO] using ht)
theorem typ_int {k : IntKind} {d : D} (h : Typ TB (.int k) d) : k.min ≤ d.toInt ∧ d.toInt ≤ k.max := by
  cases h with
  | int h => exact h
theorem typ_u64 {d : D} (h : Typ TB (.int .u64) d) : 0 ≤ d.toInt ∧ d.toInt < 18446744073709551616 := by
  have ku : IntKind.u64.min = 0 ∧ IntKind.u64.max = 18446744073709551615 := by decide
  have := typ_int h
  rw [ku.1, ku.2] at this
  omega
theorem typ_i32 {d : D} (h : Typ TB (.int .i32) d) : -2147483648 ≤ d.toInt ∧ d.toInt < 2147483648 := by
  have ku : IntKind.i32.min = -2147483648 ∧ IntKind.i32.max = 2147483647 := by decide
  have := typ_int h
  rw [ku.1, ku.2] at this
  omega
theorem typ_ints {d : D} (h : Typ TB (.sl 38) d) : d = .ints d.toInts ∧ d.toInts.length ≤ 9223372036854775807 ∧ R64 d.toInts := by
  have ht : TB 38 = some (.ints .u64) := by kernel_rfl
  cases h with
  | ints h hl hr =>
    rw [ht] at h
    obtain rfl := El.ints.inj (Option.some.inj h)
    refine ⟨rfl, hl, fun x hx => ?_⟩
    have ku : IntKind.u64.min = 0 ∧ IntKind.u64.max = 18446744073709551615 := by decide
    have := hr x hx
    rw [ku.1, ku.2] at this
    omega
  | rows h => rw [ht] at h; cases h
def cts48 : List Ct := [.int .i64, .str, .bool, .int .i64, .sl 30, .int .u64, .int .u64, .int .i64, .int .u64, .sl 32, .int .u32, .str,
  .sl 30, .int .u64, .int .u64, .int .u64, .bool, .int .u64, .bool, .int .u64, .bool, .int .u64, .sl 38, .sl 38, .sl 32, .int .u32, .str,
  .sl 30, .int .u64, .int .u64, .int .u64, .bool, .int .u64, .bool, .int .u64, .bool, .int .u64, .int .i32, .int .u64, .bool, .int .i32, .sl 38, .str, .bool, .int .i32, .sl 38, .str, .sl 32, .int .u32, .int .u64, .str]
theorem cts48_ok : TB 22 = some (.rows cts48) := by kernel_rfl
theorem op_typ {r : List D} (hc : ∀ (j : Nat) ct, cts48[j]? = some ct → Typ TB ct (cellD r j)) : OpTyp r where
  n := ⟨hc 4 _ rfl, hc 9 _ rfl, typ_u64 (hc 8 _ rfl)⟩
  h := ⟨hc 12 _ rfl, hc 24 _ rfl, (typ_ints (hc 22 _ rfl)).2.1, (typ_ints (hc 23 _ rfl)).2.1, (typ_ints (hc 22 _ rfl)).2.2, typ_u64 (hc 15 _ rfl)⟩
  e := ⟨hc 27 _ rfl, hc 47 _ rfl, (typ_ints (hc 41 _ rfl)).2.1, (typ_ints (hc 45 _ rfl)).2.1, typ_i32 (hc 37 _ rfl), typ_i32 (hc 40 _ rfl), typ_i32 (hc 44 _ rfl), (typ_ints (hc 41 _ rfl)).2.2, (typ_ints (hc 45 _ rfl)).2.2⟩
  i22 := (typ_ints (hc 22 _ rfl)).1
  i23 := (typ_ints (hc 23 _ rfl)).1
  i41 := (typ_ints (hc 41 _ rfl)).1
  i45 := (typ_ints (hc 45 _ rfl)).1
  ct := typ_u64 (hc 30 _ rfl)
  ze := typ_u64 (hc 38 _ rfl)
theorem RowDp.mono {k m : Nat} {r : List D} (h : RowDp k r) (hm : k ≤ m) : RowDp m r :=
  ⟨h.na.mono (by omega), h.nx.mono (by omega), h.ha.mono (by omega), h.hx.mono (by omega), h.ea.mono (by omega), h.ex.mono (by omega)⟩
theorem rows_dp : ∀ R : List (List D), (∀ r ∈ R, OpSmall r) → ∃ k, ∀ r ∈ R, RowDp k r
  | [], _ => ⟨0, fun r hr => by cases hr⟩
  | r :: R, h => by
    obtain ⟨k, hk⟩ := rows_dp R fun r hr => h r (List.mem_cons_of_mem _ hr)
    obtain ⟨⟨n1, n2⟩, ⟨h1, h2, _, _⟩, ⟨e1, e2, _, _⟩⟩ := h r List.mem_cons_self
    obtain ⟨a, ha⟩ := n1.dp
    obtain ⟨b, hb⟩ := n2.dp
    obtain ⟨c, hc⟩ := h1.dp
    obtain ⟨d, hd⟩ := h2.dp
    obtain ⟨e, he⟩ := e1.dp
    obtain ⟨f, hf⟩ := e2.dp
    refine ⟨k + a + b + c + d + e + f, fun r' hr' => ?_⟩
    rcases List.mem_cons.1 hr' with rfl | hr'
    · exact ⟨ha.mono (by omega), hb.mono (by omega), hc.mono (by omega), hd.mono (by omega), he.mono (by omega), hf.mono (by omega)⟩
    · exact (hk r' hr').mono (by omega)
theorem open_ops {H : Type} {enc : TypeId × Value → H} {w : World} {base : Nat} {spare : Nat → Bool} {held : Bool} {fuel : Nat} {cs : List Value} {x : DataW H × List MemPlace}
    (h : DataW.trod enc Tryz.prog w base spare held fuel 22 cs = some x) : ∃ v l, cs = [v] ∧ Rd TB w (fun _ => False) (.sl 22) v (.rows l) ∧ l.length ≤ 9223372036854775807 ∧ ∀ r ∈ l, OpTyp r := by
  obtain ⟨l, rfl, hl⟩ := opened (S := B []) (BT []) goodO_ok fuel 22 _ cs x rfl rfl h
  have hl : All2 (OpC TB w) [.sl 22] l := hl
  match l, hl with
  | [(v, d)], ⟨⟨hr, hT⟩, _⟩ =>
    obtain ⟨l, rfl, hlen, hrow⟩ := hT.sl (c := cts48) cts48_ok
    exact ⟨v, l, rfl, hr, hlen, fun r hr => op_typ (hrow r hr).2⟩
theorem convBounds_walk {H : Type} {enc : TypeId × Value → H} {W : World} {base : Nat} {spare : Nat → Bool} {held : Bool} {n0 : Nat} {v0 : Value} {x0 : DataW H × List MemPlace}
    (a0 : Int) (_ : (Lit.int .i64 a0).wf = true) (a1 : Int) (_ : (Lit.int .i64 a1).wf = true) (a2 : Int) (_ : (Lit.int .i64 a2).wf = true)
    (h0 : DataW.trod enc Tryz.prog W base spare held n0 22 [v0] = some x0) (hg : YtcjdbimojffggaaGreatDoor.Cd.Lays W) :
    Calls Tryz.prog 3 #[.int .i64 a0, .int .i64 a1, .int .i64 a2, v0] W fun e W' => e = .returned (.bool true) ∧ Below W.heap.size W W' := by
  obtain ⟨v, l, hv, hr, hlen, hT⟩ := open_ops h0
  obtain rfl := (List.cons.inj hv).1
  obtain ⟨k, hk⟩ : ∃ k, FewOk l → ∀ r ∈ l, RowDp k r := by
    by_cases hF : FewOk l
    · obtain ⟨k, hk⟩ := rows_dp l hF.small
      exact ⟨k, fun _ => hk⟩
    · exact ⟨0, fun h => absurd h hF⟩
  have := (bounds_ok (k := k)).2 (fun s => s = .u (.c (Bo true))) [.c (I64 a0), .c (I64 a1), .c (I64 a2), .c (.d 22 (.rows l))] (fun _ => False) W [.int .i64 a0, .int .i64 a1, .int .i64 a2, v0]
    ⟨⟨hlen, hT, hk⟩, rfl⟩ (GOk1 hg) (fun b h => h.elim) ⟨⟨rfl, rfl⟩, ⟨rfl, rfl⟩, ⟨rfl, rfl⟩, hr, trivial⟩
  refine this.mono fun e' W' ⟨r, v, h1, h2, h3, h4⟩ => ?_
  subst h2
  obtain ⟨rfl, _⟩ := h3
  exact ⟨h1, h4.below⟩
end Sx
