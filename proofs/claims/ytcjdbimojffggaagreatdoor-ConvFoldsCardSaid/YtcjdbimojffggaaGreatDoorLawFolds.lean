/- The law ConvFolds answers true at any input. Conditions: the input reads as data of the row's types, and errors.errorType is laid as the program's text lays it. -/
import Derived.Test.YtcjdbimojffggaaGreatDoorCon3
import Derived.Test.YtcjdbimojffggaaGreatDoorDbl2
import Derived.Test.YtcjdbimojffggaaGreatDoorRooms
import Derived.Test.YtcjdbimojffggaaGreatDoorPure
import Derived.Test.YtcjdbimojffggaaGreatDoorOpening
set_option linter.unusedVariables false
set_option linter.unusedSimpArgs false
/-! Numbers of either kind added, by the program and by the reference. -/
namespace Sx
open Go Go.Proofs
open Go.Proofs.SxPu (addV)
set_option linter.unusedVariables false
set_option maxRecDepth 30000
variable {G : Glob}
def addG (a b : NumD) : Option NumD := bif kindsB a.kind b.kind then (bif b.kind == 1 then some { b with start := a.start, n := addV a.n b.n } else addI a b) else none
def PreG (a b : NumD) : Prop := UU a.n ∧ UU b.n
theorem addG_same (m n q : NumD) (h : addG m n = some q) : q.attrs = n.attrs ∧ q.ex = n.ex := by
  unfold addG at h
  cases hk : kindsB m.kind n.kind with
  | false => rw [hk] at h; cases h
  | true =>
    rw [hk] at h
    cases h1 : n.kind == 1 with
    | true => rw [h1] at h; obtain rfl := Option.some.inj h; exact ⟨rfl, rfl⟩
    | false => rw [h1] at h; exact addI_same m n q h
theorem numG_ok {k : Nat} : Ok G 66 (numP PreG addG k) := by
  have hS : AllSound (B [(105, .pure (normG (B []) [35, 35] kindsS)), (62, .pure (normG (B []) [35] (twNS k))), (106, .pure (normG (B []) [31, 31] addT))]) G := .cons _ kinds_ok (.cons _ twNum_ok (.cons _ add_ex noneS))
  refine okP hS Tryz.func66 rfl (by decide) fun K us hk => ?_
  unfold numP at hk
  split at hk
  · split at hk
    · rename_i la lb _ _ a b ha hb
      rw [asNum_eq ha, asNum_eq hb]
      refine ⟨by show 2 ≤ _; decide, ?_⟩
      obtain ⟨⟨hP, hB⟩, hk⟩ := hk
      have hk := hk _ rfl
      unfold addG at hk
      conv => whnf
      refine Ask.i (fun c1 => ?_) (fun c1 => ?_)
      · have c1 : (!(kindsB a.kind b.kind)) = true := c1
        rw [show kindsB a.kind b.kind = false by simpa using c1] at hk
        conv => whnf
        exact hk 13 trivial
      · have c1 : (!(kindsB a.kind b.kind)) = false := c1
        rw [show kindsB a.kind b.kind = true by simpa using c1] at hk
        conv => whnf
        refine ⟨hB, ?_⟩
        conv => whnf
        refine Ask.i (fun c2 => ?_) (fun c2 => ?_)
        · have c2 : (b.kind == 1) = true := c2
          rw [c2] at hk
          conv => whnf
          refine ⟨hP, ?_⟩
          conv => whnf
          exact hk
        · have c2 : (b.kind == 1) = false := c2
          rw [c2] at hk
          conv => whnf
          refine ⟨mixed, [], [], [], by kernel_rfl, ?_⟩
          conv => whnf
          refine Ask.i (fun c3 => ?_) (fun c3 => ?_)
          · have c3 : sumBad a.n b.n = true := c3
            unfold addI at hk
            simp only [c3] at hk
            conv => whnf
            exact hk 9 trivial
          · have c3 : sumBad a.n b.n = false := c3
            unfold addI at hk
            simp only [c3] at hk
            conv => whnf
            exact hk
    · exact hk.elim
  · exact hk.elim
def plusB (a b : Int) : Bool := (decide (a < 0) != decide (b < 0)) || (decide (w64 (a + b) < 0) == decide (a < 0))
theorem plusB_of (x y : Int) : plusB (w64 x) (w64 y) = !(sumBad x y) := by
  unfold plusB sumBad
  have hx : -9223372036854775808 ≤ w64 x ∧ w64 x < 9223372036854775808 := w64_r x
  have hy : -9223372036854775808 ≤ w64 y ∧ w64 y < 9223372036854775808 := w64_r y
  generalize w64 x = a at *
  generalize w64 y = b at *
  have e : w64 (a + b) = a + b ∨ (a + b ≥ 9223372036854775808 ∧ w64 (a + b) = a + b - 18446744073709551616) ∨ (a + b < -9223372036854775808 ∧ w64 (a + b) = a + b + 18446744073709551616) := by
    show IntKind.i64.wrap (a + b) = _ ∨ (_ ∧ IntKind.i64.wrap (a + b) = _) ∨ (_ ∧ IntKind.i64.wrap (a + b) = _)
    rw [IntKind.wrap_i64]; omega
  rw [Bool.eq_iff_iff]
  rcases e with e | ⟨h, e⟩ | ⟨h, e⟩ <;> rw [e]
  all_goals by_cases c1 : a < 0 <;> by_cases c2 : b < 0 <;> by_cases c3 : b > 0 <;> simp [c1, c2, c3] <;> omega
def rplusT : List U → Out SV
  | [.c (.v (.int .i64 a)), .c (.v (.int .i64 b))] => wp1 (plusB a b) fun c => .ret (.t [.c (I64 (w64 (a + b))), .c (Bo c)])
  | _ => .fail
theorem rplus_ex : Ok G 60 rplusT := by
  refine okP noneS Tryz.func60 rfl (by decide) fun K us hk => ?_
  unfold rplusT at hk
  split at hk
  · rename_i a b
    refine ⟨by show 2 ≤ _; decide, ?_⟩
    have hk := hk _ rfl
    conv => whnf
    refine Ask.i (fun c1 => ?_) (fun c1 => ?_)
    · have c1 : (decide (a < 0) != decide (b < 0)) = true := c1
      rw [show plusB a b = true by rw [plusB, c1]; rfl] at hk
      conv => whnf
      exact hk
    · have c1 : (decide (a < 0) != decide (b < 0)) = false := c1
      rw [show plusB a b = (decide (w64 (a + b) < 0) == decide (a < 0)) by rw [plusB, c1]; rfl] at hk
      conv => whnf
      exact hk
  · exact hk.elim
def rnumT : List U → Out SV
  | [.a la, .a lb] => match asNum la, asNum lb with
    | some a, some b => .need (PreG a b) (.all (Option NumD) (fun o => addG a b = o) ⟨_, rfl⟩ fun o => match o with
      | some m => .ret (.t [.a m.cells, .c (I64 0)])
      | none => .all Bool (fun _ => True) ⟨true, trivial⟩ fun c => bif c then .ret (.t [.a noNum.cells, .c (I64 9)]) else .ret (.t [.a noNum.cells, .c (I64 13)]))
    | _, _ => .fail
  | _ => .fail
theorem rnum_ex : Ok G 33 rnumT := by
  have hS : AllSound (B [(59, .pure (normG (B []) [31, 31] addT)), (60, .pure (normG (B []) [2, 2] rplusT))]) G := .cons _ radd_ex (.cons _ rplus_ex noneS)
  refine okP hS Tryz.func33 rfl (by decide) fun K us hk => ?_
  unfold rnumT at hk
  split at hk
  · split at hk
    · rename_i la lb _ _ a b ha hb
      rw [asNum_eq ha, asNum_eq hb]
      refine ⟨by show 2 ≤ _; decide, ?_⟩
      obtain ⟨hP, hk⟩ := hk
      have hk := hk _ rfl
      unfold addG at hk
      conv => whnf
      refine Ask.i (fun c1 => ?_) (fun c1 => ?_)
      · have c1 : (!(a.kind == b.kind)) = true := c1
        rw [show kindsB a.kind b.kind = false by have : a.kind ≠ b.kind := by simpa using c1
                                                 simp [kindsB, this]] at hk
        conv => whnf
        exact hk false trivial
      have c1 : (!(a.kind == b.kind)) = false := c1
      have e1 : a.kind = b.kind := by simpa using c1
      conv => whnf
      refine Ask.i (fun c2 => ?_) (fun c2 => ?_)
      · have c2 : decide (a.kind < 1) = true := c2
        have c2 := of_decide_eq_true c2
        rw [show kindsB a.kind b.kind = false by simp only [kindsB, Bool.and_eq_false_iff, Bool.or_eq_false_iff, decide_eq_false_iff_not]; right; omega] at hk
        conv => whnf
        exact hk false trivial
      have c2 : decide (a.kind < 1) = false := c2
      have c2 := of_decide_eq_false c2
      conv => whnf
      refine Ask.i (fun c3 => ?_) (fun c3 => ?_)
      · have c3 : decide (a.kind > 2) = true := c3
        have c3 := of_decide_eq_true c3
        rw [show kindsB a.kind b.kind = false by simp only [kindsB, Bool.and_eq_false_iff, Bool.or_eq_false_iff, decide_eq_false_iff_not]; right; omega] at hk
        conv => whnf
        exact hk false trivial
      have c3 : decide (a.kind > 2) = false := c3
      have c3 := of_decide_eq_false c3
      rw [show kindsB a.kind b.kind = true by simp only [kindsB, Bool.and_eq_true, Bool.or_eq_true, decide_eq_true_eq]; omega] at hk
      conv => whnf
      refine ⟨hP, ?_⟩
      conv => whnf
      refine Ask.i (fun c4 => ?_) (fun c4 => ?_)
      · have c4 : (a.kind == 2) = true := c4
        have c4 : a.kind = 2 := by simpa using c4
        rw [show (b.kind == 1) = false by rw [← e1, c4]; rfl] at hk
        conv => whnf
        intro c hc
        have hc : plusB (w64 a.n) (w64 b.n) = c := hc
        rw [plusB_of] at hc
        unfold addI at hk
        cases c with
        | false =>
          rw [show sumBad a.n b.n = true by simpa using hc] at hk
          conv => whnf
          exact hk true trivial
        | true =>
          rw [show sumBad a.n b.n = false by simpa using hc] at hk
          conv => whnf
          exact hk
      · have c4 : (a.kind == 2) = false := c4
        have c4 : a.kind ≠ 2 := by simpa using c4
        rw [show (b.kind == 1) = true by rw [← e1]; simp; omega] at hk
        conv => whnf
        exact hk
    · exact hk.elim
  · exact hk.elim
end Sx
/-! The left fold. -/
namespace Sx
open Go Go.Proofs
open Go.Proofs.SxPu (addV_U)
set_option linter.unusedVariables false
set_option maxRecDepth 30000
def keyK : ByteArray := ⟨#[107]⟩
def asN (r : List D) : NumD := ⟨cellD r 0, (cellD r 1).toInt, (cellD r 2).toInt, (cellD r 3).toInt, (cellD r 4).toInt, cellD r 5, (cellD r 6).toInt, (cellD r 7).toStr⟩
def tabOf : Option NumD → List (ByteArray × List D)
  | none => []
  | some m => [(keyK, rowS m 0)]
def kdO : Option NumD → Int | none => 0 | some m => m.kind
def sumO : Option NumD → Int | none => 0 | some m => m.n
def startO : Option NumD → Int | none => 0 | some m => m.start
def endO : Option NumD → Int | none => 0 | some m => m.time
theorem nt {α : Type} [BEq α] [ReflBEq α] {p : Prop} (x : α) (c : (x != x) = true) : p := by simp [bne] at c
theorem nf {α : Type} [BEq α] [ReflBEq α] {p : Prop} (x : α) (c : (x == x) = false) : p := by simp at c
theorem addG_zero {a b : NumD} (h : a.kind = 0) : addG a b = none := by
  unfold addG kindsB
  rw [h]
  simp
theorem addG_facts {m n q : NumD} (h : addG m n = some q) (hm : UU m.n) (hn : UU n.n) : q.start = m.start ∧ q.time = n.time ∧ q.kind = n.kind ∧ UU q.n := by
  unfold addG at h
  cases hk : kindsB m.kind n.kind with
  | false => rw [hk] at h; cases h
  | true =>
    rw [hk] at h
    cases h1 : n.kind == 1 with
    | true => rw [h1] at h; obtain rfl := Option.some.inj h; exact ⟨rfl, rfl, rfl, addV_U hm hn⟩
    | false =>
      rw [h1] at h
      have h : addI m n = some q := h
      unfold addI at h
      cases hb : sumBad m.n n.n with
      | true => rw [hb] at h; cases h
      | false => rw [hb] at h; obtain rfl := Option.some.inj h; exact ⟨rfl, rfl, rfl, x64_r _⟩
/-- what the list is taken for: typed; what is small in it is no deeper than k -/
def NumsOk (k : Nat) (l : List (List D)) : Prop := ∀ r ∈ l, r.length = 8 ∧ (asN r).Typ ∧ ((asN r).Small → NGood k (asN r))
def foldsS (k : Nat) : List U → Out SV
  | [.c (.d 74 (.rows l))] => .need (NumsOk k l) (one (Bo true))
  | _ => .fail
theorem folds_ok {k : Nat} (hk1 : 1 ≤ k) : Ok G1 5 (foldsS k) := by
  have hS : AllSound (B [(6, .pure (normG (B []) [] firstS)), (7, .full (normF (B []) [3, 3, 3] newS)), (11, .full (normF (B []) [24, 9, 46] (upS PreG addG k))), (32, .pure (normG (B []) [35, 3] rnS)), (33, .pure (normG (B []) [35, 35] rnumT))]) G1 :=
    .cons _ first_ok (.consF _ new_ok (.consF _ (up_ok numG_ok addG_same) (.cons _ roomNum_ok (.cons _ rnum_ex noneS))))
  refine okP hS Tryz.func5 rfl (by decide) fun K us hk => ?_
  unfold foldsS at hk
  split at hk
  · rename_i l
    obtain ⟨hl, hk⟩ := hk
    refine ⟨by show 1 ≤ _; decide, ?_⟩
    conv => whnf
    refine Ask.i (fun c0 => ?_) (fun c0 => ?_)
    · conv => whnf
      exact hk
    have c0 : decide ((l.length : Int) > 60) = false := c0
    have hlen2 : l.length ≤ 60 := by have := of_decide_eq_false c0; omega
    conv => whnf
    intro c hc
    obtain rfl : false = c := hc
    conv => whnf
    refine ⟨[], _, _, rfl, Nat × Option NumD, (fun x => ([(0, .u (.c (.d 74 (.rows l)))), (3, .u (.c (.p 100023 0))), (5, .u (.c (U64 (sumO x.2)))), (6, .u (.c (U64 (startO x.2)))), (7, .u (.c (Bo x.2.isSome))), (8, .u (.c (I64 (kdO x.2)))), (9, .u (.c (U64 (endO x.2)))), (10, .u (.c (I64 (x.1 : Nat))))],
      [(100023, .cells 81 [I64 1, I64 1, I64 1000, I64 0, .m 200023 79]), (200023, .map 79 (tabOf x.2))])),
      (fun x => x.1 ≤ l.length ∧ ∀ m, x.2 = some m → NGood k m ∧ UU m.n), (fun x => l.length - x.1), fun x _ => rfl, ⟨(0, none), ⟨Nat.zero_le _, fun m h => by cases h⟩, ⟨rfl, rfl, rfl, rfl, rfl, rfl, rfl, rfl, trivial⟩, ⟨rfl, rfl, trivial⟩⟩, ?_⟩
    rintro ⟨i, o⟩ ⟨hi0, ho0⟩
    conv => whnf
    refine Ask.i (fun c1 => ?_) (fun c1 => ?_)
    · have c1 : decide ((i : Int) < ((l.length : Nat) : Int)) = true := c1
      have hi : i < l.length := by have := of_decide_eq_true c1; omega
      obtain ⟨hr8, hT, hG⟩ := hl _ (getD_mem (a := []) hi)
      conv => whnf
      refine ⟨⟨by omega, of_decide_eq_true c1⟩, ?_⟩
      conv => whnf
      refine ⟨⟨hT, by decide, by decide⟩, ?_⟩
      conv => whnf
      rintro z ⟨z1, z2⟩
      conv => whnf
      refine Ask.i (fun c2 => ?_) (fun c2 => ?_)
      · conv => whnf
        exact hk
      have c2 : decide (z < 0) = false := c2
      have hg : NGood k (asN (l.getD i [])) := hG (z2 (by have := of_decide_eq_false c2; omega)).2
      have hu : UU (asN (l.getD i [])).n := hT.rn
      cases o with
      | none =>
        conv => whnf
        refine ⟨⟨⟨rfl, rfl, hg⟩, fun r h => by cases h⟩, ?_⟩
        conv => whnf
        intro o ho
        obtain rfl : none = o := ho
        conv => whnf
        intro c hc
        obtain rfl : false = c := hc
        conv => whnf
        refine ⟨⟨⟨Int.le_refl 0, show (0 : Int) < 18446744073709551616 by decide⟩, hu⟩, ?_⟩
        conv => whnf
        intro o3 ho3
        obtain rfl : none = o3 := (addG_zero rfl).symm.trans ho3
        conv => whnf
        intro e _
        cases e
        all_goals
          conv => whnf
          refine ⟨mixed, [], [(1, []), (3, [])], [], by kernel_rfl, ?_⟩
          conv => whnf
          refine ⟨mixed, [], [(1, []), (3, [])], [], by kernel_rfl, ?_⟩
          conv => whnf
          refine Ask.i (fun c => nt _ c) (fun _ => ?_)
          conv => whnf
          refine Ask.i (fun c => nt _ c) (fun _ => ?_)
          conv => whnf
          refine Ask.i (fun c => nt _ c) (fun _ => ?_)
          conv => whnf
          refine Ask.i (fun c => nt _ c) (fun _ => ?_)
          conv => whnf
          refine ⟨(i + 1, some (asN (l.getD i []))), ⟨hi, fun m h => by obtain rfl := Option.some.inj h; exact ⟨hg, hu⟩⟩, by show l.length - (i + 1) < l.length - i; omega, ⟨rfl, rfl, rfl, rfl, rfl, rfl, rfl, congrArg (fun z : Int => some (SV.u (.c (I64 z)))) (w64_eq (n := (i : Int) + 1) (by omega)), trivial⟩, ⟨rfl, rfl, trivial⟩⟩
      | some m =>
        obtain ⟨hgm, hum⟩ := ho0 m rfl
        conv => whnf
        refine ⟨⟨⟨rfl, rfl, hg⟩, fun r h => ⟨_, _, (Option.some.inj h).symm, hgm⟩⟩, ?_⟩
        conv => whnf
        intro o ho
        obtain rfl := ho
        conv => whnf
        intro c hc
        have hc : (decide ((asN (l.getD i [])).start < m.time) || decide ((asN (l.getD i [])).time < m.time)) = c := hc
        cases c with
        | true =>
          conv => whnf
          refine Ask.i (fun c3 => ?_) (fun c3 => ?_)
          · conv => whnf
            refine ⟨(i + 1, some m), ⟨hi, ho0⟩, by show l.length - (i + 1) < l.length - i; omega, ⟨rfl, rfl, rfl, rfl, rfl, rfl, rfl, congrArg (fun z : Int => some (SV.u (.c (I64 z)))) (w64_eq (n := (i : Int) + 1) (by omega)), trivial⟩, ⟨rfl, rfl, trivial⟩⟩
          have c3 : decide ((asN (l.getD i [])).start < m.time) = false := c3
          conv => whnf
          refine Ask.i (fun c4 => ?_) (fun c4 => ?_)
          · conv => whnf
            refine ⟨(i + 1, some m), ⟨hi, ho0⟩, by show l.length - (i + 1) < l.length - i; omega, ⟨rfl, rfl, rfl, rfl, rfl, rfl, rfl, congrArg (fun z : Int => some (SV.u (.c (I64 z)))) (w64_eq (n := (i : Int) + 1) (by omega)), trivial⟩, ⟨rfl, rfl, trivial⟩⟩
          · have c4 : decide ((asN (l.getD i [])).time < m.time) = false := c4
            rw [c3, c4] at hc
            cases hc
        | false =>
          conv => whnf
          refine ⟨⟨hum, hu⟩, ?_⟩
          conv => whnf
          intro o2 ho2
          have ho2 : addG m (asN (l.getD i [])) = o2 := ho2
          cases o2 with
          | some q =>
            obtain ⟨f1, f2, f3, f4⟩ := addG_facts ho2 hum hu
            have hgq : NGood k q := by
              obtain ⟨e1, e2⟩ := addG_same _ _ _ ho2
              unfold NGood
              rw [e1, e2]
              exact hg
            conv => whnf
            refine Ask.i (fun c3 => ?_) (fun c3 => ?_)
            · have c3 : decide ((asN (l.getD i [])).start < m.time) = true := c3
              rw [c3] at hc
              cases hc
            conv => whnf
            refine Ask.i (fun c4 => ?_) (fun c4 => ?_)
            · have c4 : decide ((asN (l.getD i [])).time < m.time) = true := c4
              rw [c4, Bool.or_true] at hc
              cases hc
            conv => whnf
            refine ⟨⟨hum, hu⟩, ?_⟩
            conv => whnf
            intro o3 ho3
            have ho3 : addG m (asN (l.getD i [])) = o3 := ho3
            obtain rfl : some q = o3 := ho2.symm.trans ho3
            conv => whnf
            refine ⟨mixed, [], [(1, []), (3, [])], [], by kernel_rfl, ?_⟩
            conv => whnf
            refine Ask.i (fun c => nt _ c) (fun _ => ?_)
            conv => whnf
            refine Ask.i (fun c => ?_) (fun _ => ?_)
            · have c : (q.start != m.start) = true := c
              rw [f1] at c
              exact nt _ c
            conv => whnf
            refine Ask.i (fun c => ?_) (fun _ => ?_)
            · have c : (q.time != (asN (l.getD i [])).time) = true := c
              rw [f2] at c
              exact nt _ c
            conv => whnf
            refine Ask.i (fun c => ?_) (fun _ => ?_)
            · have c : (q.kind != (asN (l.getD i [])).kind) = true := c
              rw [f3] at c
              exact nt _ c
            conv => whnf
            refine ⟨(i + 1, some q), ⟨hi, fun m h => by obtain rfl := Option.some.inj h; exact ⟨hgq, f4⟩⟩, by show l.length - (i + 1) < l.length - i; omega, ⟨rfl, rfl, rfl, congrArg (fun z : Int => some (SV.u (.c (U64 z)))) f1.symm, rfl, congrArg (fun z : Int => some (SV.u (.c (I64 z)))) f3.symm, congrArg (fun z : Int => some (SV.u (.c (U64 z)))) f2.symm, congrArg (fun z : Int => some (SV.u (.c (I64 z)))) (w64_eq (n := (i : Int) + 1) (by omega)), trivial⟩, ⟨rfl, rfl, trivial⟩⟩
          | none =>
            conv => whnf
            refine Ask.i (fun c3 => ?_) (fun c3 => ?_)
            · have c3 : decide ((asN (l.getD i [])).start < m.time) = true := c3
              rw [c3] at hc
              cases hc
            conv => whnf
            refine Ask.i (fun c4 => ?_) (fun c4 => ?_)
            · have c4 : decide ((asN (l.getD i [])).time < m.time) = true := c4
              rw [c4, Bool.or_true] at hc
              cases hc
            conv => whnf
            refine ⟨⟨hum, hu⟩, ?_⟩
            conv => whnf
            intro o3 ho3
            have ho3 : addG m (asN (l.getD i [])) = o3 := ho3
            obtain rfl : none = o3 := ho2.symm.trans ho3
            conv => whnf
            intro e _
            cases e
            all_goals
              conv => whnf
              refine ⟨mixed, [], [(1, []), (3, [])], [], by kernel_rfl, ?_⟩
              conv => whnf
              refine ⟨mixed, [], [(1, []), (3, [])], [], by kernel_rfl, ?_⟩
              conv => whnf
              refine Ask.i (fun c => nt _ c) (fun _ => ?_)
              conv => whnf
              refine Ask.i (fun c => nt _ c) (fun _ => ?_)
              conv => whnf
              refine Ask.i (fun c => nt _ c) (fun _ => ?_)
              conv => whnf
              refine Ask.i (fun c => nt _ c) (fun _ => ?_)
              conv => whnf
              refine ⟨(i + 1, some (asN (l.getD i []))), ⟨hi, fun m h => by obtain rfl := Option.some.inj h; exact ⟨hg, hu⟩⟩, by show l.length - (i + 1) < l.length - i; omega, ⟨rfl, rfl, rfl, rfl, rfl, rfl, rfl, congrArg (fun z : Int => some (SV.u (.c (I64 z)))) (w64_eq (n := (i : Int) + 1) (by omega)), trivial⟩, ⟨rfl, rfl, trivial⟩⟩
    · conv => whnf
      exact hk
  · exact hk.elim
end Sx
/-! ConvFolds, at any input. -/
namespace Sx
open Go Go.Proofs Go.RowKit
set_option linter.unusedVariables false
set_option maxRecDepth 30000
def goodF (t : TypeId) : Bool := [74, 35, 30, 31, 3, 32, 33, 9, 165, 160, 4, 163, 161].contains t
theorem goodF_ok : ∀ t, goodF t = true → goodB (B []).tt goodF t = true := by
  intro t ht
  have h : [74, 35, 30, 31, 3, 32, 33, 9, 165, 160, 4, 163, 161].all (fun t => goodB (B []).tt goodF t) = true := by kernel_rfl
  exact List.all_eq_true.1 h t (by simpa [goodF] using ht)
theorem nums_deep : ∀ l : List (List D), (∀ r ∈ l, r.length = 8 ∧ (asN r).Typ) → ∃ k, 1 ≤ k ∧ NumsOk k l
  | [], _ => ⟨1, Nat.le_refl _, fun r hr => by cases hr⟩
  | r :: l, h => by
    obtain ⟨k, hk, hl⟩ := nums_deep l fun r hr => h r (List.mem_cons_of_mem _ hr)
    obtain ⟨h8, hT⟩ := h r List.mem_cons_self
    have more : ∀ m, k ≤ m → ((asN r).Small → NGood m (asN r)) → NumsOk m (r :: l) := by
      intro m hm hr r' hr'
      rcases List.mem_cons.1 hr' with rfl | hr'
      · exact ⟨h8, hT, hr⟩
      · obtain ⟨a, b, c⟩ := hl r' hr'
        refine ⟨a, b, fun hs => ?_⟩
        obtain ⟨g1, g2, g3, g4⟩ := c hs
        exact ⟨g1, g2.mono hm, g3, g4.mono hm⟩
    by_cases hs : (asN r).Small
    · obtain ⟨a, ha⟩ := hs.attrs.dp
      obtain ⟨b, hb⟩ := hs.ex.dp
      exact ⟨k + a + b, by omega, more _ (by omega) fun _ => ⟨hT.attrs, ha.mono (by omega), hT.ex, hb.mono (by omega)⟩⟩
    · exact ⟨k, hk, more _ (Nat.le_refl _) fun h => absurd h hs⟩
theorem open_nums {H : Type} {enc : TypeId × Value → H} {w : World} {base : Nat} {spare : Nat → Bool} {held : Bool} {fuel : Nat} {cs : List Value} {x : DataW H × List MemPlace}
    (h : DataW.trod enc Tryz.prog w base spare held fuel 74 cs = some x) : ∃ v l, cs = [v] ∧ Rd TB w (fun _ => False) (.sl 74) v (.rows l) ∧ ∀ r ∈ l, r.length = 8 ∧ (asN r).Typ := by
  obtain ⟨l, rfl, hl⟩ := opened (S := B []) (BT []) goodF_ok fuel 74 _ cs x rfl rfl h
  have hl : All2 (OpC TB w) [.sl 74] l := hl
  match l, hl with
  | [(v, d)], ⟨⟨hr, hT⟩, _⟩ =>
    obtain ⟨l, rfl, hlen, hrow⟩ := hT.sl (c := [.sl 30, .int .u64, .int .u64, .int .i64, .int .u64, .sl 32, .int .u32, .str]) (by kernel_rfl)
    refine ⟨v, l, rfl, hr, fun r hr => ?_⟩
    obtain ⟨h8, hc⟩ := hrow r hr
    refine ⟨h8, hc 0 _ rfl, hc 5 _ rfl, ?_⟩
    have h4 := hc 4 _ rfl
    show 0 ≤ (cellD r 4).toInt ∧ (cellD r 4).toInt < 18446744073709551616
    have ku : IntKind.u64.min = 0 ∧ IntKind.u64.max = 18446744073709551615 := by decide
    cases hd : cellD r 4 with
    | int n =>
      rw [hd] at h4
      cases h4 with
      | int hn =>
        rw [ku.1, ku.2] at hn
        exact ⟨hn.1, Int.lt_add_one_of_le hn.2⟩
    | _ => rw [hd] at h4; cases h4
theorem convFolds_walk {H : Type} {enc : TypeId × Value → H} {W : World} {base : Nat} {spare : Nat → Bool} {held : Bool} {n0 : Nat} {v0 : Value} {x0 : DataW H × List MemPlace}
    (h0 : DataW.trod enc Tryz.prog W base spare held n0 74 [v0] = some x0) (hg : YtcjdbimojffggaaGreatDoor.Cd.Lays W) :
    Calls Tryz.prog 5 #[v0] W fun e W' => e = .returned (.bool true) ∧ Below W.heap.size W W' := by
  obtain ⟨v, l, hv, hr, hl⟩ := open_nums h0
  obtain rfl := (List.cons.inj hv).1
  obtain ⟨k, hk, hn⟩ := nums_deep l hl
  have := (folds_ok hk).2 (fun s => s = .u (.c (Bo true))) [.c (.d 74 (.rows l))] (fun _ => False) W [v0]
    ⟨hn, rfl⟩ (GOk1 hg) (fun b h => h.elim) ⟨hr, trivial⟩
  refine this.mono fun e' W' ⟨r, v, h1, h2, h3, h4⟩ => ?_
  subst h2
  obtain ⟨rfl, _⟩ := h3
  exact ⟨h1, h4.below⟩
end Sx
