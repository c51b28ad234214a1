/- Part of the proof: a machine of states for walks, and contracts of functions over it. Conditions: those that each theorem names. -/
import Derived.Test.YtcjdbimojffggaaGreatDoorVe
set_option linter.unusedVariables false
set_option linter.unusedSimpArgs false
/-! Contracts: totals; two sides as one; two options. -/
namespace Sx
open Go Go.Proofs
set_option linter.unusedVariables false
set_option maxRecDepth 30000
variable {G : Glob}
def tot : Int → List Int → Int × Bool
  | n, [] => (n, true)
  | n, x :: l => bif decide (x64 (n + x) < n) then (0, false) else tot (x64 (n + x)) l
def totalS : List U → Out SV
  | [.c (.d 38 (.ints l))] => .need (l.length ≤ 68719476736) (.ret (.t [.c (U64 (tot 0 l).1), .c (Bo (tot 0 l).2)]))
  | _ => .fail
def bothS : List U → Out SV
  | [.a [.v (.bool h), .v (.int .u64 n)], .a [.v (.bool h'), .v (.int .u64 n')], .c (.v (.func (.func f) p q))] =>
    bif p.isEmpty && q.isEmpty then (match f with
      | 106 => .all Int (fun _ => True) ⟨0, trivial⟩ fun z => agg [Bo (h && h'), U64 z]
      | 110 => agg [Bo (h && h'), U64 (bif h && h' then minV n n' else 0)]
      | 111 => agg [Bo (h && h'), U64 (bif h && h' then maxV n n' else 0)]
      | 128 => .all Int (fun _ => True) ⟨0, trivial⟩ fun z => agg [Bo (h && h'), U64 z]
      | _ => .fail) else .fail
  | _ => .fail
theorem both_ok : Ok G 109 bothS := by
  have hS : AllSound (B [(106, .pure (normG (B []) [31, 31] addFS)), (110, .pure (normG (B []) [31, 31] minS)), (111, .pure (normG (B []) [31, 31] maxS)), (128, .pure (normG (B []) [31, 31] addFS))]) G := .cons _ addF_ok (.cons _ minF_ok (.cons _ maxF_ok (.cons _ subF_ok noneS)))
  refine okP hS Tryz.func109 rfl (by decide) fun K us hk => ?_
  unfold bothS at hk
  split at hk
  · rename_i h n h' n' f p q
    refine ⟨by show 3 ≤ _; decide, ?_⟩
    obtain ⟨hpq, hk⟩ := wp_cond_fail hk
    simp only [Bool.and_eq_true, Array.isEmpty_iff] at hpq
    obtain ⟨rfl, rfl⟩ := hpq
    conv => whnf
    refine Ask.i (fun c1 => ?_) (fun c1 => ?_)
    · have c1 : (!h) = true := c1
      obtain rfl : h = false := by simpa using c1
      conv => whnf
      split at hk
      · exact hk 0 trivial
      · exact hk
      · exact hk
      · exact hk 0 trivial
      · exact hk.elim
    · have c1 : (!h) = false := c1
      obtain rfl : h = true := by simpa using c1
      conv => whnf
      refine Ask.i (fun c2 => ?_) (fun c2 => ?_)
      · have c2 : (!h') = true := c2
        obtain rfl : h' = false := by simpa using c2
        conv => whnf
        split at hk
        · exact hk 0 trivial
        · exact hk
        · exact hk
        · exact hk 0 trivial
        · exact hk.elim
      · have c2 : (!h') = false := c2
        obtain rfl : h' = true := by simpa using c2
        split at hk
        · conv => whnf
          intro z hz
          conv => whnf
          exact hk z trivial
        · conv => whnf
          exact hk
        · conv => whnf
          exact hk
        · conv => whnf
          intro z hz
          conv => whnf
          exact hk z trivial
        · exact hk.elim
  · exact hk.elim
def addGo (o : Nat) : Nat → List Int → List Int → Bool → List Int × Bool
  | _, [], c, bad => (c, bad)
  | i, x :: l, c, bad => addGo o (i + 1) l (c.set (o + i) (x64 (c.getD (o + i) 0 + x))) (bad || decide (x64 (c.getD (o + i) 0 + x) < c.getD (o + i) 0))
theorem addGo_len (o : Nat) : ∀ (l : List Int) (i : Nat) (c : List Int) (bad : Bool), (addGo o i l c bad).1.length = c.length
  | [], _, _, _ => rfl
  | x :: l, i, c, bad => by rw [addGo, addGo_len o l]; simp
def lo2 (f g : Int) : Int := if g < f then g else f
def hi2 (a b : Int) : Int := if b > a then b else a
def addN (f : Int) (l : List Int) (g : Int) (m : List Int) : Int := hi2 (f + l.length) (g + m.length) - lo2 f g
def addL (s t : Int × List Int) (bad : Bool) : Int × List Int × Bool :=
  match s.2, t.2 with
  | [], _ => (t.1, t.2, bad)
  | _ :: _, [] => (s.1, s.2, bad)
  | _ :: _, _ :: _ =>
    (lo2 s.1 t.1, addGo (t.1 - lo2 s.1 t.1).toNat 0 t.2 (addGo (s.1 - lo2 s.1 t.1).toNat 0 s.2 (List.replicate (addN s.1 s.2 t.1 t.2).toNat 0) bad).1 (addGo (s.1 - lo2 s.1 t.1).toNat 0 s.2 (List.replicate (addN s.1 s.2 t.1 t.2).toNat 0) bad).2)
def addS : List U → List Blk → Out RF
  | [.c (.p 50000 0), .a [.v (.int .i64 f), .d 38 (.ints l)], .a [.v (.int .i64 g), .d 38 (.ints m)]], [.cells 181 [.v (.bool bad)]] =>
    .need (Near f l ∧ Near g m ∧ addN f l g m ≤ 68719476736)
      (.ret (.u (.a [I64 (addL (f, l) (g, m) bad).1, .d 38 (.ints (addL (f, l) (g, m) bad).2.1)]), [some (.cells 181 [Bo (addL (f, l) (g, m) bad).2.2])], []))
  | _, _ => .fail
theorem add_ok : OkF G 114 addS := by
  have hS : AllSound (B [(142, .pure (normG (B []) [185] endS)), (108, .full (normF (B []) [228, 31, 31] plusS))]) G := .cons _ end_ok (.consF _ plus_ok noneS)
  refine okF false hS Tryz.func114 rfl (by decide) fun K us lent hk => ?_
  unfold addS at hk
  split at hk
  · rename_i f l g m bad
    refine ⟨by show 3 ≤ _; decide, ?_⟩
    obtain ⟨⟨hF, hG, hN⟩, hk⟩ := hk
    obtain ⟨f1, f2, f3⟩ := hF
    obtain ⟨g1, g2, g3⟩ := hG
    conv => whnf
    cases l with
    | nil =>
      conv => whnf
      exact hk
    | cons a r =>
      cases m with
      | nil =>
        conv => whnf
        exact hk
      | cons b q =>
        have lo : lo2 f g ≤ f ∧ lo2 f g ≤ g ∧ -1099511627776 ≤ lo2 f g := by unfold lo2; split <;> omega
        have hi : f + ((a :: r).length : Nat) ≤ hi2 (f + ((a :: r).length : Nat)) (g + ((b :: q).length : Nat)) ∧ g + ((b :: q).length : Nat) ≤ hi2 (f + ((a :: r).length : Nat)) (g + ((b :: q).length : Nat)) ∧ hi2 (f + ((a :: r).length : Nat)) (g + ((b :: q).length : Nat)) ≤ 1168231104512 := by unfold hi2; split <;> omega
        have eN : w64 (hi2 (w64 (f + ((a :: r).length : Nat))) (w64 (g + ((b :: q).length : Nat))) - lo2 f g) = addN f (a :: r) g (b :: q) := by
          rw [w64_eq (n := f + ((a :: r).length : Nat)) (by omega), w64_eq (n := g + ((b :: q).length : Nat)) (by omega)]
          exact w64_eq (by omega)
        have hN0 : 0 ≤ addN f (a :: r) g (b :: q) := by unfold addN; omega
        simp only [addL] at hk
        generalize hfirst : lo2 f g = first at *
        generalize hNN : addN f (a :: r) g (b :: q) = N at *
        conv => whnf
        refine ⟨mixed, [(11, [8])], [(1, []), (2, []), (3, []), (4, []), (5, []), (8, [])], [], by kernel_rfl, ?_⟩
        conv => whnf
        refine ⟨?_, ?_⟩
        · have : 0 ≤ N ∧ N ≤ N ∧ N ≤ 1099511627776 := by omega
          rw [← eN, ← hfirst] at this
          exact this
        conv => whnf
        refine ⟨[], _, _, rfl, Nat × List Int × Bool × Int, (fun x => ([(0, .u (.c (.p 50000 0))), (6, .u (.c (.p 6 0))), (7, .u (.c (I64 x.2.2.2))), (8, .u (.c (.p 8 0))), (42, .u (.c (.d 232 (.rows [[.int f, .ints (a :: r)], [.int g, .ints (b :: q)]])))), (43, .u (.c (I64 2))), (44, .u (.c (I64 (x.1 : Nat))))],
            [(50000, .cells 181 [Bo x.2.2.1]), (6, .cells 185 [I64 0, .v (.slice none 0 0)]), (8, .cells 185 [I64 x.2.2.2, .r 38 38]), (38, .row 38 (.ints x.2.1))])),
          (fun x => x.2.2.2 = first ∧ x.2.1.length = N.toNat ∧ (x.1 = 0 ∧ x.2.1 = List.replicate N.toNat 0 ∧ x.2.2.1 = bad ∨ x.1 = 1 ∧ (x.2.1, x.2.2.1) = addGo (f - first).toNat 0 (a :: r) (List.replicate N.toNat 0) bad ∨
            x.1 = 2 ∧ (x.2.1, x.2.2.1) = addGo (g - first).toNat 0 (b :: q) (addGo (f - first).toNat 0 (a :: r) (List.replicate N.toNat 0) bad).1 (addGo (f - first).toNat 0 (a :: r) (List.replicate N.toNat 0) bad).2)),
          (fun x => 2 - x.1), fun x _ => rfl, ⟨(0, List.replicate (w64 (hi2 (w64 (f + ((a :: r).length : Nat))) (w64 (g + ((b :: q).length : Nat))) - lo2 f g)).toNat 0, bad, lo2 f g), ?_, ⟨rfl, rfl, rfl, rfl, rfl, rfl, rfl, trivial⟩, ⟨rfl, rfl, rfl, rfl, trivial⟩⟩, ?_⟩
        · refine ⟨hfirst, ?_, .inl ⟨rfl, ?_, rfl⟩⟩
          · show (List.replicate (w64 (hi2 (w64 (f + ((a :: r).length : Nat))) (w64 (g + ((b :: q).length : Nat))) - lo2 f g)).toNat (0 : Int)).length = N.toNat
            rw [hfirst, eN]; simp
          · show List.replicate (w64 (hi2 (w64 (f + ((a :: r).length : Nat))) (w64 (g + ((b :: q).length : Nat))) - lo2 f g)).toNat (0 : Int) = List.replicate N.toNat 0
            rw [hfirst, eN]
        rintro ⟨k, c0, bd0, first'⟩ ⟨p1, p2, p3⟩
        simp only at p1 p2 p3
        subst p1
        rcases p3 with ⟨rfl, p3, p4⟩ | ⟨rfl, p3⟩ | ⟨rfl, p3⟩
        · conv => whnf
          refine ⟨by show (0 : Int) ≤ 0 ∧ (0 : Int) < 2; decide, ?_⟩
          conv => whnf
          refine ⟨[], _, _, rfl, Nat × List Int × Bool, (fun y => ([(0, .u (.c (.p 50000 0))), (6, .u (.c (.p 6 0))), (7, .u (.c (I64 first'))), (8, .u (.c (.p 8 0))), (10, .u (.c (.p 10 0))), (42, .u (.c (.d 232 (.rows [[.int f, .ints (a :: r)], [.int g, .ints (b :: q)]])))), (43, .u (.c (I64 2))), (44, .u (.c (I64 0))), (49, .u (.c (.d 38 (.ints (a :: r))))), (50, .u (.c (I64 (((a :: r)).length : Nat)))), (51, .u (.c (I64 (y.1 : Nat))))],
              [(50000, .cells 181 [Bo y.2.2]), (6, .cells 185 [I64 0, .v (.slice none 0 0)]), (8, .cells 185 [I64 first', .r 38 38]), (10, .cells 185 [I64 f, .d 38 (.ints (a :: r))]), (38, .row 38 (.ints y.2.1))])),
            (fun y => y.1 ≤ ((a :: r)).length ∧ y.2.1.length = N.toNat ∧ addGo (f - first').toNat y.1 (((a :: r)).drop y.1) y.2.1 y.2.2 = addGo (f - first').toNat 0 (a :: r) c0 bd0),
            (fun y => ((a :: r)).length - y.1), fun x _ => rfl, ⟨(0, c0, bd0), ⟨Nat.zero_le _, p2, rfl⟩, ⟨rfl, rfl, rfl, rfl, rfl, rfl, rfl, rfl, rfl, rfl, rfl, trivial⟩, ⟨rfl, rfl, rfl, rfl, rfl, trivial⟩⟩, ?_⟩
          rintro ⟨i, c, bd⟩ ⟨q1, q2, q3⟩
          simp only at q1 q2 q3
          conv => whnf
          refine Ask.i (fun c1 => ?_) (fun c1 => ?_)
          · have c1 : (i : Int) < (((a :: r)).length : Nat) := of_decide_eq_true c1
            have hi' : i < ((a :: r)).length := by omega
            have hw : w64 (w64 (f + (i : Int)) - first') = f + i - first' := by rw [w64_eq (n := f + (i : Int)) (by omega), w64_eq (by omega)]
            have hin : 0 ≤ w64 (w64 (f + (i : Int)) - first') ∧ w64 (w64 (f + (i : Int)) - first') < (c.length : Int) := by
              rw [hw, q2]
              unfold addN at hNN
              omega
            conv => whnf
            refine ⟨⟨by omega, c1⟩, ?_⟩
            conv => whnf
            refine ⟨mixed, [(20, [50000]), (22, [38])], [(1, [50000]), (3, [50000]), (10, []), (12, []), (17, []), (18, []), (21, [50000])], [], by kernel_rfl, ?_⟩
            conv => whnf
            refine ⟨hin, ?_⟩
            conv => whnf
            refine ⟨hin, ?_⟩
            conv => whnf
            have hK : (w64 (w64 (f + (i : Int)) - first')).toNat = (f - first').toNat + i := by rw [hw]; omega
            have hstep : addGo (f - first').toNat i (((a :: r)).drop i) c bd = addGo (f - first').toNat (i + 1) (((a :: r)).drop (i + 1)) (c.set ((f - first').toNat + i) (x64 (c.getD ((f - first').toNat + i) 0 + ((a :: r)).getD i 0))) (bd || decide (x64 (c.getD ((f - first').toNat + i) 0 + ((a :: r)).getD i 0) < c.getD ((f - first').toNat + i) 0)) := by
              rw [List.drop_eq_getElem_cons hi', addGo]
              have : ((a :: r)).getD i 0 = ((a :: r))[i] := by rw [List.getD_eq_getElem?_getD, List.getElem?_eq_getElem hi']; rfl
              rw [this]
            rw [← hK] at hstep
            refine ⟨(i + 1, _, _), ⟨?_, ?_, hstep.symm.trans q3⟩, ?_, ⟨rfl, rfl, rfl, rfl, rfl, rfl, rfl, rfl, rfl, rfl, ?_, trivial⟩, ⟨rfl, rfl, rfl, rfl, rfl, trivial⟩⟩
            · exact hi'
            · simp only [List.length_set]; exact q2
            · simp only; omega
            · exact congrArg (fun z : Int => some (SV.u (.c (I64 z)))) (w64_eq (n := (i : Int) + 1) (by omega))
          · have c1 : ¬ (i : Int) < (((a :: r)).length : Nat) := of_decide_eq_false c1
            have hi' : i = ((a :: r)).length := by omega
            rw [hi', List.drop_length, addGo] at q3
            conv => whnf
            refine ⟨(0 + 1, c, bd, first'), ⟨rfl, q2, .inr (.inl ⟨rfl, by rw [← p3, ← p4]; exact q3⟩)⟩, by show 2 - (0 + 1) < 2 - 0; decide, ⟨rfl, rfl, rfl, rfl, rfl, rfl, rfl, trivial⟩, ⟨rfl, rfl, rfl, rfl, trivial⟩⟩
        · conv => whnf
          refine ⟨by show (0 : Int) ≤ 1 ∧ (1 : Int) < 2; decide, ?_⟩
          conv => whnf
          refine ⟨[], _, _, rfl, Nat × List Int × Bool, (fun y => ([(0, .u (.c (.p 50000 0))), (6, .u (.c (.p 6 0))), (7, .u (.c (I64 first'))), (8, .u (.c (.p 8 0))), (10, .u (.c (.p 10 0))), (42, .u (.c (.d 232 (.rows [[.int f, .ints (a :: r)], [.int g, .ints (b :: q)]])))), (43, .u (.c (I64 2))), (44, .u (.c (I64 1))), (49, .u (.c (.d 38 (.ints (b :: q))))), (50, .u (.c (I64 (((b :: q)).length : Nat)))), (51, .u (.c (I64 (y.1 : Nat))))],
              [(50000, .cells 181 [Bo y.2.2]), (6, .cells 185 [I64 0, .v (.slice none 0 0)]), (8, .cells 185 [I64 first', .r 38 38]), (10, .cells 185 [I64 g, .d 38 (.ints (b :: q))]), (38, .row 38 (.ints y.2.1))])),
            (fun y => y.1 ≤ ((b :: q)).length ∧ y.2.1.length = N.toNat ∧ addGo (g - first').toNat y.1 (((b :: q)).drop y.1) y.2.1 y.2.2 = addGo (g - first').toNat 0 (b :: q) c0 bd0),
            (fun y => ((b :: q)).length - y.1), fun x _ => rfl, ⟨(0, c0, bd0), ⟨Nat.zero_le _, p2, rfl⟩, ⟨rfl, rfl, rfl, rfl, rfl, rfl, rfl, rfl, rfl, rfl, rfl, trivial⟩, ⟨rfl, rfl, rfl, rfl, rfl, trivial⟩⟩, ?_⟩
          rintro ⟨i, c, bd⟩ ⟨q1, q2, q3⟩
          simp only at q1 q2 q3
          conv => whnf
          refine Ask.i (fun c1 => ?_) (fun c1 => ?_)
          · have c1 : (i : Int) < (((b :: q)).length : Nat) := of_decide_eq_true c1
            have hi' : i < ((b :: q)).length := by omega
            have hw : w64 (w64 (g + (i : Int)) - first') = g + i - first' := by rw [w64_eq (n := g + (i : Int)) (by omega), w64_eq (by omega)]
            have hin : 0 ≤ w64 (w64 (g + (i : Int)) - first') ∧ w64 (w64 (g + (i : Int)) - first') < (c.length : Int) := by
              rw [hw, q2]
              unfold addN at hNN
              omega
            conv => whnf
            refine ⟨⟨by omega, c1⟩, ?_⟩
            conv => whnf
            refine ⟨mixed, [(20, [50000]), (22, [38])], [(1, [50000]), (3, [50000]), (10, []), (12, []), (17, []), (18, []), (21, [50000])], [], by kernel_rfl, ?_⟩
            conv => whnf
            refine ⟨hin, ?_⟩
            conv => whnf
            refine ⟨hin, ?_⟩
            conv => whnf
            have hK : (w64 (w64 (g + (i : Int)) - first')).toNat = (g - first').toNat + i := by rw [hw]; omega
            have hstep : addGo (g - first').toNat i (((b :: q)).drop i) c bd = addGo (g - first').toNat (i + 1) (((b :: q)).drop (i + 1)) (c.set ((g - first').toNat + i) (x64 (c.getD ((g - first').toNat + i) 0 + ((b :: q)).getD i 0))) (bd || decide (x64 (c.getD ((g - first').toNat + i) 0 + ((b :: q)).getD i 0) < c.getD ((g - first').toNat + i) 0)) := by
              rw [List.drop_eq_getElem_cons hi', addGo]
              have : ((b :: q)).getD i 0 = ((b :: q))[i] := by rw [List.getD_eq_getElem?_getD, List.getElem?_eq_getElem hi']; rfl
              rw [this]
            rw [← hK] at hstep
            refine ⟨(i + 1, _, _), ⟨?_, ?_, hstep.symm.trans q3⟩, ?_, ⟨rfl, rfl, rfl, rfl, rfl, rfl, rfl, rfl, rfl, rfl, ?_, trivial⟩, ⟨rfl, rfl, rfl, rfl, rfl, trivial⟩⟩
            · exact hi'
            · simp only [List.length_set]; exact q2
            · simp only; omega
            · exact congrArg (fun z : Int => some (SV.u (.c (I64 z)))) (w64_eq (n := (i : Int) + 1) (by omega))
          · have c1 : ¬ (i : Int) < (((b :: q)).length : Nat) := of_decide_eq_false c1
            have hi' : i = ((b :: q)).length := by omega
            rw [hi', List.drop_length, addGo] at q3
            conv => whnf
            refine ⟨(1 + 1, c, bd, first'), ⟨rfl, q2, .inr (.inr ⟨rfl, by rw [← p3]; exact q3⟩)⟩, by show 2 - (1 + 1) < 2 - 1; decide, ⟨rfl, rfl, rfl, rfl, rfl, rfl, rfl, trivial⟩, ⟨rfl, rfl, rfl, rfl, trivial⟩⟩
        · conv => whnf
          rw [← p3] at hk
          exact hk
  · exact hk.elim
end Sx
/-! Contracts: two points added. -/
namespace Sx
open Go Go.Proofs
set_option linter.unusedVariables false
set_option maxRecDepth 30000
variable {G : Glob}
def oneSide (s t : Int × List Int) (x y : Nat) (bad : Bool) : Int × List Int × Bool :=
  addL ((downL s.1 s.2 x bad).1, (downL s.1 s.2 x bad).2.1) ((downL t.1 t.2 y (downL s.1 s.2 x bad).2.2).1, (downL t.1 t.2 y (downL s.1 s.2 x bad).2.2).2.1) (downL t.1 t.2 y (downL s.1 s.2 x bad).2.2).2.2
def cntBad (a b : ExpD) : Bool := (false || decide (x64 (a.count + b.count) < a.count)) || decide (x64 (a.zero + b.zero) < a.zero)
def addP (a b : ExpD) (x y : Nat) : Int × List Int × Bool := oneSide (sdP a) (sdP b) x y (cntBad a b)
def addNn (a b : ExpD) (x y : Nat) : Int × List Int × Bool := oneSide (sdN a) (sdN b) x y (addP a b x y).2.2
def addBad (a b : ExpD) (x y : Nat) : Bool := (addNn a b x y).2.2 || (bigS (addP a b x y).1 (addP a b x y).2.1 || bigS (addNn a b x y).1 (addNn a b x y).2.1)
def addE (a b : ExpD) (x y : Nat) (s z : Int) : ExpD :=
  ({ b with start := a.start, scale := w32 s, count := x64 (a.count + b.count), zero := x64 (a.zero + b.zero), sumH := a.sumH && b.sumH, sum := z, minH := a.minH && b.minH, min := bif a.minH && b.minH then minV a.min b.min else 0, maxH := a.maxH && b.maxH, max := bif a.maxH && b.maxH then maxV a.max b.max else 0, hasP := a.hasP || b.hasP, hasN := a.hasN || b.hasN }).lay
    (trim (addP a b x y).1 (addP a b x y).2.1) (trim (addNn a b x y).1 (addNn a b x y).2.1)
def mexpS (k : Nat) : List U → Out SV
  | [.a la, .a lb, .c (.v (.int .i64 most))] => match asExp la, asExp lb with
    | some a, some b => .need (Fits a ∧ Fits b ∧ Typ TB (.sl 30) b.attrs ∧ Dp k b.attrs ∧ Typ TB (.sl 32) b.ex ∧ Dp k b.ex) (wp1 (a.thr != b.thr) fun c => bif c then .ret (.t [.a (noE 0).cells, .c (errV 13)]) else
      .all (Option (Int × Int × Int)) (fun o => shV a b most = o) ⟨_, rfl⟩ fun o => match o with
      | none => .ret (.t [.a (noE 0).cells, .c (errV 9)])
      | some r => .need (0 ≤ r.1 ∧ r.1 ≤ 31 ∧ 0 ≤ r.2.1 ∧ r.2.1 ≤ 31) (.all Int (fun _ => True) ⟨0, trivial⟩ fun z => wp1 (addBad a b r.1.toNat r.2.1.toNat) fun c => bif c then .ret (.t [.a (noE 0).cells, .c (errV 9)]) else .ret (.t [.a (addE a b r.1.toNat r.2.1.toNat r.2.2 z).cells, .c nilV])))
    | _, _ => .fail
  | _ => .fail
theorem downL_near {f : Int} {l : List Int} {n : Nat} {bad : Bool} (h1 : -8589934592 ≤ f ∧ f ≤ 8589934592) (h2 : l.length ≤ 3750) :
    -8589938342 ≤ (downL f l n bad).1 ∧ (downL f l n bad).1 ≤ 8589938342 ∧ (downL f l n bad).2.1.length ≤ 3750 := by
  have hlen := Nat.le_trans (downL_len f l n bad) h2
  unfold downL at hlen ⊢
  rcases trim_spec l f (by omega) (by omega) with ⟨h, _⟩ | ⟨k, m, c, h, hc, _, _, hll⟩
  · rw [h]; exact ⟨by simp, by simp, by simp⟩
  · rw [h] at hlen ⊢
    have := congrArg List.length hll
    simp only [List.length_append, List.length_replicate] at this
    cases c with
    | nil => exact absurd rfl hc
    | cons a r =>
      have lo := shr_bound (a := f + k) n (m := 8589938342) (by omega) (by omega) (by omega)
      exact ⟨lo.1, lo.2, hlen⟩
theorem addN_near {f g : Int} {l m : List Int} (h1 : -8589938342 ≤ f ∧ f ≤ 8589938342 ∧ l.length ≤ 3750) (h2 : -8589938342 ≤ g ∧ g ≤ 8589938342 ∧ m.length ≤ 3750) : Near f l ∧ Near g m ∧ addN f l g m ≤ 68719476736 := by
  refine ⟨⟨by omega, by omega, by omega⟩, ⟨by omega, by omega, by omega⟩, ?_⟩
  unfold addN hi2 lo2
  split <;> split <;> omega
theorem addN_len {s t : Int × List Int} {bad : Bool} (h1 : -8589938342 ≤ s.1 ∧ s.1 ≤ 8589938342 ∧ s.2.length ≤ 3750) (h2 : -8589938342 ≤ t.1 ∧ t.1 ≤ 8589938342 ∧ t.2.length ≤ 3750) : (addL s t bad).2.1.length ≤ 68719476736 := by
  obtain ⟨f, l⟩ := s
  obtain ⟨g, m⟩ := t
  have := (addN_near h1 h2).2.2
  unfold addL
  cases l with
  | nil => simp only at *; omega
  | cons a r =>
    cases m with
    | nil => simp only at *; omega
    | cons b q => simp only [addGo_len, List.length_replicate]; simp only at this; omega
theorem sd_near {f : Int} {l : List Int} {h : Bool} (h1 : -2147483648 ≤ f ∧ f < 2147483648) (h2 : l.length ≤ 3750) :
    -8589934592 ≤ (trim (bif h then w64 f else 0) (bif h then l else [])).1 ∧ (trim (bif h then w64 f else 0) (bif h then l else [])).1 ≤ 8589934592 ∧ (trim (bif h then w64 f else 0) (bif h then l else [])).2.length ≤ 3750 := by
  have ho := bifoff h h1
  have hl := Nat.le_trans (side_len h l) h2
  have := trim_len (bif h then w64 f else 0) (bif h then l else [])
  rcases trim_spec (bif h then l else []) (bif h then w64 f else 0) (by omega) (by omega) with ⟨e, _⟩ | ⟨k, m, c, e, hc, _, _, hll⟩
  · rw [e]; exact ⟨by simp, by simp, by simp⟩
  · rw [e] at this ⊢
    have h3 := congrArg List.length hll
    simp only [List.length_append, List.length_replicate] at h3
    exact ⟨by simp only; omega, by simp only; omega, by simp only at *; omega⟩
set_option maxHeartbeats 2000000 in
theorem mexp_ok {k : Nat} : Ok G 68 (mexpS k) := by
  have hS : AllSound (B [(101, .pure (normG (B []) [44, 44, 3] shiftsS)), (64, .pure (normG (B []) [44] (twS k))), (108, .full (normF (B []) [228, 31, 31] plusS)), (109, .pure (normG (B []) [37, 37, 118] bothS)), (113, .pure (normG (B []) [44, 44] pairsS)), (103, .full (normF (B []) [228, 185, 3] downS)), (114, .full (normF (B []) [228, 185, 185] addS)), (102, .full (normF (B []) [228, 183, 185, 185] laysS))]) G :=
    .cons _ shifts_ok (.cons _ twExp_ok (.consF _ plus_ok (.cons _ both_ok (.cons _ pairs_ok (.consF _ down_ok (.consF _ add_ok (.consF _ lays_ok noneS)))))))
  refine okP hS Tryz.func68 rfl (by decide) fun K us hk => ?_
  unfold mexpS at hk
  split at hk
  · rename_i la lb most
    split at hk
    · rename_i a b ha hb
      rw [asExp_eq ha, asExp_eq hb]
      refine ⟨by show 3 ≤ _; decide, ?_⟩
      obtain ⟨⟨hA, hB, h1, h2, h3, h4⟩, hk⟩ := hk
      have hk := hk _ rfl
      conv => whnf
      refine Ask.i (fun c1 => ?_) (fun c1 => ?_)
      · have c1 : (a.thr != b.thr) = true := c1
        rw [c1] at hk
        conv => whnf
        exact hk
      have c1 : (a.thr != b.thr) = false := c1
      rw [c1] at hk
      have hk := hk _ rfl
      conv => whnf
      refine ⟨⟨hA, hB⟩, ?_⟩
      conv => whnf
      intro o ho
      have ho : shV a b most = o := ho
      rw [ho] at hk
      cases o with
      | none =>
        conv => whnf
        exact hk
      | some r =>
        obtain ⟨⟨hr1, hr2, hr3, hr4⟩, hk⟩ := hk
        conv => whnf
        refine ⟨⟨h1, h2, h3, h4, hB.1, hB.2.1⟩, ?_⟩
        conv => whnf
        refine ⟨mixed, [(4, [12]), (9, [12]), (11, [13]), (13, [13])], [], [], by kernel_rfl, ?_⟩
        conv => whnf
        refine ⟨mixed, [(16, [13]), (18, [13]), (20, [13])], [], [], by kernel_rfl, ?_⟩
        conv => whnf
        intro z hz
        have hk := hk z trivial _ rfl
        have pa := sd_near (h := a.hasP) (l := a.cP) ⟨hA.2.2.1, hA.2.2.2.1⟩ hA.1
        have pb := sd_near (h := b.hasP) (l := b.cP) ⟨hB.2.2.1, hB.2.2.2.1⟩ hB.1
        have na := sd_near (h := a.hasN) (l := a.cN) ⟨hA.2.2.2.2.1, hA.2.2.2.2.2.1⟩ hA.2.1
        have nb := sd_near (h := b.hasN) (l := b.cN) ⟨hB.2.2.2.2.1, hB.2.2.2.2.2.1⟩ hB.2.1
        change -8589934592 ≤ (sdP a).1 ∧ (sdP a).1 ≤ 8589934592 ∧ (sdP a).2.length ≤ 3750 at pa
        change -8589934592 ≤ (sdP b).1 ∧ (sdP b).1 ≤ 8589934592 ∧ (sdP b).2.length ≤ 3750 at pb
        change -8589934592 ≤ (sdN a).1 ∧ (sdN a).1 ≤ 8589934592 ∧ (sdN a).2.length ≤ 3750 at na
        change -8589934592 ≤ (sdN b).1 ∧ (sdN b).1 ≤ 8589934592 ∧ (sdN b).2.length ≤ 3750 at nb
        have far : ∀ {s : Int × List Int} {x : Int}, -8589934592 ≤ s.1 ∧ s.1 ≤ 8589934592 ∧ s.2.length ≤ 3750 → 0 ≤ x → x ≤ 31 → s.2.length ≤ 68719476736 ∧ -1099511627776 ≤ s.1 ∧ s.1 ≤ 1099511627776 ∧ 0 ≤ x ∧ x ≤ 31 := by
          intro s x h h1 h2; omega
        have nr : ∀ {s : Int × List Int} (n : Nat) (bad : Bool), -8589934592 ≤ s.1 ∧ s.1 ≤ 8589934592 ∧ s.2.length ≤ 3750 → -8589938342 ≤ (downL s.1 s.2 n bad).1 ∧ (downL s.1 s.2 n bad).1 ≤ 8589938342 ∧ (downL s.1 s.2 n bad).2.1.length ≤ 3750 := by
          intro s n bad h; exact downL_near ⟨h.1, h.2.1⟩ h.2.2
        conv => whnf
        refine ⟨mixed, [(13, [13]), (15, [13])], [], [], by kernel_rfl, ?_⟩
        conv => whnf
        refine Ask.i (fun c2 => ?_) (fun c2 => ?_)
        · have c2 : a.hasP = true := c2
          conv => whnf
          refine Ask.i (fun c3 => ?_) (fun c3 => ?_)
          · have c3 : a.hasN = true := c3
            conv => whnf
            refine ⟨⟨hA, hB⟩, ?_⟩
            conv => whnf
            refine ⟨mixed, [(3, [12]), (7, [12]), (8, [12]), (12, [12]), (16, [12]), (17, [12]), (18, [12, 13])], [], [], by kernel_rfl, ?_⟩
            conv => whnf
            refine ⟨far pa hr1 hr2, ?_⟩
            conv => whnf
            refine ⟨far pb hr3 hr4, ?_⟩
            conv => whnf
            refine ⟨addN_near (nr _ _ pa) (nr _ _ pb), ?_⟩
            conv => whnf
            refine ⟨far na hr1 hr2, ?_⟩
            conv => whnf
            refine ⟨far nb hr3 hr4, ?_⟩
            conv => whnf
            refine ⟨addN_near (nr _ _ na) (nr _ _ nb), ?_⟩
            conv => whnf
            refine ⟨⟨addN_len (nr _ _ pa) (nr _ _ pb), addN_len (nr _ _ na) (nr _ _ nb)⟩, ?_⟩
            conv => whnf
            intro c hc
            have hc : addBad a b r.1.toNat r.2.1.toNat = c := hc
            rw [hc] at hk
            cases c with
            | true =>
              conv => whnf
              exact hk
            | false =>
              conv => whnf
              refine fin hk (congrArg (fun h : Bool × Bool => SV.t [.a ({ addE a b r.1.toNat r.2.1.toNat r.2.2 z with hasP := h.1, hasN := h.2 }).cells, .c nilV]) (?_ : (a.hasP || b.hasP, a.hasN || b.hasN) = (true, true)))
              rw [c2, c3]; rfl
          · have c3 : a.hasN = false := c3
            conv => whnf
            refine ⟨⟨hA, hB⟩, ?_⟩
            conv => whnf
            refine ⟨mixed, [(3, [12]), (7, [12]), (8, [12]), (12, [12]), (16, [12]), (17, [12]), (18, [12, 13])], [], [], by kernel_rfl, ?_⟩
            conv => whnf
            refine ⟨far pa hr1 hr2, ?_⟩
            conv => whnf
            refine ⟨far pb hr3 hr4, ?_⟩
            conv => whnf
            refine ⟨addN_near (nr _ _ pa) (nr _ _ pb), ?_⟩
            conv => whnf
            refine ⟨far na hr1 hr2, ?_⟩
            conv => whnf
            refine ⟨far nb hr3 hr4, ?_⟩
            conv => whnf
            refine ⟨addN_near (nr _ _ na) (nr _ _ nb), ?_⟩
            conv => whnf
            refine ⟨⟨addN_len (nr _ _ pa) (nr _ _ pb), addN_len (nr _ _ na) (nr _ _ nb)⟩, ?_⟩
            conv => whnf
            intro c hc
            have hc : addBad a b r.1.toNat r.2.1.toNat = c := hc
            rw [hc] at hk
            cases c with
            | true =>
              conv => whnf
              exact hk
            | false =>
              conv => whnf
              refine fin hk (congrArg (fun h : Bool × Bool => SV.t [.a ({ addE a b r.1.toNat r.2.1.toNat r.2.2 z with hasP := h.1, hasN := h.2 }).cells, .c nilV]) (?_ : (a.hasP || b.hasP, a.hasN || b.hasN) = (true, b.hasN)))
              rw [c2, c3]; rfl
        · have c2 : a.hasP = false := c2
          conv => whnf
          refine Ask.i (fun c3 => ?_) (fun c3 => ?_)
          · have c3 : a.hasN = true := c3
            conv => whnf
            refine ⟨⟨hA, hB⟩, ?_⟩
            conv => whnf
            refine ⟨mixed, [(3, [12]), (7, [12]), (8, [12]), (12, [12]), (16, [12]), (17, [12]), (18, [12, 13])], [], [], by kernel_rfl, ?_⟩
            conv => whnf
            refine ⟨far pa hr1 hr2, ?_⟩
            conv => whnf
            refine ⟨far pb hr3 hr4, ?_⟩
            conv => whnf
            refine ⟨addN_near (nr _ _ pa) (nr _ _ pb), ?_⟩
            conv => whnf
            refine ⟨far na hr1 hr2, ?_⟩
            conv => whnf
            refine ⟨far nb hr3 hr4, ?_⟩
            conv => whnf
            refine ⟨addN_near (nr _ _ na) (nr _ _ nb), ?_⟩
            conv => whnf
            refine ⟨⟨addN_len (nr _ _ pa) (nr _ _ pb), addN_len (nr _ _ na) (nr _ _ nb)⟩, ?_⟩
            conv => whnf
            intro c hc
            have hc : addBad a b r.1.toNat r.2.1.toNat = c := hc
            rw [hc] at hk
            cases c with
            | true =>
              conv => whnf
              exact hk
            | false =>
              conv => whnf
              refine fin hk (congrArg (fun h : Bool × Bool => SV.t [.a ({ addE a b r.1.toNat r.2.1.toNat r.2.2 z with hasP := h.1, hasN := h.2 }).cells, .c nilV]) (?_ : (a.hasP || b.hasP, a.hasN || b.hasN) = (b.hasP, true)))
              rw [c2, c3]; rfl
          · have c3 : a.hasN = false := c3
            conv => whnf
            refine ⟨⟨hA, hB⟩, ?_⟩
            conv => whnf
            refine ⟨mixed, [(3, [12]), (7, [12]), (8, [12]), (12, [12]), (16, [12]), (17, [12]), (18, [12, 13])], [], [], by kernel_rfl, ?_⟩
            conv => whnf
            refine ⟨far pa hr1 hr2, ?_⟩
            conv => whnf
            refine ⟨far pb hr3 hr4, ?_⟩
            conv => whnf
            refine ⟨addN_near (nr _ _ pa) (nr _ _ pb), ?_⟩
            conv => whnf
            refine ⟨far na hr1 hr2, ?_⟩
            conv => whnf
            refine ⟨far nb hr3 hr4, ?_⟩
            conv => whnf
            refine ⟨addN_near (nr _ _ na) (nr _ _ nb), ?_⟩
            conv => whnf
            refine ⟨⟨addN_len (nr _ _ pa) (nr _ _ pb), addN_len (nr _ _ na) (nr _ _ nb)⟩, ?_⟩
            conv => whnf
            intro c hc
            have hc : addBad a b r.1.toNat r.2.1.toNat = c := hc
            rw [hc] at hk
            cases c with
            | true =>
              conv => whnf
              exact hk
            | false =>
              conv => whnf
              refine fin hk (congrArg (fun h : Bool × Bool => SV.t [.a ({ addE a b r.1.toNat r.2.1.toNat r.2.2 z with hasP := h.1, hasN := h.2 }).cells, .c nilV]) (?_ : (a.hasP || b.hasP, a.hasN || b.hasN) = (b.hasP, b.hasN)))
              rw [c2, c3]; rfl
    · exact hk.elim
  · exact hk.elim
end Sx
/-! Plain: totals of sides; what Exp gives is fitted. -/
namespace Sx
open Go Go.Proofs
set_option linter.unusedVariables false
set_option maxRecDepth 30000
def S (l : List Int) : Int := l.sum
theorem S_nil : S [] = 0 := rfl
theorem S_cons (a : Int) (l : List Int) : S (a :: l) = a + S l := by simp [S]
theorem S_nn {l : List Int} (h : R64 l) : 0 ≤ S l := by
  induction l with
  | nil => simp [S]
  | cons a l ih =>
    rw [S_cons]
    have := ih fun x hx => h x (List.mem_cons_of_mem _ hx)
    have := (h a List.mem_cons_self).1
    omega
theorem tot_S : ∀ (l : List Int) (n : Int), R64 l → 0 ≤ n ∧ n < 18446744073709551616 → tot n l = if n + S l < 18446744073709551616 then (n + S l, true) else (0, false)
  | [], n, _, hn => by rw [tot, S_nil, if_pos (by omega)]; simp
  | x :: l, n, hl, hn => by
    have hx := hl x List.mem_cons_self
    have hr : R64 l := fun y hy => hl y (List.mem_cons_of_mem _ hy)
    have hs := S_nn hr
    rw [tot, S_cons]
    by_cases h : n + x < 18446744073709551616
    · rw [x64_eq (by omega), decide_eq_false (by omega), cond_false, tot_S l (n + x) hr (by omega), Int.add_assoc]
    · have : x64 (n + x) = n + x - 18446744073709551616 := by
        show IntKind.u64.wrap (n + x) = _
        rw [IntKind.wrap_u64]; omega
      rw [this, decide_eq_true (by omega), cond_true, if_neg (by omega)]
theorem S_rtrim : ∀ l : List Int, S (rtrim l) = S l
  | [] => rfl
  | a :: l => by
    have ih := S_rtrim l
    rw [rtrim, S_cons]
    split
    · rename_i h
      rw [h] at ih
      split
      · rename_i h0; rw [S_nil] at *; omega
      · rw [S_cons]; omega
    · rw [S_cons]; omega
theorem S_ltrim : ∀ (l : List Int) (f : Int), S (ltrim f l).2 = S l
  | [], _ => rfl
  | a :: l, f => by
    rw [ltrim]
    split
    · rename_i h; rw [S_ltrim l, S_cons, h]; simp
    · rfl
theorem S_trim (f : Int) (l : List Int) : S (trim f l).2 = S l := by unfold trim; rw [S_ltrim, S_rtrim]
theorem S_set : ∀ (c : List Int) (p : Nat) (x : Int), p < c.length → S (c.set p (c.getD p 0 + x)) = S c + x
  | [], p, x, h => by simp at h
  | a :: c, 0, x, h => by simp [S_cons]; omega
  | a :: c, p + 1, x, h => by
    have := S_set c p x (by simpa using h)
    simp only [List.set_cons_succ, S_cons, List.getD_cons_succ] at *
    omega
theorem S_zero (n : Nat) : S (List.replicate n 0) = 0 := by
  induction n with
  | zero => rfl
  | succ n ih => rw [List.replicate_succ, S_cons, ih]; rfl
theorem getD_r {c : List Int} (h : R64 c) (p : Nat) : 0 ≤ c.getD p 0 ∧ c.getD p 0 < 18446744073709551616 := by
  by_cases hp : p < c.length
  · exact h _ (getD_mem (a := 0) hp)
  · rw [List.getD_eq_getElem?_getD, List.getElem?_eq_none (by omega)]; decide
theorem no_wrap {a x : Int} (ha : 0 ≤ a ∧ a < 18446744073709551616) (hx : 0 ≤ x ∧ x < 18446744073709551616) (h : decide (x64 (a + x) < a) = false) : x64 (a + x) = a + x := by
  have h := of_decide_eq_false h
  have e : x64 (a + x) = (a + x) % 18446744073709551616 := by
    show IntKind.u64.wrap (a + x) = _
    rw [IntKind.wrap_u64]
  rw [e] at h ⊢
  omega
theorem set_r {c : List Int} (h : R64 c) (p : Nat) (x : Int) : R64 (c.set p (x64 x)) := fun y hy => by
  rcases List.mem_or_eq_of_mem_set hy with hy | rfl
  · exact h y hy
  · exact x64_r _
theorem downGo_bad (f : Int) (n : Nat) : ∀ (l : List Int) (i : Nat) (c : List Int), (downGo f n i l c true).2 = true
  | [], _, _ => rfl
  | a :: l, i, c => by rw [downGo, Bool.true_or]; exact downGo_bad f n l _ _
theorem S_downGo (f : Int) (n : Nat) : ∀ (l : List Int) (i : Nat) (c : List Int) (bad : Bool), R64 l → R64 c → (∀ j, j < l.length → place f n (i + j) < c.length) → (downGo f n i l c bad).2 = false → S (downGo f n i l c bad).1 = S c + S l
  | [], i, c, bad, _, _, _, _ => by rw [downGo, S_nil]; simp
  | x :: l, i, c, bad, hl, hc, hp, h => by
    rw [downGo] at h ⊢
    have hx := hl x List.mem_cons_self
    have hp0 := hp 0 (by simp)
    rw [Nat.add_zero] at hp0
    cases hb : (bad || decide (x64 (c.getD (place f n i) 0 + x) < c.getD (place f n i) 0)) with
    | true => rw [hb, downGo_bad] at h; cases h
    | false =>
      rw [hb] at h
      have hb := (Bool.or_eq_false_iff.1 hb).2
      have hw := no_wrap (getD_r hc _) hx hb
      rw [S_downGo f n l (i + 1) _ false (fun y hy => hl y (List.mem_cons_of_mem _ hy)) (set_r hc _ _) (fun j hj => by
        have := hp (j + 1) (by simp; omega)
        simp only [List.length_set]
        rwa [show i + 1 + j = i + (j + 1) from by omega]) h, hw, S_set _ _ _ hp0, S_cons]
      omega
theorem place_lt {f : Int} {a : Int} {r : List Int} {n j : Nat} (hj : j < (a :: r).length) : place f n j < (wideS f (a :: r) n).toNat := by
  have h1 := shr_mono (a := f) (b := f + j) n (by omega)
  have h2 := shr_mono (a := f + j) (b := f + (a :: r).length - 1) n (by omega)
  unfold place wideS
  omega
theorem rep_r (n : Nat) : R64 (List.replicate n 0) := fun x hx => by rw [(List.mem_replicate.1 hx).2]; decide
theorem S_downL {f : Int} {l : List Int} {n : Nat} {bad : Bool} (hl : R64 l) (h : (downL f l n bad).2.2 = false) : S (downL f l n bad).2.1 = S l := by
  have ht := S_trim f l
  have hr : R64 (trim f l).2 := fun x hx => hl x (trim_mem hx)
  unfold downL at h ⊢
  generalize trim f l = t at *
  obtain ⟨g, c⟩ := t
  cases c with
  | nil => exact ht
  | cons a r =>
    simp only at h ht hr ⊢
    rw [S_downGo g n (a :: r) 0 _ bad hr (rep_r _) (fun j hj => by rw [List.length_replicate, Nat.zero_add]; exact place_lt hj) h, S_zero, ht]
    simp
theorem downL_bad {f : Int} {l : List Int} {n : Nat} {bad : Bool} (h : (downL f l n bad).2.2 = false) : bad = false := by
  cases bad with
  | false => rfl
  | true =>
    unfold downL at h
    split at h
    · exact h
    · rw [downGo_bad] at h; cases h
theorem addGo_bad (o : Nat) : ∀ (l : List Int) (i : Nat) (c : List Int), (addGo o i l c true).2 = true
  | [], _, _ => rfl
  | a :: l, i, c => by rw [addGo, Bool.true_or]; exact addGo_bad o l _ _
theorem addGo_r (o : Nat) : ∀ (l : List Int) (i : Nat) (c : List Int) (bad : Bool), R64 c → R64 (addGo o i l c bad).1
  | [], _, _, _, h => h
  | x :: l, i, c, bad, h => by rw [addGo]; exact addGo_r o l _ _ _ (set_r h _ _)
theorem S_addGo (o : Nat) : ∀ (l : List Int) (i : Nat) (c : List Int) (bad : Bool), R64 l → R64 c → o + i + l.length ≤ c.length → (addGo o i l c bad).2 = false → S (addGo o i l c bad).1 = S c + S l
  | [], i, c, bad, _, _, _, _ => by rw [addGo, S_nil]; simp
  | x :: l, i, c, bad, hl, hc, hp, h => by
    rw [addGo] at h ⊢
    have hx := hl x List.mem_cons_self
    simp only [List.length_cons] at hp
    cases hb : (bad || decide (x64 (c.getD (o + i) 0 + x) < c.getD (o + i) 0)) with
    | true => rw [hb, addGo_bad] at h; cases h
    | false =>
      rw [hb] at h
      have hb := (Bool.or_eq_false_iff.1 hb).2
      have hw := no_wrap (getD_r hc _) hx hb
      rw [S_addGo o l (i + 1) _ false (fun y hy => hl y (List.mem_cons_of_mem _ hy)) (set_r hc _ _) (by simp only [List.length_set]; omega) h, hw, S_set _ _ _ (by omega), S_cons]
      omega
theorem addL_bad {s t : Int × List Int} {bad : Bool} (h : (addL s t bad).2.2 = false) : bad = false := by
  cases bad with
  | false => rfl
  | true =>
    unfold addL at h
    split at h
    · exact h
    · exact h
    · simp only [addGo_bad] at h; cases h
theorem addL_r {s t : Int × List Int} {bad : Bool} (h1 : R64 s.2) (h2 : R64 t.2) : R64 (addL s t bad).2.1 := by
  unfold addL
  split
  · exact h2
  · exact h1
  · exact addGo_r _ _ _ _ _ (addGo_r _ _ _ _ _ (rep_r _))
theorem S_addL {s t : Int × List Int} {bad : Bool} (h1 : R64 s.2) (h2 : R64 t.2) (h : (addL s t bad).2.2 = false) : S (addL s t bad).2.1 = S s.2 + S t.2 := by
  obtain ⟨f, l⟩ := s
  obtain ⟨g, m⟩ := t
  unfold addL at h ⊢
  cases l with
  | nil => simp [S_nil]
  | cons a r =>
    cases m with
    | nil => simp [S_nil]
    | cons b q =>
      simp only at h h1 h2 ⊢
      cases hb : (addGo (f - lo2 f g).toNat 0 (a :: r) (List.replicate (addN f (a :: r) g (b :: q)).toNat 0) bad).2 with
      | true => rw [hb, addGo_bad] at h; cases h
      | false =>
        rw [hb] at h
        have hlo : lo2 f g ≤ f ∧ lo2 f g ≤ g := by unfold lo2; split <;> omega
        have hhi : f + ((a :: r).length : Nat) ≤ hi2 (f + ((a :: r).length : Nat)) (g + ((b :: q).length : Nat)) ∧ g + ((b :: q).length : Nat) ≤ hi2 (f + ((a :: r).length : Nat)) (g + ((b :: q).length : Nat)) := by unfold hi2; split <;> omega
        have e1 := S_addGo (f - lo2 f g).toNat (a :: r) 0 _ bad h1 (rep_r (addN f (a :: r) g (b :: q)).toNat) (by rw [List.length_replicate]; unfold addN; omega) hb
        rw [S_zero] at e1
        rw [S_addGo _ _ 0 _ _ h2 (addGo_r _ _ _ _ _ (rep_r _)) (by rw [addGo_len, List.length_replicate]; unfold addN; omega) h, e1]
        omega
/-- a point whose sides were laid -/
theorem lay_fitted {e : ExpD} {most : Int} {p n : Int × List Int} (m1 : 1 ≤ most) (m2 : most ≤ 320) (lP : (p.2.length : Int) ≤ most) (lN : (n.2.length : Int) ≤ most)
    (rP : R64 p.2) (rN : R64 n.2) (oP : -2147483648 ≤ p.1 ∧ p.1 ≤ 8589938342) (oN : -2147483648 ≤ n.1 ∧ n.1 ≤ 8589938342) (bP : bigS p.1 p.2 = false) (bN : bigS n.1 n.2 = false)
    (hs : -2147483648 ≤ e.scale ∧ e.scale < 2147483648) (hP : e.hasP = false → p.2 = []) (hN : e.hasN = false → n.2 = []) : Fitted (e.lay (trim p.1 p.2) (trim n.1 n.2)) most := by
  have main : ∀ {t : Int × List Int}, -2147483648 ≤ t.1 ∧ t.1 ≤ 8589938342 → (t.2.length : Int) ≤ most → bigS t.1 t.2 = false → R64 t.2 →
      (-2147483648 ≤ (trim t.1 t.2).1 ∧ (trim t.1 t.2).1 < 2147483648) ∧ Tight (trim t.1 t.2) ∧ R64 (trim t.1 t.2).2 ∧ (((trim t.1 t.2).2.length : Nat) : Int) ≤ most := by
    intro t h1 h2 h3 h4
    have hl := trim_len t.1 t.2
    have h3 : ¬ (trim t.1 t.2).1 > 2147483647 := of_decide_eq_false h3
    refine ⟨⟨?_, by omega⟩, trim_tight (by omega) (by omega), fun x hx => h4 x (trim_mem hx), by omega⟩
    rcases trim_spec t.2 t.1 (by omega) (by omega) with ⟨h, _⟩ | ⟨k, m, c, h, _⟩
    · rw [h]; decide
    · rw [h]; simp only; omega
  obtain ⟨p1, p2, p3, p4⟩ := main oP lP bP rP
  obtain ⟨q1, q2, q3, q4⟩ := main oN lN bN rN
  refine ⟨m1, m2, p4, q4, ?_, ?_, p3, q3, ?_, ?_, hs, rfl, rfl, ?_, ?_⟩
  · show Tight (w32 _, _); rw [w32_eq p1]; exact p2
  · show Tight (w32 _, _); rw [w32_eq q1]; exact q2
  · show -2147483648 ≤ w32 _ ∧ w32 _ < 2147483648; rw [w32_eq p1]; exact p1
  · show -2147483648 ≤ w32 _ ∧ w32 _ < 2147483648; rw [w32_eq q1]; exact q1
  · intro h
    show w32 (trim p.1 p.2).1 = 0 ∧ (trim p.1 p.2).2 = []
    rw [hP h]; exact ⟨rfl, rfl⟩
  · intro h
    show w32 (trim n.1 n.2).1 = 0 ∧ (trim n.1 n.2).2 = []
    rw [hN h]; exact ⟨rfl, rfl⟩
end Sx
/-! Plain: what Exp gives. -/
namespace Sx
open Go Go.Proofs
set_option linter.unusedVariables false
set_option maxRecDepth 30000
theorem downL_trim {f : Int} {l : List Int} (h1 : -2147483648 ≤ f ∧ f < 2147483648) (h2 : l.length ≤ 3750) (n : Nat) (bad : Bool) : downL (trim f l).1 (trim f l).2 n bad = downL f l n bad := by
  have ht : trim (trim f l).1 (trim f l).2 = trim f l := trim_id (trim_tight (by omega) (by omega))
  unfold downL
  rw [ht]
theorem addL_len {f g : Int} {l m : List Int} (h1 : -2147483648 ≤ f ∧ f < 2147483648) (h2 : l.length ≤ 3750) (h3 : -2147483648 ≤ g ∧ g < 2147483648) (h4 : m.length ≤ 3750) (x y : Nat) (bd bd' bad : Bool) :
    (((addL ((downL f l x bd).1, (downL f l x bd).2.1) ((downL g m y bd').1, (downL g m y bd').2.1) bad).2.1.length : Nat) : Int) = wideV (trim f l) (trim g m) x y := by
  unfold downL wideV
  generalize trim f l = s
  generalize trim g m = t
  obtain ⟨f, l⟩ := s
  obtain ⟨g, m⟩ := t
  have pos : ∀ (f : Int) (a : Int) (r : List Int) (n : Nat), 1 ≤ wideS f (a :: r) n := by
    intro f a r n
    have := shr_mono (a := f) (b := f + (a :: r).length - 1) n (by simp only [List.length_cons]; omega)
    unfold wideS; omega
  have ne : ∀ (f : Int) (a : Int) (r : List Int) (n : Nat) (bd : Bool), ∃ c q, (downGo f n 0 (a :: r) (List.replicate (wideS f (a :: r) n).toNat 0) bd).1 = c :: q := by
    intro f a r n bd
    have hl : (downGo f n 0 (a :: r) (List.replicate (wideS f (a :: r) n).toNat 0) bd).1.length = (wideS f (a :: r) n).toNat := by rw [downGo_len, List.length_replicate]
    have := pos f a r n
    match hh : (downGo f n 0 (a :: r) (List.replicate (wideS f (a :: r) n).toNat 0) bd).1, hl with
    | [], hl => simp at hl; omega
    | c :: q, _ => exact ⟨c, q, rfl⟩
  have ln : ∀ (f : Int) (a : Int) (r : List Int) (n : Nat) (bd : Bool), (((downGo f n 0 (a :: r) (List.replicate (wideS f (a :: r) n).toNat 0) bd).1.length : Nat) : Int) = wideS f (a :: r) n := by
    intro f a r n bd
    have := pos f a r n
    rw [downGo_len, List.length_replicate]; omega
  cases l with
  | nil =>
    cases m with
    | nil => simp [addL]
    | cons b q =>
      simp only [addL, ln]
      rfl
  | cons a r =>
    cases m with
    | nil =>
      obtain ⟨c, q, e⟩ := ne f a r x bd
      have hl := ln f a r x bd
      rw [e] at hl
      simp only [addL, e]
      exact hl
    | cons b q =>
      obtain ⟨c, p, e⟩ := ne f a r x bd
      obtain ⟨c', p', e'⟩ := ne g b q y bd'
      have hl := ln f a r x bd
      have hl' := ln g b q y bd'
      have h1 := pos f a r x
      have h2 := pos g b q y
      rw [e] at hl
      rw [e'] at hl'
      simp only [addL, e, e', addGo_len, List.length_replicate, addN]
      rw [hl, hl']
      unfold wideS at *
      unfold hi2 lo2 hiS
      split <;> split <;> split <;> omega
structure SideOk (f : Int) (l : List Int) (g : Int) (m : List Int) (x y : Nat) (bad : Bool) (P : Int × List Int × Bool) : Prop where
  bad : bad = false
  sum : S P.2.1 = S l + S m
  r : R64 P.2.1
  lo : -2147483648 ≤ P.1
  hi : P.1 ≤ 8589938342
  len : (P.2.1.length : Int) = wideV (trim f l) (trim g m) x y
  no : l = [] → m = [] → P.2.1 = []
theorem side_ok {f g : Int} {l m : List Int} (h1 : -2147483648 ≤ f ∧ f < 2147483648) (h2 : l.length ≤ 3750) (h3 : -2147483648 ≤ g ∧ g < 2147483648) (h4 : m.length ≤ 3750) (rl : R64 l) (rm : R64 m) {x y : Nat} {bad : Bool}
    (h : (oneSide (trim f l) (trim g m) x y bad).2.2 = false) : SideOk f l g m x y bad (oneSide (trim f l) (trim g m) x y bad) := by
  unfold oneSide at h ⊢
  rw [downL_trim h1 h2, downL_trim h3 h4] at h ⊢
  have k1 := addL_bad h
  have k2 := downL_bad k1
  have k3 := downL_bad k2
  have s1 := S_downL rl k2
  have s2 := S_downL rm k1
  have r1 := downL_r f l x bad
  have r2 := downL_r g m y (downL f l x bad).2.2
  have o1 := downL_off (n := x) (bad := bad) h1 h2
  have o2 := downL_off (n := y) (bad := (downL f l x bad).2.2) h3 h4
  refine ⟨k3, ?_, addL_r r1 r2, ?_, ?_, addL_len h1 h2 h3 h4 _ _ _ _ _, ?_⟩
  · rw [S_addL r1 r2 h, s1, s2]
  · unfold addL lo2
    split
    · exact o2.1
    · exact o1.1
    · simp only; split <;> omega
  · unfold addL lo2
    split
    · simp only; omega
    · simp only; omega
    · simp only; split <;> omega
  · intro e1 e2
    subst e1 e2
    rfl
theorem bif_r {h : Bool} {l : List Int} (hl : R64 l) : R64 (bif h then l else []) := by
  cases h
  · intro x hx; cases hx
  · exact hl
theorem lesser_le (a b : Int) : lesser a b ≤ a ∧ lesser a b ≤ b ∧ (lesser a b = a ∨ lesser a b = b) := by unfold lesser; split <;> omega
structure AddOk (a b : ExpD) (most : Int) (u : ExpD) : Prop where
  fit : Fitted u most
  sA : u.scale ≤ a.scale
  sB : u.scale ≤ b.scale
  sumP : S u.cP = S (bif a.hasP then a.cP else []) + S (bif b.hasP then b.cP else [])
  sumN : S u.cN = S (bif a.hasN then a.cN else []) + S (bif b.hasN then b.cN else [])
  cnt : u.count = a.count + b.count
  zer : u.zero = a.zero + b.zero
theorem add_ok' {a b : ExpD} {most z : Int} {r : Int × Int × Int} (hA : Fits a) (hB : Fits b) (ca : 0 ≤ a.count ∧ a.count < 18446744073709551616) (cb : 0 ≤ b.count ∧ b.count < 18446744073709551616) (za : 0 ≤ a.zero ∧ a.zero < 18446744073709551616) (zb : 0 ≤ b.zero ∧ b.zero < 18446744073709551616)
    (ra : R64 a.cP) (ra' : R64 a.cN) (rb : R64 b.cP) (rb' : R64 b.cN)
    (hr : shV a b most = some r) (hb : addBad a b r.1.toNat r.2.1.toNat = false) : AddOk a b most (addE a b r.1.toNat r.2.1.toNat r.2.2 z) := by
  obtain ⟨f1, f2, f3, f4, f5, f6, f7, f8⟩ := hA
  obtain ⟨g1, g2, g3, g4, g5, g6, g7, g8⟩ := hB
  have le := lesser_le a.scale b.scale
  unfold shV at hr
  obtain ⟨j, b1, rfl, b3, b4, b5, b6, b7, b8, b9, _⟩ := shGo_spec hr
  generalize a.scale - lesser a.scale b.scale + (j : Int) = x at *
  generalize b.scale - lesser a.scale b.scale + (j : Int) = y at *
  simp only at hb ⊢
  unfold addBad at hb
  simp only [Bool.or_eq_false_iff] at hb
  obtain ⟨hN, bP, bN⟩ := hb
  have oPa := bifoff a.hasP ⟨f3, f4⟩
  have oNa := bifoff a.hasN ⟨f5, f6⟩
  have lPa := Nat.le_trans (side_len a.hasP a.cP) f1
  have lNa := Nat.le_trans (side_len a.hasN a.cN) f2
  have oPb := bifoff b.hasP ⟨g3, g4⟩
  have oNb := bifoff b.hasN ⟨g5, g6⟩
  have lPb := Nat.le_trans (side_len b.hasP b.cP) g1
  have lNb := Nat.le_trans (side_len b.hasN b.cN) g2
  have kN := side_ok oNa lNa oNb lNb (bif_r ra') (bif_r rb') hN
  have kP := side_ok oPa lPa oPb lPb (bif_r ra) (bif_r rb) kN.bad
  have hc := kP.bad
  unfold cntBad at hc
  simp only [Bool.false_or, Bool.or_eq_false_iff] at hc
  have hs : -2147483648 ≤ lesser a.scale b.scale - (j : Int) ∧ lesser a.scale b.scale - (j : Int) < 2147483648 := by
    by_cases hj : j = 0
    · subst hj; omega
    · have := b7 (by omega); omega
  have lenP := kP.len
  have lenN := kN.len
  have fit := lay_fitted (e := { b with start := a.start, scale := w32 (lesser a.scale b.scale - (j : Int)), count := x64 (a.count + b.count), zero := x64 (a.zero + b.zero), sumH := a.sumH && b.sumH, sum := z, minH := a.minH && b.minH, min := bif a.minH && b.minH then minV a.min b.min else 0, maxH := a.maxH && b.maxH, max := bif a.maxH && b.maxH then maxV a.max b.max else 0, hasP := a.hasP || b.hasP, hasN := a.hasN || b.hasN })
    (p := ((addP a b x.toNat y.toNat).1, (addP a b x.toNat y.toNat).2.1)) (n := ((addNn a b x.toNat y.toNat).1, (addNn a b x.toNat y.toNat).2.1)) b3 b4 (Int.le_trans (Int.le_of_eq kP.len) b8) (Int.le_trans (Int.le_of_eq kN.len) b9) kP.r kN.r ⟨kP.lo, kP.hi⟩ ⟨kN.lo, kN.hi⟩ bP bN
    (by simp only; rw [w32_eq hs]; exact hs) (fun h => by
      simp only [Bool.or_eq_false_iff] at h
      exact kP.no (by rw [h.1]; rfl) (by rw [h.2]; rfl)) (fun h => by
      simp only [Bool.or_eq_false_iff] at h
      exact kN.no (by rw [h.1]; rfl) (by rw [h.2]; rfl))
  refine ⟨fit, ?_, ?_, ?_, ?_, no_wrap ca cb hc.1, no_wrap za zb hc.2⟩
  · show w32 (lesser a.scale b.scale - (j : Int)) ≤ a.scale; rw [w32_eq hs]; omega
  · show w32 (lesser a.scale b.scale - (j : Int)) ≤ b.scale; rw [w32_eq hs]; omega
  · show S (trim _ _).2 = _; rw [S_trim]; exact kP.sum
  · show S (trim _ _).2 = _; rw [S_trim]; exact kN.sum
end Sx
