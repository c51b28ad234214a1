/- Part of the proof: a machine of states for walks, and contracts of functions over it. Conditions: those that each theorem names. -/
import Derived.Test.YtcjdbimojffggaaGreatDoorVb
set_option linter.unusedVariables false
set_option linter.unusedSimpArgs false
/-! Contracts: how far two points are shifted. -/
namespace Sx
open Go Go.Proofs
set_option linter.unusedVariables false
set_option maxRecDepth 30000
variable {G : Glob}
def sdP (e : ExpD) : Int × List Int := trim (bif e.hasP then w64 e.offP else 0) (bif e.hasP then e.cP else [])
def sdN (e : ExpD) : Int × List Int := trim (bif e.hasN then w64 e.offN else 0) (bif e.hasN then e.cN else [])
def pr (s t : Int × List Int) : U := .a [I64 s.1, .d 38 (.ints s.2), I64 t.1, .d 38 (.ints t.2)]
def Fits (e : ExpD) : Prop := e.cP.length ≤ 3750 ∧ e.cN.length ≤ 3750 ∧ -2147483648 ≤ e.offP ∧ e.offP < 2147483648 ∧ -2147483648 ≤ e.offN ∧ e.offN < 2147483648 ∧ -2147483648 ≤ e.scale ∧ e.scale < 2147483648
def pairsS : List U → Out SV
  | [.a la, .a lb] => match asExp la, asExp lb with
    | some a, some b => .need (Fits a ∧ Fits b) (.ret (.t [pr (sdP a) (sdP b), pr (sdN a) (sdN b)]))
    | _, _ => .fail
  | _ => .fail
theorem side_len (h : Bool) (l : List Int) : (bif h then l else []).length ≤ l.length := by cases h <;> simp
theorem pairs_ok : Ok G 113 pairsS := by
  refine okP s1_ok Tryz.func113 rfl (by decide) fun K us hk => ?_
  unfold pairsS at hk
  split at hk
  · split at hk
    · rename_i a b ha hb
      rw [asExp_eq ha, asExp_eq hb]
      refine ⟨by show 2 ≤ _; decide, ?_⟩
      obtain ⟨⟨hA, hB⟩, hk⟩ := hk
      conv => whnf
      refine ⟨mixed, [(26, [4]), (27, [5])], [], [], by kernel_rfl, ?_⟩
      conv => whnf
      refine ⟨by show (bif a.hasP then a.cP else []).length ≤ 68719476736; have := side_len a.hasP a.cP; have := hA.1; omega, ?_⟩
      conv => whnf
      refine ⟨by show (bif b.hasP then b.cP else []).length ≤ 68719476736; have := side_len b.hasP b.cP; have := hB.1; omega, ?_⟩
      conv => whnf
      refine ⟨by show (bif a.hasN then a.cN else []).length ≤ 68719476736; have := side_len a.hasN a.cN; have := hA.2.1; omega, ?_⟩
      conv => whnf
      refine ⟨by show (bif b.hasN then b.cN else []).length ≤ 68719476736; have := side_len b.hasN b.cN; have := hB.2.1; omega, ?_⟩
      conv => whnf
      exact hk
    · exact hk.elim
  · exact hk.elim
def hiS (f : Int) (l : List Int) (n : Nat) : Int := shr (f + l.length - 1) n
def wideV (s t : Int × List Int) (x y : Nat) : Int := match s.2, t.2 with
  | [], [] => 0
  | [], _ :: _ => hiS t.1 t.2 y - shr t.1 y + 1
  | _ :: _, [] => hiS s.1 s.2 x - shr s.1 x + 1
  | _ :: _, _ :: _ => (if hiS t.1 t.2 y > hiS s.1 s.2 x then hiS t.1 t.2 y else hiS s.1 s.2 x) - (if shr t.1 y < shr s.1 x then shr t.1 y else shr s.1 x) + 1
def Near (f : Int) (l : List Int) : Prop := -1099511627776 ≤ f ∧ f ≤ 1099511627776 ∧ l.length ≤ 68719476736
def wideFS : List U → Out SV
  | [.a [.v (.int .i64 f), .d 38 (.ints l)], .a [.v (.int .i64 g), .d 38 (.ints m)], .c (.v (.int .i64 x)), .c (.v (.int .i64 y))] => .need (Near f l ∧ Near g m ∧ 0 ≤ x ∧ x ≤ 31 ∧ 0 ≤ y ∧ y ≤ 31) (one (I64 (wideV (f, l) (g, m) x.toNat y.toNat)))
  | _ => .fail
theorem near_lo {f : Int} {l : List Int} (h : Near f l) (n : Nat) : -1099511627776 ≤ shr f n ∧ shr f n ≤ 1099511627776 := shr_bound n (by omega) h.1 h.2.1
theorem near_hi {f : Int} {l : List Int} (h : Near f l) (n : Nat) : -1236950581248 ≤ hiS f l n ∧ hiS f l n ≤ 1236950581248 := by
  obtain ⟨h1, h2, h3⟩ := h
  exact shr_bound n (by omega) (by omega) (by omega)
theorem wide_ok : Ok G 139 wideFS := by
  refine okP s1_ok Tryz.func139 rfl (by decide) fun K us hk => ?_
  unfold wideFS at hk
  split at hk
  · rename_i f l g m x y
    refine ⟨by show 4 ≤ _; decide, ?_⟩
    obtain ⟨⟨hf, hg, hx1, hx2, hy1, hy2⟩, hk⟩ := hk
    have mx : min x.toNat IntKind.i64.bits = x.toNat := by simp only [IntKind.bits]; omega
    have my : min y.toNat IntKind.i64.bits = y.toNat := by simp only [IntKind.bits]; omega
    have f1 := near_lo hf x.toNat
    have f2 := near_hi hf x.toNat
    have g1 := near_lo hg y.toNat
    have g2 := near_hi hg y.toNat
    obtain ⟨a1, a2, a3⟩ := hf
    obtain ⟨b1, b2, b3⟩ := hg
    have eF : w64 (w64 (f + (l.length : Nat)) - 1) = f + l.length - 1 := by rw [w64_eq (n := f + (l.length : Nat)) (by omega), w64_eq (by omega)]
    have eG : w64 (w64 (g + (m.length : Nat)) - 1) = g + m.length - 1 := by rw [w64_eq (n := g + (m.length : Nat)) (by omega), w64_eq (by omega)]
    have hF : (w64 (w64 (f + (l.length : Nat)) - 1)).fdiv (2 ^ min x.toNat IntKind.i64.bits) = hiS f l x.toNat := by rw [eF, mx]; rfl
    have hG : (w64 (w64 (g + (m.length : Nat)) - 1)).fdiv (2 ^ min y.toNat IntKind.i64.bits) = hiS g m y.toNat := by rw [eG, my]; rfl
    have lF : f.fdiv (2 ^ min x.toNat IntKind.i64.bits) = shr f x.toNat := by rw [mx]; rfl
    have lG : g.fdiv (2 ^ min y.toNat IntKind.i64.bits) = shr g y.toNat := by rw [my]; rfl
    cases l with
    | nil =>
      cases m with
      | nil =>
        conv => whnf
        exact hk
      | cons b m =>
        conv => whnf
        refine ⟨mixed, [], [], [], by kernel_rfl, ?_⟩
        conv => whnf
        refine ⟨hy1, ?_⟩
        conv => whnf
        refine ⟨hy1, ?_⟩
        conv => whnf
        refine fin hk ?_
        refine congrArg (fun z => SV.u (.c (I64 z))) (?_ : wideV (f, []) (g, b :: m) x.toNat y.toNat = w64 (w64 ((w64 (w64 (g + ((b :: m).length : Nat)) - 1)).fdiv (2 ^ min y.toNat IntKind.i64.bits) - g.fdiv (2 ^ min y.toNat IntKind.i64.bits)) + 1))
        rw [hG, lG, w64_eq (n := hiS g (b :: m) y.toNat - shr g y.toNat) (by omega), w64_eq (by omega)]
        try rfl
    | cons a l =>
      conv => whnf
      refine ⟨mixed, [], [], [], by kernel_rfl, ?_⟩
      conv => whnf
      refine ⟨hx1, ?_⟩
      conv => whnf
      refine ⟨hx1, ?_⟩
      cases m with
      | nil =>
        conv => whnf
        refine fin hk ?_
        refine congrArg (fun z => SV.u (.c (I64 z))) (?_ : wideV (f, a :: l) (g, []) x.toNat y.toNat = w64 (w64 ((w64 (w64 (f + ((a :: l).length : Nat)) - 1)).fdiv (2 ^ min x.toNat IntKind.i64.bits) - f.fdiv (2 ^ min x.toNat IntKind.i64.bits)) + 1))
        rw [hF, lF, w64_eq (n := hiS f (a :: l) x.toNat - shr f x.toNat) (by omega), w64_eq (by omega)]
        try rfl
      | cons b m =>
        conv => whnf
        refine Ask.i (fun c1 => ?_) (fun c1 => ?_)
        · conv => whnf
          refine ⟨mixed, [], [], [], by kernel_rfl, ?_⟩
          conv => whnf
          refine ⟨hy1, ?_⟩
          conv => whnf
          refine ⟨hy1, ?_⟩
          conv => whnf
          refine fin hk ?_
          refine congrArg (fun z => SV.u (.c (I64 z))) (?_ : wideV (f, a :: l) (g, b :: m) x.toNat y.toNat = w64 (w64 (
            (if (w64 (w64 (g + ((b :: m).length : Nat)) - 1)).fdiv (2 ^ min y.toNat IntKind.i64.bits) > (w64 (w64 (f + ((a :: l).length : Nat)) - 1)).fdiv (2 ^ min x.toNat IntKind.i64.bits) then (w64 (w64 (g + ((b :: m).length : Nat)) - 1)).fdiv (2 ^ min y.toNat IntKind.i64.bits) else (w64 (w64 (f + ((a :: l).length : Nat)) - 1)).fdiv (2 ^ min x.toNat IntKind.i64.bits))
            - (if g.fdiv (2 ^ min y.toNat IntKind.i64.bits) < f.fdiv (2 ^ min x.toNat IntKind.i64.bits) then g.fdiv (2 ^ min y.toNat IntKind.i64.bits) else f.fdiv (2 ^ min x.toNat IntKind.i64.bits))) + 1))
          rw [hF, hG, lF, lG]
          have e1 : -1236950581248 ≤ (if hiS g (b :: m) y.toNat > hiS f (a :: l) x.toNat then hiS g (b :: m) y.toNat else hiS f (a :: l) x.toNat) ∧ (if hiS g (b :: m) y.toNat > hiS f (a :: l) x.toNat then hiS g (b :: m) y.toNat else hiS f (a :: l) x.toNat) ≤ 1236950581248 := by split <;> omega
          have e2 : -1236950581248 ≤ (if shr g y.toNat < shr f x.toNat then shr g y.toNat else shr f x.toNat) ∧ (if shr g y.toNat < shr f x.toNat then shr g y.toNat else shr f x.toNat) ≤ 1236950581248 := by split <;> omega
          have e3 : ∀ u v : Int, -1236950581248 ≤ u ∧ u ≤ 1236950581248 → -1236950581248 ≤ v ∧ v ≤ 1236950581248 → u - v + 1 = w64 (w64 (u - v) + 1) := fun u v hu hv => by rw [w64_eq (n := u - v) (by omega), w64_eq (by omega)]
          exact e3 _ _ e1 e2
        · have c1 : ¬ (((b :: m).length : Nat) : Int) > 0 := of_decide_eq_false c1
          simp only [List.length_cons] at c1
          omega
  · exact hk.elim
/-- the search for the shift -/
def shGo (p1 p2 n1 n2 : Int × List Int) (most : Int) : Nat → Int → Int → Int → Nat → Option (Int × Int × Int)
  | 0, _, _, _, _ => none
  | k + 1, x, y, s, d =>
    if most < 1 ∨ most > 320 ∨ (if y > x then y else x) > 31 ∨ (0 < d ∧ s < -10) then none
    else if wideV p1 p2 x.toNat y.toNat ≤ most ∧ wideV n1 n2 x.toNat y.toNat ≤ most then some (x, y, s)
    else shGo p1 p2 n1 n2 most k (x + 1) (y + 1) (s - 1) (d + 1)
def lesser (a b : Int) : Int := if b < a then b else a
def shV (a b : ExpD) (most : Int) : Option (Int × Int × Int) :=
  shGo (sdP a) (sdP b) (sdN a) (sdN b) most 40 (a.scale - lesser a.scale b.scale) (b.scale - lesser a.scale b.scale) (lesser a.scale b.scale) 0
def shiftsS : List U → Out SV
  | [.a la, .a lb, .c (.v (.int .i64 most))] => match asExp la, asExp lb with
    | some a, some b => .need (Fits a ∧ Fits b) (.all (Option (Int × Int × Int)) (fun o => shV a b most = o) ⟨_, rfl⟩ fun o => match o with
      | some r => .ret (.t [.c (I64 r.1), .c (I64 r.2.1), .c (I64 r.2.2), .c nilV])
      | none => .ret (.t [.c (I64 0), .c (I64 0), .c (I64 0), .c (errV 9)]))
    | _, _ => .fail
  | _ => .fail
noncomputable def t4s : List (FuncId × Spec) := [(113, .pure (normG (B []) [44, 44] pairsS)), (139, .pure (normG (B []) [185, 185, 3, 3] wideFS))]
theorem t4s_ok : AllSound (B t4s) G := .cons _ pairs_ok (.cons _ wide_ok noneS)
end Sx
/-! Contracts: the search for the shift. -/
namespace Sx
open Go Go.Proofs
set_option linter.unusedVariables false
set_option maxRecDepth 30000
variable {G : Glob}
theorem trim_near {f : Int} {l : List Int} (h1 : -4294967296 ≤ f ∧ f ≤ 4294967296) (h2 : l.length ≤ 3750) : Near (trim f l).1 (trim f l).2 := by
  have hl := trim_len f l
  rcases trim_spec l f (by omega) (by omega) with ⟨h, _⟩ | ⟨k, m, c, h, _, _, _, hll⟩
  · rw [h]; exact ⟨by decide, by decide, by simp⟩
  · rw [h] at hl ⊢
    have := congrArg List.length hll
    simp only [List.length_append, List.length_replicate] at this
    exact ⟨by simp only; omega, by simp only; omega, by simp only at *; omega⟩
theorem sdP_near {e : ExpD} (h : Fits e) : Near (sdP e).1 (sdP e).2 := by
  obtain ⟨h1, h2, h3, h4, h5, h6, _⟩ := h
  refine trim_near ?_ (Nat.le_trans (side_len _ _) h1)
  cases e.hasP
  · exact ⟨by simp, by simp⟩
  · show -4294967296 ≤ w64 e.offP ∧ w64 e.offP ≤ 4294967296
    rw [w64_eq (by omega)]; omega
theorem sdN_near {e : ExpD} (h : Fits e) : Near (sdN e).1 (sdN e).2 := by
  obtain ⟨h1, h2, h3, h4, h5, h6, _⟩ := h
  refine trim_near ?_ (Nat.le_trans (side_len _ _) h2)
  cases e.hasN
  · exact ⟨by simp, by simp⟩
  · show -4294967296 ≤ w64 e.offN ∧ w64 e.offN ≤ 4294967296
    rw [w64_eq (by omega)]; omega
theorem shifts_ok : Ok G 101 shiftsS := by
  refine okP t4s_ok Tryz.func101 rfl (by decide) fun K us hk => ?_
  unfold shiftsS at hk
  split at hk
  · rename_i la lb most
    split at hk
    · rename_i a b ha hb
      rw [asExp_eq ha, asExp_eq hb]
      refine ⟨by show 3 ≤ _; decide, ?_⟩
      obtain ⟨⟨hA, hB⟩, hk⟩ := hk
      have nP1 := sdP_near hA
      have nP2 := sdP_near hB
      have nN1 := sdN_near hA
      have nN2 := sdN_near hB
      have sA : w64 a.scale = a.scale := w64_eq (by have := hA.2.2.2.2.2.2; omega)
      have sB : w64 b.scale = b.scale := w64_eq (by have := hB.2.2.2.2.2.2; omega)
      have hsA := hA.2.2.2.2.2.2
      have hsB := hB.2.2.2.2.2.2
      conv => whnf
      refine ⟨⟨hA, hB⟩, ?_⟩
      conv => whnf
      refine ⟨mixed, [], [], [], by kernel_rfl, ?_⟩
      conv => whnf
      refine ⟨[], _, _, rfl, Nat × Int × Int × Int, (fun v => ([(2, .u (.c (I64 most))), (10, .u (.c (.p 10 0))), (11, .u (.c (.p 11 0))), (12, .u (.c (I64 v.2.2.2))), (13, .u (.c (I64 v.2.1))), (14, .u (.c (I64 v.2.2.1))), (15, .u (.c (I64 ((40 : Int) - (v.1 : Nat)))))],
          [(10, .cells 191 [I64 (sdP a).1, .d 38 (.ints (sdP a).2), I64 (sdP b).1, .d 38 (.ints (sdP b).2)]), (11, .cells 191 [I64 (sdN a).1, .d 38 (.ints (sdN a).2), I64 (sdN b).1, .d 38 (.ints (sdN b).2)])])),
        (fun v => v.1 ≤ 40 ∧ 0 ≤ v.2.1 ∧ 0 ≤ v.2.2.1 ∧ 40 ≤ v.2.1 + v.1 ∧ v.2.1 ≤ 8589934592 ∧ v.2.2.1 ≤ 8589934592 ∧ -2147483648 - 40 ≤ v.2.2.2 - v.1 ∧ v.2.2.2 ≤ 2147483648 ∧ shGo (sdP a) (sdP b) (sdN a) (sdN b) most v.1 v.2.1 v.2.2.1 v.2.2.2 (40 - v.1) = shV a b most), (fun v => v.1), fun x _ => rfl,
        ⟨(40, a.scale - lesser a.scale b.scale, b.scale - lesser a.scale b.scale, lesser a.scale b.scale), ?_, ⟨rfl, rfl, rfl, ?_, ?_, ?_, rfl, trivial⟩, ⟨rfl, rfl, trivial⟩⟩, ?_⟩
      · have hl : lesser a.scale b.scale ≤ a.scale ∧ lesser a.scale b.scale ≤ b.scale ∧ -2147483648 ≤ lesser a.scale b.scale := by unfold lesser; split <;> omega
        exact ⟨by simp, by simp only; omega, by simp only; omega, by simp only; omega, by simp only; omega, by simp only; omega, by simp only; omega, by simp only; omega, rfl⟩
      · have e : (if w64 b.scale < w64 a.scale then w64 b.scale else w64 a.scale) = lesser a.scale b.scale := by rw [sA, sB]; rfl
        exact congrArg (fun z : Int => some (SV.u (.c (I64 z)))) e
      · have e : w64 (w64 a.scale - (if w64 b.scale < w64 a.scale then w64 b.scale else w64 a.scale)) = a.scale - lesser a.scale b.scale := by
          rw [sA, sB]
          show w64 (a.scale - lesser a.scale b.scale) = _
          rw [w64_eq (by unfold lesser; split <;> omega)]
        exact congrArg (fun z : Int => some (SV.u (.c (I64 z)))) e
      · have e : w64 (w64 b.scale - (if w64 b.scale < w64 a.scale then w64 b.scale else w64 a.scale)) = b.scale - lesser a.scale b.scale := by
          rw [sA, sB]
          show w64 (b.scale - lesser a.scale b.scale) = _
          rw [w64_eq (by unfold lesser; split <;> omega)]
        exact congrArg (fun z : Int => some (SV.u (.c (I64 z)))) e
      rintro ⟨k, x, y, s⟩ ⟨q1, hx, hy, q2, q3, q4, q5, q6, hgo⟩
      simp only at q1 hx hy q2 q3 q4 q5 q6 hgo
      have err : (most < 1 ∨ most > 320 ∨ (if y > x then y else x) > 31 ∨ (0 < 40 - k ∧ s < -10)) → K (.t [.c (I64 0), .c (I64 0), .c (I64 0), .c (errV 9)]) := fun h => hk none (by
        rw [← hgo]
        cases k with
        | zero => rfl
        | succ k => rw [shGo, if_pos h])
      conv => whnf
      refine Ask.i (fun c1 => ?_) (fun c1 => ?_)
      · have c1 : most < 1 := of_decide_eq_true c1
        conv => whnf
        exact err (.inl c1)
      have c1 : ¬ most < 1 := of_decide_eq_false c1
      conv => whnf
      refine Ask.i (fun c2 => ?_) (fun c2 => ?_)
      · have c2 : most > 320 := of_decide_eq_true c2
        conv => whnf
        exact err (.inr (.inl c2))
      have c2 : ¬ most > 320 := of_decide_eq_false c2
      conv => whnf
      refine Ask.i (fun c3 => ?_) (fun c3 => ?_)
      · have c3 : (if y > x then y else x) > 31 := of_decide_eq_true c3
        conv => whnf
        exact err (.inr (.inr (.inl c3)))
      have c3 : ¬ (if y > x then y else x) > 31 := of_decide_eq_false c3
      conv => whnf
      refine Ask.i (fun c4 => ?_) (fun c4 => ?_)
      · have c4 : (40 : Int) - (k : Nat) > 0 := of_decide_eq_true c4
        conv => whnf
        refine Ask.i (fun c5 => ?_) (fun c5 => ?_)
        · have c5 : s < -10 := of_decide_eq_true c5
          conv => whnf
          exact err (.inr (.inr (.inr ⟨by omega, c5⟩)))
        · have c5 : ¬ s < -10 := of_decide_eq_false c5
          have hk1 : 1 ≤ k := by omega
          obtain ⟨k, rfl⟩ : ∃ j, k = j + 1 := ⟨k - 1, by omega⟩
          have hno : ¬ (most < 1 ∨ most > 320 ∨ (if y > x then y else x) > 31 ∨ (0 < 40 - (k + 1) ∧ s < -10)) := by omega
          have hmx : x ≤ 31 ∧ y ≤ 31 := by split at c3 <;> omega
          conv => whnf
          refine ⟨⟨nP1, nP2, hx, hmx.1, hy, hmx.2⟩, ?_⟩
          conv => whnf
          refine Ask.i (fun d1 => ?_) (fun d1 => ?_)
          · have d1 : wideV (sdP a) (sdP b) x.toNat y.toNat ≤ most := of_decide_eq_true d1
            conv => whnf
            refine ⟨⟨nN1, nN2, hx, hmx.1, hy, hmx.2⟩, ?_⟩
            conv => whnf
            refine Ask.i (fun d2 => ?_) (fun d2 => ?_)
            · have d2 : wideV (sdN a) (sdN b) x.toNat y.toNat ≤ most := of_decide_eq_true d2
              rw [shGo, if_neg hno, if_pos ⟨d1, d2⟩] at hgo
              conv => whnf
              exact hk (some (x, y, s)) hgo.symm
            · have d2 : ¬ wideV (sdN a) (sdN b) x.toNat y.toNat ≤ most := of_decide_eq_false d2
              rw [shGo, if_neg hno, if_neg (fun h => d2 h.2)] at hgo
              conv => whnf
              refine ⟨(k, x + 1, y + 1, s - 1), ⟨by simp only; omega, by simp only; omega, by simp only; omega, by simp only; omega, by simp only; omega, by simp only; omega, by simp only; omega, by simp only; omega, ?_⟩, by simp only; omega, ⟨rfl, rfl, rfl, congrArg (fun z : Int => some (SV.u (.c (I64 z)))) (w64_eq (n := s - 1) (by omega)), congrArg (fun z : Int => some (SV.u (.c (I64 z)))) (w64_eq (n := x + 1) (by omega)), congrArg (fun z : Int => some (SV.u (.c (I64 z)))) (w64_eq (n := y + 1) (by omega)), congrArg (fun z : Int => some (SV.u (.c (I64 z)))) ((w64_eq (n := (40 : Int) - ((k + 1 : Nat) : Int) + 1) (by omega)).trans (by omega)), trivial⟩, ⟨rfl, rfl, trivial⟩⟩
              have e40 : 40 - (k + 1) + 1 = 40 - k := by omega
              rw [e40] at hgo
              exact hgo
          · have d1 : ¬ wideV (sdP a) (sdP b) x.toNat y.toNat ≤ most := of_decide_eq_false d1
            rw [shGo, if_neg hno, if_neg (fun h => d1 h.1)] at hgo
            conv => whnf
            refine ⟨(k, x + 1, y + 1, s - 1), ⟨by simp only; omega, by simp only; omega, by simp only; omega, by simp only; omega, by simp only; omega, by simp only; omega, by simp only; omega, by simp only; omega, ?_⟩, by simp only; omega, ⟨rfl, rfl, rfl, congrArg (fun z : Int => some (SV.u (.c (I64 z)))) (w64_eq (n := s - 1) (by omega)), congrArg (fun z : Int => some (SV.u (.c (I64 z)))) (w64_eq (n := x + 1) (by omega)), congrArg (fun z : Int => some (SV.u (.c (I64 z)))) (w64_eq (n := y + 1) (by omega)), congrArg (fun z : Int => some (SV.u (.c (I64 z)))) ((w64_eq (n := (40 : Int) - ((k + 1 : Nat) : Int) + 1) (by omega)).trans (by omega)), trivial⟩, ⟨rfl, rfl, trivial⟩⟩
            have e40 : 40 - (k + 1) + 1 = 40 - k := by omega
            rw [e40] at hgo
            exact hgo
      · have c4 : ¬ (40 : Int) - (k : Nat) > 0 := of_decide_eq_false c4
        have hk1 : 1 ≤ k := by omega
        obtain ⟨k, rfl⟩ : ∃ j, k = j + 1 := ⟨k - 1, by omega⟩
        have hno : ¬ (most < 1 ∨ most > 320 ∨ (if y > x then y else x) > 31 ∨ (0 < 40 - (k + 1) ∧ s < -10)) := by omega
        have hmx : x ≤ 31 ∧ y ≤ 31 := by split at c3 <;> omega
        conv => whnf
        refine ⟨⟨nP1, nP2, hx, hmx.1, hy, hmx.2⟩, ?_⟩
        conv => whnf
        refine Ask.i (fun d1 => ?_) (fun d1 => ?_)
        · have d1 : wideV (sdP a) (sdP b) x.toNat y.toNat ≤ most := of_decide_eq_true d1
          conv => whnf
          refine ⟨⟨nN1, nN2, hx, hmx.1, hy, hmx.2⟩, ?_⟩
          conv => whnf
          refine Ask.i (fun d2 => ?_) (fun d2 => ?_)
          · have d2 : wideV (sdN a) (sdN b) x.toNat y.toNat ≤ most := of_decide_eq_true d2
            rw [shGo, if_neg hno, if_pos ⟨d1, d2⟩] at hgo
            conv => whnf
            exact hk (some (x, y, s)) hgo.symm
          · have d2 : ¬ wideV (sdN a) (sdN b) x.toNat y.toNat ≤ most := of_decide_eq_false d2
            rw [shGo, if_neg hno, if_neg (fun h => d2 h.2)] at hgo
            conv => whnf
            refine ⟨(k, x + 1, y + 1, s - 1), ⟨by simp only; omega, by simp only; omega, by simp only; omega, by simp only; omega, by simp only; omega, by simp only; omega, by simp only; omega, by simp only; omega, ?_⟩, by simp only; omega, ⟨rfl, rfl, rfl, congrArg (fun z : Int => some (SV.u (.c (I64 z)))) (w64_eq (n := s - 1) (by omega)), congrArg (fun z : Int => some (SV.u (.c (I64 z)))) (w64_eq (n := x + 1) (by omega)), congrArg (fun z : Int => some (SV.u (.c (I64 z)))) (w64_eq (n := y + 1) (by omega)), congrArg (fun z : Int => some (SV.u (.c (I64 z)))) ((w64_eq (n := (40 : Int) - ((k + 1 : Nat) : Int) + 1) (by omega)).trans (by omega)), trivial⟩, ⟨rfl, rfl, trivial⟩⟩
            have e40 : 40 - (k + 1) + 1 = 40 - k := by omega
            rw [e40] at hgo
            exact hgo
        · have d1 : ¬ wideV (sdP a) (sdP b) x.toNat y.toNat ≤ most := of_decide_eq_false d1
          rw [shGo, if_neg hno, if_neg (fun h => d1 h.1)] at hgo
          conv => whnf
          refine ⟨(k, x + 1, y + 1, s - 1), ⟨by simp only; omega, by simp only; omega, by simp only; omega, by simp only; omega, by simp only; omega, by simp only; omega, by simp only; omega, by simp only; omega, ?_⟩, by simp only; omega, ⟨rfl, rfl, rfl, congrArg (fun z : Int => some (SV.u (.c (I64 z)))) (w64_eq (n := s - 1) (by omega)), congrArg (fun z : Int => some (SV.u (.c (I64 z)))) (w64_eq (n := x + 1) (by omega)), congrArg (fun z : Int => some (SV.u (.c (I64 z)))) (w64_eq (n := y + 1) (by omega)), congrArg (fun z : Int => some (SV.u (.c (I64 z)))) ((w64_eq (n := (40 : Int) - ((k + 1 : Nat) : Int) + 1) (by omega)).trans (by omega)), trivial⟩, ⟨rfl, rfl, trivial⟩⟩
          have e40 : 40 - (k + 1) + 1 = 40 - k := by omega
          rw [e40] at hgo
          exact hgo
    · exact hk.elim
  · exact hk.elim
end Sx
/-! Contracts: twins. -/
namespace Sx
open Go Go.Proofs
set_option linter.unusedVariables false
set_option maxRecDepth 30000
variable {G : Glob}
def cloneS : List U → Out SV
  | [.c (.d 38 (.ints l))] => .need (l.length ≤ 68719476736) (.ret (.u (.c (.d 38 (.ints l)))))
  | _ => .fail
theorem clone_ok : Ok G 100 cloneS := by
  refine okP noneS Tryz.func100 rfl (by decide) fun K us hk => ?_
  unfold cloneS at hk
  split at hk
  · rename_i l
    refine ⟨by show 1 ≤ _; decide, ?_⟩
    obtain ⟨hl, hk⟩ := hk
    conv => whnf
    intro b hb
    cases b
    · conv => whnf
      refine ⟨by show l.length ≤ 274877906944; omega, ?_⟩
      conv => whnf
      exact hk
    · have : l = [] := List.length_eq_zero_iff.1 (hb rfl)
      subst this
      conv => whnf
      exact hk
  · exact hk.elim
/-- no deeper than that -/
inductive Dp : Nat → D → Prop
  | int {k : Nat} {n : Int} : Dp k (.int n)
  | bool {k : Nat} {b : Bool} : Dp k (.bool b)
  | str {k : Nat} {s : ByteArray} : Dp k (.str s)
  | ints {k : Nat} {l : List Int} : Dp k (.ints l)
  | rows {k : Nat} {l : List (List D)} (h : l.length ≤ 30000) (hd : ∀ r ∈ l, ∀ d ∈ r, Dp k d) : Dp (k + 1) (.rows l)
theorem Dp.mono {k : Nat} {d : D} (h : Dp k d) : ∀ {m : Nat}, k ≤ m → Dp m d := by
  induction h with
  | int => intro m _; exact .int
  | bool => intro m _; exact .bool
  | str => intro m _; exact .str
  | ints => intro m _; exact .ints
  | rows h hd ih =>
    intro m hm
    cases m with
    | zero => omega
    | succ m => exact .rows h fun r hr d hd' => ih r hr d hd' (by omega)
/-- what is small has a depth -/
theorem Small.dp {d : D} (h : Small d) : ∃ k, Dp k d := by
  induction h with
  | int => exact ⟨0, .int⟩
  | bool => exact ⟨0, .bool⟩
  | str => exact ⟨0, .str⟩
  | ints => exact ⟨0, .ints⟩
  | @rows l h hd ih =>
    have one : ∀ r : List D, (∀ d ∈ r, ∃ k, Dp k d) → ∃ k, ∀ d ∈ r, Dp k d := by
      intro r
      induction r with
      | nil => intro _; exact ⟨0, fun d hd => by cases hd⟩
      | cons a r ih2 =>
        intro h2
        obtain ⟨k1, e1⟩ := h2 a (List.mem_cons_self ..)
        obtain ⟨k2, e2⟩ := ih2 fun d hd => h2 d (List.mem_cons_of_mem _ hd)
        refine ⟨max k1 k2, fun d hd => ?_⟩
        rcases List.mem_cons.1 hd with rfl | hd
        · exact e1.mono (by omega)
        · exact (e2 d hd).mono (by omega)
    have all : ∀ l : List (List D), (∀ r ∈ l, ∀ d ∈ r, ∃ k, Dp k d) → ∃ k, ∀ r ∈ l, ∀ d ∈ r, Dp k d := by
      intro l
      induction l with
      | nil => intro _; exact ⟨0, fun r hr => by cases hr⟩
      | cons a l ih2 =>
        intro h2
        obtain ⟨k1, e1⟩ := one a (h2 a (List.mem_cons_self ..))
        obtain ⟨k2, e2⟩ := ih2 fun r hr => h2 r (List.mem_cons_of_mem _ hr)
        refine ⟨max k1 k2, fun r hr d hd => ?_⟩
        rcases List.mem_cons.1 hr with rfl | hr
        · exact (e1 d hd).mono (by omega)
        · exact (e2 r hr d hd).mono (by omega)
    obtain ⟨k, hk⟩ := all l ih
    exact ⟨k + 1, .rows h hk⟩
theorem Dp.sl {k : Nat} {l : List (List D)} (h : Dp k (.rows l)) : ∃ m, k = m + 1 ∧ l.length ≤ 30000 ∧ ∀ r ∈ l, ∀ d ∈ r, Dp m d := by
  cases h with
  | rows h hd => exact ⟨_, rfl, h, hd⟩
theorem Dp.cell {k : Nat} {row : List D} (h : ∀ d ∈ row, Dp k d) {j : Nat} (hj : j < row.length) : Dp k (cellD row j) := by
  have e : cellD row j = row[j] := by simp [cellD, List.getD, hj]
  rw [e]
  exact h _ (List.getElem_mem hj)
theorem list11 {row : List D} (h : row.length = 11) : row = [cellD row 0, cellD row 1, cellD row 2, cellD row 3, cellD row 4, cellD row 5, cellD row 6, cellD row 7, cellD row 8, cellD row 9, cellD row 10] := by
  match row, h with
  | [a, b, c, d, e, f, g, i, j, k, l], _ => rfl
theorem list8 {row : List D} (h : row.length = 8) : row = [cellD row 0, cellD row 1, cellD row 2, cellD row 3, cellD row 4, cellD row 5, cellD row 6, cellD row 7] := by
  match row, h with
  | [a, b, c, d, e, f, g, i], _ => rfl
theorem list7 {row : List D} (h : row.length = 7) : row = [cellD row 0, cellD row 1, cellD row 2, cellD row 3, cellD row 4, cellD row 5, cellD row 6] := by
  match row, h with
  | [a, b, c, d, e, f, g], _ => rfl
theorem Typ.eInt {T : Tab} {k : IntKind} {d : D} (h : Typ T (.int k) d) : .int d.toInt = d := by cases h; rfl
theorem Typ.eBool {T : Tab} {d : D} (h : Typ T .bool d) : .bool d.toBool = d := by cases h; rfl
theorem Typ.eStr {T : Tab} {d : D} (h : Typ T .str d) : .str d.toStr = d := by cases h; rfl
end Sx
/-! Contracts: twins of values, of attributes. -/
namespace Sx
open Go Go.Proofs
set_option linter.unusedVariables false
set_option maxRecDepth 30000
variable {G : Glob}
def VGood (k : Nat) (x m : D) : Prop := Typ TB (.sl 161) x ∧ Dp k x ∧ Typ TB (.sl 30) m ∧ Dp k m
def valS (k : Nat) : List U → Out SV
  | [.a [.v (.int .i64 kd), .v (.string s), .v (.bool b), .v (.int .u64 n), .d 161 x, .d 30 m, .v (.string i), .v (.string u)]] => .need (VGood k x m) (agg [I64 kd, St s, Bo b, U64 n, .d 161 x, .d 30 m, St i, St u])
  | _ => .fail
def keyS (k : Nat) : List U → Out SV
  | [.a [.v (.string ky), .v (.bool h), .v (.int .i64 kd), .v (.string s), .v (.bool b), .v (.int .u64 n), .d 161 x, .d 30 m, .v (.string i), .v (.string u), .v (.string w)]] => .need (VGood k x m) (agg [St ky, Bo h, I64 kd, St s, Bo b, U64 n, .d 161 x, .d 30 m, St i, St u, St w])
  | _ => .fail
def eachVS (k : Nat) : List U → Out SV
  | [.c (.d 161 x), .c (.v (.func (.func 171) p q))] => bif p.isEmpty && q.isEmpty then .need (Typ TB (.sl 161) x ∧ Dp k x) (.ret (.u (.c (.d 161 x)))) else .fail
  | _ => .fail
theorem eachV_ok (k : Nat) (hF : ∀ m, k = m + 1 → Ok G 171 (valS m)) : Ok G 186 (eachVS k) := by
  cases k with
  | zero =>
    refine okP noneS Tryz.func186 rfl (by decide) fun K us hk => ?_
    unfold eachVS at hk
    split at hk
    · obtain ⟨_, ⟨h1, h2⟩, _⟩ := wp_cond_fail hk
      obtain ⟨l, rfl, _⟩ := h1.sl rfl
      obtain ⟨m, h, _⟩ := h2.sl
      cases h
    · exact hk.elim
  | succ m =>
    have hS : AllSound (B [(171, .pure (normG (B []) [163] (valS m)))]) G := .cons _ (hF m rfl) noneS
    refine okP hS Tryz.func186 rfl (by decide) fun K us hk => ?_
    unfold eachVS at hk
    split at hk
    · rename_i x p q
      refine ⟨by show 2 ≤ _; decide, ?_⟩
      obtain ⟨hpq, ⟨hT, hDp⟩, hk2⟩ := wp_cond_fail hk
      simp only [Bool.and_eq_true, Array.isEmpty_iff] at hpq
      obtain ⟨rfl, rfl⟩ := hpq
      obtain ⟨l, rfl, hl, hrow⟩ := hT.sl rfl
      obtain ⟨m', hm', hlen, hdp⟩ := hDp.sl
      obtain rfl : m = m' := by omega
      conv => whnf
      refine ⟨[(5, 19, 161)], _, _, rfl, Nat, (fun i => ([(1, .u (.c (.v (.func (.func 171) #[] #[])))), (5, .u (.c (.r 19 161))), (8, .u (.c (.d 161 (.rows l)))), (9, .u (.c (I64 (l.length : Nat)))), (10, .u (.c (I64 (i : Nat))))], [(19, .row 161 (.rows (l.take i)))])),
        (fun i => i ≤ l.length), (fun i => l.length - i), fun x _ => rfl, ⟨0, Nat.zero_le _, ⟨rfl, rfl, rfl, rfl, rfl, trivial⟩, ⟨rfl, trivial⟩⟩, ?_⟩
      intro i hi0
      conv => whnf
      refine Ask.i (fun c1 => ?_) (fun c1 => ?_)
      · have c1 : (i : Int) < ((l.length : Nat) : Int) := of_decide_eq_true c1
        have hi : i < l.length := by omega
        have hR := hrow _ (getD_mem (a := []) hi)
        have hD := hdp _ (getD_mem (a := []) hi)
        have hl8 : (l.getD i []).length = 8 := hR.1
        conv => whnf
        refine ⟨⟨by omega, c1⟩, ?_⟩
        conv => whnf
        refine ⟨⟨hR.2 4 _ rfl, Dp.cell hD (by rw [hl8]; decide), hR.2 5 _ rfl, Dp.cell hD (by rw [hl8]; decide)⟩, ?_⟩
        conv => whnf
        refine ⟨by show (l.take i).length + 1 ≤ 274877906944; simp; omega, ?_⟩
        conv => whnf
        have e : l.take i ++ [[.int (cellD (l.getD i []) 0).toInt, .str (cellD (l.getD i []) 1).toStr, .bool (cellD (l.getD i []) 2).toBool, .int (cellD (l.getD i []) 3).toInt, cellD (l.getD i []) 4, cellD (l.getD i []) 5, .str (cellD (l.getD i []) 6).toStr, .str (cellD (l.getD i []) 7).toStr]] = l.take (i + 1) := by
          rw [List.take_succ_eq_append_getElem hi, ← getD_get (a := []) hi]
          refine congrArg (fun z => l.take i ++ [z]) ?_
          rw [(hR.2 0 _ rfl).eInt, (hR.2 1 _ rfl).eStr, (hR.2 2 _ rfl).eBool, (hR.2 3 _ rfl).eInt, (hR.2 6 _ rfl).eStr, (hR.2 7 _ rfl).eStr]
          exact (list8 hl8).symm
        refine ⟨i + 1, hi, by show l.length - (i + 1) < l.length - i; omega, ⟨rfl, rfl, rfl, rfl, congrArg (fun z : Int => some (SV.u (.c (I64 z)))) (w64_eq (n := (i : Int) + 1) (by omega)), trivial⟩, ⟨congrArg (fun z => some (Blk.row 161 (.rows z))) e, trivial⟩⟩
      · have c1 : ¬ (i : Int) < ((l.length : Nat) : Int) := of_decide_eq_false c1
        have hi : i = l.length := by omega
        conv => whnf
        refine fin hk2 ?_
        exact congrArg (fun z => SV.u (.c (.d 161 (.rows z)))) (by rw [hi, List.take_length] : l = l.take i)
    · exact hk.elim
def eachKS (k : Nat) : List U → Out SV
  | [.c (.d 30 x), .c (.v (.func (.func 138) p q))] => bif p.isEmpty && q.isEmpty then .need (Typ TB (.sl 30) x ∧ Dp k x) (.ret (.u (.c (.d 30 x)))) else .fail
  | _ => .fail
theorem eachK_ok (k : Nat) (hF : ∀ m, k = m + 1 → Ok G 138 (keyS m)) : Ok G 137 (eachKS k) := by
  cases k with
  | zero =>
    refine okP noneS Tryz.func137 rfl (by decide) fun K us hk => ?_
    unfold eachKS at hk
    split at hk
    · obtain ⟨_, ⟨h1, h2⟩, _⟩ := wp_cond_fail hk
      obtain ⟨l, rfl, _⟩ := h1.sl rfl
      obtain ⟨m, h, _⟩ := h2.sl
      cases h
    · exact hk.elim
  | succ m =>
    have hS : AllSound (B [(138, .pure (normG (B []) [165] (keyS m)))]) G := .cons _ (hF m rfl) noneS
    refine okP hS Tryz.func137 rfl (by decide) fun K us hk => ?_
    unfold eachKS at hk
    split at hk
    · rename_i x p q
      refine ⟨by show 2 ≤ _; decide, ?_⟩
      obtain ⟨hpq, ⟨hT, hDp⟩, hk2⟩ := wp_cond_fail hk
      simp only [Bool.and_eq_true, Array.isEmpty_iff] at hpq
      obtain ⟨rfl, rfl⟩ := hpq
      obtain ⟨l, rfl, hl, hrow⟩ := hT.sl rfl
      obtain ⟨m', hm', hlen, hdp⟩ := hDp.sl
      obtain rfl : m = m' := by omega
      conv => whnf
      refine ⟨[(5, 19, 30)], _, _, rfl, Nat, (fun i => ([(1, .u (.c (.v (.func (.func 138) #[] #[])))), (5, .u (.c (.r 19 30))), (8, .u (.c (.d 30 (.rows l)))), (9, .u (.c (I64 (l.length : Nat)))), (10, .u (.c (I64 (i : Nat))))], [(19, .row 30 (.rows (l.take i)))])),
        (fun i => i ≤ l.length), (fun i => l.length - i), fun x _ => rfl, ⟨0, Nat.zero_le _, ⟨rfl, rfl, rfl, rfl, rfl, trivial⟩, ⟨rfl, trivial⟩⟩, ?_⟩
      intro i hi0
      conv => whnf
      refine Ask.i (fun c1 => ?_) (fun c1 => ?_)
      · have c1 : (i : Int) < ((l.length : Nat) : Int) := of_decide_eq_true c1
        have hi : i < l.length := by omega
        have hR := hrow _ (getD_mem (a := []) hi)
        have hD := hdp _ (getD_mem (a := []) hi)
        have hl8 : (l.getD i []).length = 11 := hR.1
        conv => whnf
        refine ⟨⟨by omega, c1⟩, ?_⟩
        conv => whnf
        refine ⟨⟨hR.2 6 _ rfl, Dp.cell hD (by rw [hl8]; decide), hR.2 7 _ rfl, Dp.cell hD (by rw [hl8]; decide)⟩, ?_⟩
        conv => whnf
        refine ⟨by show (l.take i).length + 1 ≤ 274877906944; simp; omega, ?_⟩
        conv => whnf
        have e : l.take i ++ [[.str (cellD (l.getD i []) 0).toStr, .bool (cellD (l.getD i []) 1).toBool, .int (cellD (l.getD i []) 2).toInt, .str (cellD (l.getD i []) 3).toStr, .bool (cellD (l.getD i []) 4).toBool, .int (cellD (l.getD i []) 5).toInt, cellD (l.getD i []) 6, cellD (l.getD i []) 7, .str (cellD (l.getD i []) 8).toStr, .str (cellD (l.getD i []) 9).toStr, .str (cellD (l.getD i []) 10).toStr]] = l.take (i + 1) := by
          rw [List.take_succ_eq_append_getElem hi, ← getD_get (a := []) hi]
          refine congrArg (fun z => l.take i ++ [z]) ?_
          rw [(hR.2 0 _ rfl).eStr, (hR.2 1 _ rfl).eBool, (hR.2 2 _ rfl).eInt, (hR.2 3 _ rfl).eStr, (hR.2 4 _ rfl).eBool, (hR.2 5 _ rfl).eInt, (hR.2 8 _ rfl).eStr, (hR.2 9 _ rfl).eStr, (hR.2 10 _ rfl).eStr]
          exact (list11 hl8).symm
        refine ⟨i + 1, hi, by show l.length - (i + 1) < l.length - i; omega, ⟨rfl, rfl, rfl, rfl, congrArg (fun z : Int => some (SV.u (.c (I64 z)))) (w64_eq (n := (i : Int) + 1) (by omega)), trivial⟩, ⟨congrArg (fun z => some (Blk.row 30 (.rows z))) e, trivial⟩⟩
      · have c1 : ¬ (i : Int) < ((l.length : Nat) : Int) := of_decide_eq_false c1
        have hi : i = l.length := by omega
        conv => whnf
        refine fin hk2 ?_
        exact congrArg (fun z => SV.u (.c (.d 30 (.rows z)))) (by rw [hi, List.take_length] : l = l.take i)
    · exact hk.elim
end Sx
/-! Contracts: twins of values, closed. -/
namespace Sx
open Go Go.Proofs
set_option linter.unusedVariables false
set_option maxRecDepth 30000
variable {G : Glob}
def keysS (k : Nat) : List U → Out SV
  | [.c (.d 30 x)] => .need (Typ TB (.sl 30) x ∧ Dp k x) (.ret (.u (.c (.d 30 x))))
  | _ => .fail
theorem key_ok {k : Nat} (hV : Ok G 171 (valS k)) : Ok G 138 (keyS k) := by
  have hS : AllSound (B [(171, .pure (normG (B []) [163] (valS k)))]) G := .cons _ hV noneS
  refine okP hS Tryz.func138 rfl (by decide) fun K us hk => ?_
  unfold keyS at hk
  split at hk
  · rename_i ky h kd s b n x m i u w
    refine ⟨by show 1 ≤ _; decide, ?_⟩
    obtain ⟨hg, hk⟩ := hk
    conv => whnf
    refine ⟨hg, ?_⟩
    conv => whnf
    exact hk
  · exact hk.elim
theorem keys_ok {k : Nat} (hE : Ok G 137 (eachKS k)) : Ok G 97 (keysS k) := by
  have hS : AllSound (B [(137, .pure (normG (B []) [30, 226] (eachKS k)))]) G := .cons _ hE noneS
  refine okP hS Tryz.func97 rfl (by decide) fun K us hk => ?_
  unfold keysS at hk
  split at hk
  · rename_i x
    refine ⟨by show 1 ≤ _; decide, ?_⟩
    obtain ⟨hg, hk⟩ := hk
    conv => whnf
    refine ⟨hg, ?_⟩
    conv => whnf
    exact hk
  · exact hk.elim
theorem val_ok {k : Nat} (hE : Ok G 186 (eachVS k)) (hK : Ok G 97 (keysS k)) : Ok G 171 (valS k) := by
  have hS : AllSound (B [(186, .pure (normG (B []) [161, 252] (eachVS k))), (97, .pure (normG (B []) [30] (keysS k)))]) G := .cons _ hE (.cons _ hK noneS)
  refine okP hS Tryz.func171 rfl (by decide) fun K us hk => ?_
  unfold valS at hk
  split at hk
  · rename_i kd s b n x m i u
    refine ⟨by show 1 ≤ _; decide, ?_⟩
    obtain ⟨⟨h1, h2, h3, h4⟩, hk⟩ := hk
    conv => whnf
    refine ⟨mixed, [(7, [1]), (9, [1])], [(1, []), (2, [1]), (4, []), (5, [1])], [], by kernel_rfl, ?_⟩
    conv => whnf
    refine ⟨⟨h1, h2⟩, ?_⟩
    conv => whnf
    refine ⟨⟨h3, h4⟩, ?_⟩
    conv => whnf
    exact hk
  · exact hk.elim
theorem val_all : ∀ k : Nat, Ok G 171 (valS k)
  | 0 => val_ok (eachV_ok 0 fun m h => by omega) (keys_ok (eachK_ok 0 fun m h => by omega))
  | k + 1 => val_ok (eachV_ok (k + 1) fun m h => by cases h; exact val_all k) (keys_ok (eachK_ok (k + 1) fun m h => by cases h; exact key_ok (val_all k)))
theorem keys_all (k : Nat) : Ok G 97 (keysS k) := keys_ok (eachK_ok k fun m h => key_ok (val_all m))
end Sx
/-! Contracts: twins of exemplars, of points; both sides laid. -/
namespace Sx
open Go Go.Proofs
set_option linter.unusedVariables false
set_option maxRecDepth 30000
variable {G : Glob}
def exS (k : Nat) : List U → Out SV
  | [.a [.d 30 m, .v (.int .u64 t), .v (.int .i64 kd), .v (.int .u64 n), .v (.string s), .v (.string tr), .v (.string u)]] => .need (Typ TB (.sl 30) m ∧ Dp k m) (agg [.d 30 m, U64 t, I64 kd, U64 n, St s, St tr, St u])
  | _ => .fail
theorem ex_ok {k : Nat} : Ok G 99 (exS k) := by
  have hS : AllSound (B [(97, .pure (normG (B []) [30] (keysS k)))]) G := .cons _ (keys_all k) noneS
  refine okP hS Tryz.func99 rfl (by decide) fun K us hk => ?_
  unfold exS at hk
  split at hk
  · rename_i m t kd n s tr u
    refine ⟨by show 1 ≤ _; decide, ?_⟩
    obtain ⟨hg, hk⟩ := hk
    conv => whnf
    refine ⟨hg, ?_⟩
    conv => whnf
    exact hk
  · exact hk.elim
def eachXS (k : Nat) : List U → Out SV
  | [.c (.d 32 x), .c (.v (.func (.func 99) p q))] => bif p.isEmpty && q.isEmpty then .need (Typ TB (.sl 32) x ∧ Dp k x) (.ret (.u (.c (.d 32 x)))) else .fail
  | _ => .fail
theorem eachX_ok (k : Nat) (hF : ∀ m, k = m + 1 → Ok G 99 (exS m)) : Ok G 98 (eachXS k) := by
  cases k with
  | zero =>
    refine okP noneS Tryz.func98 rfl (by decide) fun K us hk => ?_
    unfold eachXS at hk
    split at hk
    · obtain ⟨_, ⟨h1, h2⟩, _⟩ := wp_cond_fail hk
      obtain ⟨l, rfl, _⟩ := h1.sl rfl
      obtain ⟨m, h, _⟩ := h2.sl
      cases h
    · exact hk.elim
  | succ m =>
    have hS : AllSound (B [(99, .pure (normG (B []) [160] (exS m)))]) G := .cons _ (hF m rfl) noneS
    refine okP hS Tryz.func98 rfl (by decide) fun K us hk => ?_
    unfold eachXS at hk
    split at hk
    · rename_i x p q
      refine ⟨by show 2 ≤ _; decide, ?_⟩
      obtain ⟨hpq, ⟨hT, hDp⟩, hk2⟩ := wp_cond_fail hk
      simp only [Bool.and_eq_true, Array.isEmpty_iff] at hpq
      obtain ⟨rfl, rfl⟩ := hpq
      obtain ⟨l, rfl, hl, hrow⟩ := hT.sl rfl
      obtain ⟨m', hm', hlen, hdp⟩ := hDp.sl
      obtain rfl : m = m' := by omega
      conv => whnf
      refine ⟨[(5, 19, 32)], _, _, rfl, Nat, (fun i => ([(1, .u (.c (.v (.func (.func 99) #[] #[])))), (5, .u (.c (.r 19 32))), (8, .u (.c (.d 32 (.rows l)))), (9, .u (.c (I64 (l.length : Nat)))), (10, .u (.c (I64 (i : Nat))))], [(19, .row 32 (.rows (l.take i)))])),
        (fun i => i ≤ l.length), (fun i => l.length - i), fun x _ => rfl, ⟨0, Nat.zero_le _, ⟨rfl, rfl, rfl, rfl, rfl, trivial⟩, ⟨rfl, trivial⟩⟩, ?_⟩
      intro i hi0
      conv => whnf
      refine Ask.i (fun c1 => ?_) (fun c1 => ?_)
      · have c1 : (i : Int) < ((l.length : Nat) : Int) := of_decide_eq_true c1
        have hi : i < l.length := by omega
        have hR := hrow _ (getD_mem (a := []) hi)
        have hD := hdp _ (getD_mem (a := []) hi)
        have hl8 : (l.getD i []).length = 7 := hR.1
        conv => whnf
        refine ⟨⟨by omega, c1⟩, ?_⟩
        conv => whnf
        refine ⟨⟨hR.2 0 _ rfl, Dp.cell hD (by rw [hl8]; decide)⟩, ?_⟩
        conv => whnf
        refine ⟨by show (l.take i).length + 1 ≤ 274877906944; simp; omega, ?_⟩
        conv => whnf
        have e : l.take i ++ [[cellD (l.getD i []) 0, .int (cellD (l.getD i []) 1).toInt, .int (cellD (l.getD i []) 2).toInt, .int (cellD (l.getD i []) 3).toInt, .str (cellD (l.getD i []) 4).toStr, .str (cellD (l.getD i []) 5).toStr, .str (cellD (l.getD i []) 6).toStr]] = l.take (i + 1) := by
          rw [List.take_succ_eq_append_getElem hi, ← getD_get (a := []) hi]
          refine congrArg (fun z => l.take i ++ [z]) ?_
          rw [(hR.2 1 _ rfl).eInt, (hR.2 2 _ rfl).eInt, (hR.2 3 _ rfl).eInt, (hR.2 4 _ rfl).eStr, (hR.2 5 _ rfl).eStr, (hR.2 6 _ rfl).eStr]
          exact (list7 hl8).symm
        refine ⟨i + 1, hi, by show l.length - (i + 1) < l.length - i; omega, ⟨rfl, rfl, rfl, rfl, congrArg (fun z : Int => some (SV.u (.c (I64 z)))) (w64_eq (n := (i : Int) + 1) (by omega)), trivial⟩, ⟨congrArg (fun z => some (Blk.row 32 (.rows z))) e, trivial⟩⟩
      · have c1 : ¬ (i : Int) < ((l.length : Nat) : Int) := of_decide_eq_false c1
        have hi : i = l.length := by omega
        conv => whnf
        refine fin hk2 ?_
        exact congrArg (fun z => SV.u (.c (.d 32 (.rows z)))) (by rw [hi, List.take_length] : l = l.take i)
    · exact hk.elim
def twS (k : Nat) : List U → Out SV
  | [.a l] => match asExp l with
    | some e => .need (Typ TB (.sl 30) e.attrs ∧ Dp k e.attrs ∧ Typ TB (.sl 32) e.ex ∧ Dp k e.ex ∧ e.cP.length ≤ 3750 ∧ e.cN.length ≤ 3750) (agg e.cells)
    | none => .fail
  | _ => .fail
theorem twExp_ok {k : Nat} : Ok G 64 (twS k) := by
  have hS : AllSound (B [(97, .pure (normG (B []) [30] (keysS k))), (98, .pure (normG (B []) [32, 176] (eachXS k))), (100, .pure (normG (B []) [38] cloneS))]) G := .cons _ (keys_all k) (.cons _ (eachX_ok k fun m _ => ex_ok) (.cons _ clone_ok noneS))
  refine okP hS Tryz.func64 rfl (by decide) fun K us hk => ?_
  unfold twS at hk
  split at hk
  · rename_i l
    split at hk
    · rename_i e he
      rw [asExp_eq he]
      refine ⟨by show 1 ≤ _; decide, ?_⟩
      obtain ⟨⟨h1, h2, h3, h4, h5, h6⟩, hk⟩ := hk
      conv => whnf
      refine ⟨mixed, [(7, [1]), (9, [1])], [(1, []), (2, []), (4, []), (5, [])], [], by kernel_rfl, ?_⟩
      conv => whnf
      refine ⟨⟨h1, h2⟩, ?_⟩
      conv => whnf
      refine ⟨⟨h3, h4⟩, ?_⟩
      conv => whnf
      refine ⟨mixed, [(10, [1]), (13, [1])], [(2, []), (3, []), (6, []), (7, [])], [], by kernel_rfl, ?_⟩
      conv => whnf
      refine ⟨by show e.cP.length ≤ 68719476736; omega, ?_⟩
      conv => whnf
      refine ⟨by show e.cN.length ≤ 68719476736; omega, ?_⟩
      conv => whnf
      exact hk
    · exact hk.elim
  · exact hk.elim
end Sx
