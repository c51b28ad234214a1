/- Part of the proof: a machine of states for walks, and contracts of functions over it. Conditions: those that each theorem names. -/
import Derived.Test.YtcmghblegllmlaaGreatDoorDbl2
import Derived.Test.YtcmghblegllmlaaGreatDoorCon6
set_option linter.unusedVariables false
set_option linter.unusedSimpArgs false
/-! Contracts: the reference's sides: where they end, how wide they are. -/
namespace Sx
open Go Go.Proofs
set_option linter.unusedVariables false
set_option linter.unusedSimpArgs false
set_option maxRecDepth 30000
variable {G : Glob}
def InB (f : Int) (l : List Int) : Prop := -2147483648 ≤ f ∧ f < 2147483648 ∧ l.length ≤ 1500
def InS (b : Int) : Prop := 0 ≤ b ∧ b ≤ 31
def sideRT : List U → Out SV
  | [.c (.v (.bool h)), .a [.v (.int .i32 f), .d 26 (.ints l), .v (.string s)]] => agg [I32 (bif h then f else 0), .d 26 (.ints (bif h then l else [])), St (bif h then s else nos)]
  | _ => .fail
theorem sideR_ex : Ok G 52 sideRT := by
  refine okP noneS Tryz.func52 rfl (by decide) fun K us hk => ?_
  unfold sideRT at hk
  split at hk
  · rename_i h f l s
    refine ⟨by show 2 ≤ _; decide, ?_⟩
    conv => whnf
    refine Ask.i (fun c => ?_) (fun c => ?_)
    · have c : (!h) = true := c
      obtain rfl : h = false := by simpa using c
      conv => whnf
      exact hk
    · have c : (!h) = false := c
      obtain rfl : h = true := by simpa using c
      conv => whnf
      exact hk
  · exact hk.elim
def atX (f b : Int) (i : Nat) : Int := (w64 (w64 f + (i : Int))).fdiv (2 ^ min (x64 b).toNat IntKind.i64.bits)
theorem atX_eq {f b : Int} {i : Nat} (hf : -2147483648 ≤ f ∧ f < 2147483648) (hi : i ≤ 1500) (hb : InS b) : atX f b i = shr (f + i) b.toNat := by
  obtain ⟨h1, h2⟩ := hb
  have e : x64 b = b := x64_eq (by omega)
  have m : min b.toNat IntKind.i64.bits = b.toNat := by simp only [IntKind.bits]; omega
  unfold atX shr
  rw [e, m, w64_eq (n := f) (by omega), w64_eq (by omega)]
def endsGo (f : Int) (n : Nat) : Nat → List Int → Int × Int × Bool → Int × Int × Bool
  | _, [], s => s
  | i, x :: l, s => endsGo f n (i + 1) l (if x = 0 then s else (bif s.2.2 then s.1 else shr (f + i) n, shr (f + i) n, true))
def endsT : List U → Out SV
  | [.a [.v (.int .i32 f), .d 26 (.ints l), .v (.string s)], .c (.v (.int .i64 b))] => .need (InB f l ∧ InS b) (.ret (.t [.c (I64 (endsGo f b.toNat 0 l (0, 0, false)).1), .c (I64 (endsGo f b.toNat 0 l (0, 0, false)).2.1), .c (Bo (endsGo f b.toNat 0 l (0, 0, false)).2.2)]))
  | _ => .fail
theorem ends_ex : Ok G 115 endsT := by
  refine okP noneS Tryz.func115 rfl (by decide) fun K us hk => ?_
  unfold endsT at hk
  split at hk
  · rename_i f l s b
    refine ⟨by show 2 ≤ _; decide, ?_⟩
    obtain ⟨⟨⟨f1, f2, f3⟩, hb⟩, hk⟩ := hk
    generalize hv : endsGo f b.toNat 0 l (0, 0, false) = v at hk
    conv => whnf
    refine ⟨[], _, _, rfl, Nat × Int × Int × Bool, (fun y => ([(1, .u (.c (I64 b))), (2, .u (.c (.p 2 0))), (7, .u (.c (I64 y.2.1))), (8, .u (.c (I64 y.2.2.1))), (9, .u (.c (Bo y.2.2.2))), (10, .u (.c (I64 (y.1 : Nat))))],
        [(2, .cells 46 [I32 f, .d 26 (.ints l), St s])])),
      (fun y => y.1 ≤ l.length ∧ endsGo f b.toNat y.1 (l.drop y.1) y.2 = v), (fun y => l.length - y.1), fun x _ => rfl,
      ⟨(0, 0, 0, false), ⟨Nat.zero_le _, hv⟩, ⟨rfl, rfl, rfl, rfl, rfl, rfl, trivial⟩, ⟨rfl, trivial⟩⟩, ?_⟩
    rintro ⟨i, lo, hi, g⟩ ⟨p1, p2⟩
    simp only at p1 p2
    conv => whnf
    refine Ask.i (fun c1 => ?_) (fun c1 => ?_)
    · have k1 : (i : Int) < ((l.length : Nat) : Int) := of_decide_eq_true c1
      have hil : i < l.length := by omega
      have hx : l.drop i = l.getD i 0 :: l.drop (i + 1) := by
        rw [List.drop_eq_getElem_cons hil, List.getD_eq_getElem?_getD, List.getElem?_eq_getElem hil]; rfl
      have hnx : some (SV.u (.c (I64 (w64 ((i : Int) + 1))))) = some (SV.u (.c (I64 ((i + 1 : Nat) : Int)))) := congrArg (fun z : Int => some (SV.u (.c (I64 z)))) (w64_eq (n := (i : Int) + 1) (by omega))
      rw [hx, endsGo] at p2
      conv => whnf
      refine ⟨⟨by omega, k1⟩, ?_⟩
      conv => whnf
      refine Ask.i (fun c2 => ?_) (fun c2 => ?_)
      · have k2 : l.getD i 0 = 0 := eq_of_beq c2
        rw [if_pos k2] at p2
        conv => whnf
        exact ⟨(i + 1, lo, hi, g), ⟨hil, p2⟩, by show l.length - (i + 1) < l.length - i; omega, ⟨rfl, rfl, rfl, rfl, rfl, hnx, trivial⟩, ⟨rfl, trivial⟩⟩
      · have k2 : ¬ l.getD i 0 = 0 := ne_of_beq_false c2
        rw [if_neg k2, ← atX_eq ⟨f1, f2⟩ (by omega) hb] at p2
        conv => whnf
        refine ⟨(x64_r _).1, ?_⟩
        conv => whnf
        refine Ask.i (fun c3 => ?_) (fun c3 => ?_)
        · have k3 : (!g) = true := c3
          obtain rfl : g = false := by simpa using k3
          conv => whnf
          exact ⟨(i + 1, atX f b i, atX f b i, true), ⟨hil, p2⟩, by show l.length - (i + 1) < l.length - i; omega, ⟨rfl, rfl, rfl, rfl, rfl, hnx, trivial⟩, ⟨rfl, trivial⟩⟩
        · have k3 : (!g) = false := c3
          obtain rfl : g = true := by simpa using k3
          conv => whnf
          exact ⟨(i + 1, lo, atX f b i, true), ⟨hil, p2⟩, by show l.length - (i + 1) < l.length - i; omega, ⟨rfl, rfl, rfl, rfl, rfl, hnx, trivial⟩, ⟨rfl, trivial⟩⟩
    · have k1 : ¬ (i : Int) < ((l.length : Nat) : Int) := of_decide_eq_false c1
      have hil : i = l.length := by omega
      rw [hil, List.drop_length, endsGo] at p2
      subst p2
      conv => whnf
      exact hk
  · exact hk.elim
def wideR (u v : Int × Int × Bool) : Int := bif u.2.2 then (bif v.2.2 then w64 (w64 ((if v.2.1 > u.2.1 then v.2.1 else u.2.1) - (if v.1 < u.1 then v.1 else u.1)) + 1) else w64 (w64 (u.2.1 - u.1) + 1)) else (bif v.2.2 then w64 (w64 (v.2.1 - v.1) + 1) else 0)
def wideT : List U → Out SV
  | [.a [.v (.int .i32 f), .d 26 (.ints l), .v (.string s)], .a [.v (.int .i32 f'), .d 26 (.ints l'), .v (.string s')], .c (.v (.int .i64 x)), .c (.v (.int .i64 y))] =>
    .need ((InB f l ∧ InS x) ∧ InB f' l' ∧ InS y) (one (I64 (wideR (endsGo f x.toNat 0 l (0, 0, false)) (endsGo f' y.toNat 0 l' (0, 0, false)))))
  | _ => .fail
theorem wideR_ex : Ok G 88 wideT := by
  have hS : AllSound (B [(115, .pure (normG (B []) [46, 3] endsT))]) G := .cons _ ends_ex noneS
  refine okP hS Tryz.func88 rfl (by decide) fun K us hk => ?_
  unfold wideT at hk
  split at hk
  · rename_i f l s f' l' s' x y
    refine ⟨by show 4 ≤ _; decide, ?_⟩
    obtain ⟨⟨h1, h2⟩, hk⟩ := hk
    conv => whnf
    refine ⟨h1, ?_⟩
    conv => whnf
    refine ⟨h2, ?_⟩
    generalize endsGo f x.toNat 0 l (0, 0, false) = u at *
    generalize endsGo f' y.toNat 0 l' (0, 0, false) = v at *
    obtain ⟨u1, u2, u3⟩ := u
    obtain ⟨v1, v2, v3⟩ := v
    conv => whnf
    cases u3 with
    | true =>
      cases v3 with
      | true =>
        conv => whnf
        exact hk
      | false =>
        conv => whnf
        exact hk
    | false =>
      cases v3 with
      | true =>
        conv => whnf
        exact hk
      | false =>
        conv => whnf
        exact hk
  · exact hk.elim
end Sx
/-! Contracts: the reference's places. -/
namespace Sx
open Go Go.Proofs
set_option linter.unusedVariables false
set_option linter.unusedSimpArgs false
set_option maxRecDepth 30000
variable {G : Glob}
abbrev Pl := Int × Int
def rowP (p : Pl) : List D := [.int p.1, .int p.2]
def rowsP (l : List Pl) : List (List D) := l.map rowP
theorem rowsP_getD {l : List Pl} {j : Nat} (h : j < l.length) : (rowsP l).getD j [] = rowP (l.getD j (0, 0)) := by
  unfold rowsP
  rw [List.getD_eq_getElem?_getD, List.getD_eq_getElem?_getD, List.getElem?_map, List.getElem?_eq_getElem h]; rfl
theorem rowsP_app (l : List Pl) (p : Pl) : rowsP l ++ [rowP p] = rowsP (l ++ [p]) := by unfold rowsP; rw [List.map_append]; rfl
theorem rowsP_set (l : List Pl) (j : Nat) (p : Pl) : (rowsP l).set j (rowP p) = rowsP (l.set j p) := by unfold rowsP; rw [List.map_set]
theorem rowsP_len (l : List Pl) : (rowsP l).length = l.length := List.length_map _
def plGo (f : Int) (n : Nat) : Nat → List Int → List Pl → Option (List Pl)
  | _, [], acc => some acc
  | i, x :: l, acc => if x = 0 then plGo f n (i + 1) l acc else
    if acc ≠ [] ∧ (acc.getD (acc.length - 1) (0, 0)).1 = shr (f + i) n then
      (if x64 ((acc.getD (acc.length - 1) (0, 0)).2 + x) ≥ (acc.getD (acc.length - 1) (0, 0)).2 then plGo f n (i + 1) l (acc.set (acc.length - 1) (shr (f + i) n, x64 ((acc.getD (acc.length - 1) (0, 0)).2 + x))) else none)
    else plGo f n (i + 1) l (acc ++ [(shr (f + i) n, x)])
def plOut (o : Option (List Pl)) : Out SV := match o with
  | some L => .ret (.t [.c (.d 146 (.rows (rowsP L))), .c (Bo true)])
  | none => .ret (.t [.c (.d 146 (.rows [])), .c (Bo false)])
def placesT : List U → Out SV
  | [.a [.v (.int .i32 f), .d 26 (.ints l), .v (.string s)], .c (.v (.int .i64 b))] => .need (InB f l ∧ InS b) (.all (Option (List Pl)) (fun o => plGo f b.toNat 0 l [] = o) ⟨_, rfl⟩ plOut)
  | _ => .fail
theorem places_ex : Ok G 89 placesT := by
  have hS : AllSound (B [(34, .pure (normG (B []) [23, 23] rsumT))]) G := .cons _ rsum_ex noneS
  refine okP hS Tryz.func89 rfl (by decide) fun K us hk => ?_
  unfold placesT at hk
  split at hk
  · rename_i f l s b
    refine ⟨by show 2 ≤ _; decide, ?_⟩
    obtain ⟨⟨⟨f1, f2, f3⟩, hb⟩, hk⟩ := hk
    have hk := hk _ rfl
    generalize hv : plGo f b.toNat 0 l [] = v at hk
    conv => whnf
    refine ⟨[(6, 77, 146)], _, _, rfl, Nat × List Pl, (fun y => ([(1, .u (.c (I64 b))), (2, .u (.c (.p 2 0))), (6, .u (.c (.r 77 146))), (7, .u (.c (I64 (y.1 : Nat))))],
        [(2, .cells 46 [I32 f, .d 26 (.ints l), St s]), (77, .row 146 (.rows (rowsP y.2)))])),
      (fun y => y.1 ≤ l.length ∧ y.2.length ≤ y.1 ∧ plGo f b.toNat y.1 (l.drop y.1) y.2 = v), (fun y => l.length - y.1), fun x _ => rfl,
      ⟨(0, []), ⟨Nat.zero_le _, Nat.le_refl _, hv⟩, ⟨rfl, rfl, rfl, rfl, trivial⟩, ⟨rfl, rfl, trivial⟩⟩, ?_⟩
    rintro ⟨i, acc⟩ ⟨p1, p3, p2⟩
    simp only at p1 p2 p3
    conv => whnf
    refine Ask.i (fun c1 => ?_) (fun c1 => ?_)
    · have k1 : (i : Int) < ((l.length : Nat) : Int) := of_decide_eq_true c1
      have hil : i < l.length := by omega
      have hx : l.drop i = l.getD i 0 :: l.drop (i + 1) := by
        rw [List.drop_eq_getElem_cons hil, List.getD_eq_getElem?_getD, List.getElem?_eq_getElem hil]; rfl
      have hnx : some (SV.u (.c (I64 (w64 ((i : Int) + 1))))) = some (SV.u (.c (I64 ((i + 1 : Nat) : Int)))) := congrArg (fun z : Int => some (SV.u (.c (I64 z)))) (w64_eq (n := (i : Int) + 1) (by omega))
      rw [hx, plGo] at p2
      conv => whnf
      refine ⟨⟨by omega, k1⟩, ?_⟩
      conv => whnf
      refine Ask.i (fun c2 => ?_) (fun c2 => ?_)
      · have k2 : l.getD i 0 = 0 := eq_of_beq c2
        rw [if_pos k2] at p2
        conv => whnf
        exact ⟨(i + 1, acc), ⟨hil, by show acc.length ≤ i + 1; omega, p2⟩, by show l.length - (i + 1) < l.length - i; omega, ⟨rfl, rfl, rfl, hnx, trivial⟩, ⟨rfl, rfl, trivial⟩⟩
      · have k2 : ¬ l.getD i 0 = 0 := ne_of_beq_false c2
        rw [if_neg k2, ← atX_eq ⟨f1, f2⟩ (by omega) hb] at p2
        conv => whnf
        refine ⟨(x64_r _).1, ?_⟩
        conv => whnf
        have hwl : w64 (((rowsP acc).length : Nat) - 1) = ((acc.length : Nat) : Int) - 1 := by rw [rowsP_len, w64_eq (by omega)]
        refine Ask.i (fun c3 => ?_) (fun c3 => ?_)
        · have k3 : w64 (((rowsP acc).length : Nat) - 1) ≥ 0 := of_decide_eq_true c3
          conv => whnf
          have hne : 0 < acc.length := by rw [hwl] at k3; omega
          have hlt : w64 (((rowsP acc).length : Nat) - 1) < ((rowsP acc).length : Nat) := by rw [hwl, rowsP_len]; omega
          refine ⟨⟨k3, hlt⟩, ?_⟩
          conv => whnf
          refine Ask.i (fun c4 => ?_) (fun c4 => ?_)
          · conv => whnf
            refine ⟨mixed, [], [], [], by kernel_rfl, ?_⟩
            conv => whnf
            refine ⟨⟨k3, hlt⟩, ?_⟩
            conv => whnf
            refine ⟨⟨by omega, k1⟩, ?_⟩
            conv => whnf
            have hj : (w64 (((rowsP acc).length : Nat) - 1)).toNat = acc.length - 1 := by rw [hwl]; omega
            have hr : (rowsP acc).getD (w64 (((rowsP acc).length : Nat) - 1)).toNat [] = rowP (acc.getD (acc.length - 1) (0, 0)) := by rw [hj]; exact rowsP_getD (by omega)
            have k4 : (cellD ((rowsP acc).getD (w64 (((rowsP acc).length : Nat) - 1)).toNat []) 0).toInt = atX f b i := eq_of_beq c4
            rw [hr] at k4
            have k4 : (acc.getD (acc.length - 1) (0, 0)).1 = atX f b i := k4
            rw [if_pos ⟨by rintro rfl; simp at hne, k4⟩] at p2
            refine Ask.i (fun c5 => ?_) (fun c5 => ?_)
            · have k5 : (!decide (x64 ((cellD ((rowsP acc).getD (w64 (((rowsP acc).length : Nat) - 1)).toNat []) 1).toInt + l.getD i 0) ≥ (cellD ((rowsP acc).getD (w64 (((rowsP acc).length : Nat) - 1)).toNat []) 1).toInt)) = true := c5
              rw [hr] at k5
              have k5 : (!decide (x64 ((acc.getD (acc.length - 1) (0, 0)).2 + l.getD i 0) ≥ (acc.getD (acc.length - 1) (0, 0)).2)) = true := k5
              rw [if_neg (by simpa using k5)] at p2
              subst p2
              conv => whnf
              exact hk
            · have k5 : (!decide (x64 ((cellD ((rowsP acc).getD (w64 (((rowsP acc).length : Nat) - 1)).toNat []) 1).toInt + l.getD i 0) ≥ (cellD ((rowsP acc).getD (w64 (((rowsP acc).length : Nat) - 1)).toNat []) 1).toInt)) = false := c5
              rw [hr] at k5
              have k5 : (!decide (x64 ((acc.getD (acc.length - 1) (0, 0)).2 + l.getD i 0) ≥ (acc.getD (acc.length - 1) (0, 0)).2)) = false := k5
              rw [if_pos (by simpa using k5)] at p2
              conv => whnf
              refine ⟨⟨k3, hlt⟩, ?_⟩
              conv => whnf
              refine ⟨(i + 1, _), ⟨hil, by show (acc.set _ _).length ≤ i + 1; rw [List.length_set]; omega, p2⟩, by show l.length - (i + 1) < l.length - i; omega, ⟨rfl, rfl, rfl, hnx, trivial⟩, ⟨rfl, ?_, trivial⟩⟩
              show some (Blk.row 146 (.rows ((rowsP acc).set (w64 (((rowsP acc).length : Nat) - 1)).toNat ((((rowsP acc).getD (w64 (((rowsP acc).length : Nat) - 1)).toNat []).take 1 ++ [.int (x64 ((cellD ((rowsP acc).getD (w64 (((rowsP acc).length : Nat) - 1)).toNat []) 1).toInt + l.getD i 0))]) ++ ((rowsP acc).getD (w64 (((rowsP acc).length : Nat) - 1)).toNat []).drop 2)))) = _
              rw [hr, hj]
              refine congrArg (fun z => some (Blk.row 146 (.rows z))) ((?_ : _ = (rowsP acc).set (acc.length - 1) (rowP (atX f b i, x64 ((acc.getD (acc.length - 1) (0, 0)).2 + l.getD i 0)))).trans (rowsP_set ..))
              rw [← k4]; rfl
          · have hj : (w64 (((rowsP acc).length : Nat) - 1)).toNat = acc.length - 1 := by rw [hwl]; omega
            have hr : (rowsP acc).getD (w64 (((rowsP acc).length : Nat) - 1)).toNat [] = rowP (acc.getD (acc.length - 1) (0, 0)) := by rw [hj]; exact rowsP_getD (by omega)
            have k4 : ¬ (cellD ((rowsP acc).getD (w64 (((rowsP acc).length : Nat) - 1)).toNat []) 0).toInt = atX f b i := ne_of_beq_false c4
            rw [hr] at k4
            have k4 : ¬ (acc.getD (acc.length - 1) (0, 0)).1 = atX f b i := k4
            rw [if_neg (fun h => k4 h.2)] at p2
            conv => whnf
            refine ⟨⟨by omega, k1⟩, ?_⟩
            conv => whnf
            refine ⟨by show (rowsP acc).length + 1 ≤ 274877906944; rw [rowsP_len]; omega, ?_⟩
            conv => whnf
            refine ⟨(i + 1, _), ⟨hil, by show (acc ++ [_]).length ≤ i + 1; simp; omega, p2⟩, by show l.length - (i + 1) < l.length - i; omega, ⟨rfl, rfl, rfl, hnx, trivial⟩, ⟨rfl, ?_, trivial⟩⟩
            exact congrArg (fun z => some (Blk.row 146 (.rows z))) (rowsP_app acc (atX f b i, l.getD i 0))
        · have k3 : ¬ w64 (((rowsP acc).length : Nat) - 1) ≥ 0 := of_decide_eq_false c3
          have h0 : acc = [] := List.length_eq_zero_iff.1 (by rw [hwl] at k3; omega)
          rw [if_neg (fun h => h.1 h0)] at p2
          conv => whnf
          refine ⟨⟨by omega, k1⟩, ?_⟩
          conv => whnf
          refine ⟨by show (rowsP acc).length + 1 ≤ 274877906944; rw [rowsP_len]; omega, ?_⟩
          conv => whnf
          refine ⟨(i + 1, _), ⟨hil, by show (acc ++ [_]).length ≤ i + 1; simp; omega, p2⟩, by show l.length - (i + 1) < l.length - i; omega, ⟨rfl, rfl, rfl, hnx, trivial⟩, ⟨rfl, ?_, trivial⟩⟩
          exact congrArg (fun z => some (Blk.row 146 (.rows z))) (rowsP_app acc (atX f b i, l.getD i 0))
    · have k1 : ¬ (i : Int) < ((l.length : Nat) : Int) := of_decide_eq_false c1
      have hil : i = l.length := by omega
      rw [hil, List.drop_length, plGo] at p2
      subst p2
      conv => whnf
      exact hk
  · exact hk.elim
end Sx
/-! Contracts: the reference's places of two sides together. -/
namespace Sx
open Go Go.Proofs
set_option linter.unusedVariables false
set_option linter.unusedSimpArgs false
set_option maxRecDepth 30000
variable {G : Glob}
def unR (r : List D) : Pl := ((cellD r 0).toInt, (cellD r 1).toInt)
def unP (R : List (List D)) : List Pl := R.map unR
theorem unP_rowsP (l : List Pl) : unP (rowsP l) = l := by
  unfold unP rowsP
  rw [List.map_map]
  exact List.map_id' l |> fun h => (List.map_congr_left (fun p _ => rfl)).trans h
theorem unP_len (R : List (List D)) : (unP R).length = R.length := List.length_map _
theorem unP_drop {R : List (List D)} {i : Nat} (h : i < R.length) : (unP R).drop i = unR (R.getD i []) :: (unP R).drop (i + 1) := by
  rw [List.drop_eq_getElem_cons (by rw [unP_len]; exact h)]
  congr 1
  unfold unP
  rw [List.getElem_map, List.getD_eq_getElem?_getD, List.getElem?_eq_getElem h]; rfl
def bothGo : Nat → List Pl → List Pl → List Pl → Option (List Pl)
  | 0, _, _, acc => some acc
  | k + 1, a, b, acc => match a, b with
    | [], [] => some acc
    | x :: a, [] => bothGo k a [] (acc ++ [x])
    | [], y :: b => bothGo k [] b (acc ++ [y])
    | x :: a, y :: b => if x.1 < y.1 then bothGo k a (y :: b) (acc ++ [x]) else if y.1 < x.1 then bothGo k (x :: a) b (acc ++ [y]) else if x64 (x.2 + y.2) ≥ x.2 then bothGo k a b (acc ++ [(x.1, x64 (x.2 + y.2))]) else none
theorem bothGo_nil : ∀ (k : Nat) (acc : List Pl), bothGo k [] [] acc = some acc
  | 0, _ => rfl
  | _ + 1, _ => rfl
inductive W3 where | a | b | c
def W3.n : W3 → Nat | .a => 81 | .b => 108 | .c => 46
def bothT2 : List U → Out SV
  | [.c (.d 146 (.rows A)), .c (.d 146 (.rows B))] => .need (A.length ≤ 1500 ∧ B.length ≤ 1500) (.all (Option (List Pl)) (fun o => bothGo (A.length + B.length) (unP A) (unP B) [] = o) ⟨_, rfl⟩ plOut)
  | _ => .fail
set_option maxHeartbeats 2000000 in
theorem bothR_ex : Ok G 90 bothT2 := by
  have hS : AllSound (B [(34, .pure (normG (B []) [23, 23] rsumT))]) G := .cons _ rsum_ex noneS
  refine okP hS Tryz.func90 rfl (by decide) fun K us hk => ?_
  unfold bothT2 at hk
  split at hk
  · rename_i A B
    refine ⟨by show 2 ≤ _; decide, ?_⟩
    obtain ⟨⟨lA, lB⟩, hk⟩ := hk
    have hk := hk _ rfl
    generalize hv : bothGo (A.length + B.length) (unP A) (unP B) [] = v at hk
    conv => whnf
    refine ⟨[(6, 81, 146)], _, _, rfl, W3 × Nat × Nat × Nat × List Pl, (fun y => ([(0, .u (.c (.d 146 (.rows A)))), (1, .u (.c (.d 146 (.rows B)))), (6, .u (.c (.r y.1.n 146))), (7, .u (.c (I64 (y.2.2.1 : Nat)))), (8, .u (.c (I64 (y.2.2.2.1 : Nat))))],
        [(y.1.n, .row 146 (.rows (rowsP y.2.2.2.2)))])),
      (fun y => y.2.2.1 ≤ A.length ∧ y.2.2.2.1 ≤ B.length ∧ (y.2.2.2.2.length ≤ y.2.2.1 + y.2.2.2.1 ∧ (A.length - y.2.2.1) + (B.length - y.2.2.2.1) ≤ y.2.1) ∧ bothGo y.2.1 ((unP A).drop y.2.2.1) ((unP B).drop y.2.2.2.1) y.2.2.2.2 = v), (fun y => (A.length - y.2.2.1) + (B.length - y.2.2.2.1)), fun x _ => (by obtain ⟨w, _⟩ := x; cases w <;> rfl),
      ⟨(.a, A.length + B.length, 0, 0, []), ⟨Nat.zero_le _, Nat.zero_le _, ⟨Nat.le_refl _, Nat.le_refl _⟩, hv⟩, ⟨rfl, rfl, rfl, rfl, rfl, trivial⟩, ⟨rfl, trivial⟩⟩, ?_⟩
    rintro ⟨w, k, i, j, acc⟩ ⟨p1, p2, ⟨p3, p5⟩, p4⟩
    simp only at p1 p2 p3 p4 p5
    cases w
    all_goals
      have nxi : some (SV.u (.c (I64 (w64 ((i : Int) + 1))))) = some (SV.u (.c (I64 ((i + 1 : Nat) : Int)))) := congrArg (fun z : Int => some (SV.u (.c (I64 z)))) (w64_eq (n := (i : Int) + 1) (by omega))
      have nxj : some (SV.u (.c (I64 (w64 ((j : Int) + 1))))) = some (SV.u (.c (I64 ((j + 1 : Nat) : Int)))) := congrArg (fun z : Int => some (SV.u (.c (I64 z)))) (w64_eq (n := (j : Int) + 1) (by omega))
      by_cases hi : i < A.length
      · by_cases hj : j < B.length
        · obtain ⟨k, rfl⟩ : ∃ z, k = z + 1 := ⟨k - 1, by omega⟩
          rw [unP_drop hi, unP_drop hj, bothGo] at p4
          conv => whnf
          
          refine Ask.i (fun c0 => ?_) (fun c0 => ?_)
          · have c0 : (i : Int) < ((A.length : Nat) : Int) := of_decide_eq_true c0
            conv => whnf
            refine ⟨mixed, [], [], [], by kernel_rfl, ?_⟩
            conv => whnf
            refine Ask.i (fun c2 => ?_) (fun c2 => ?_)
            · have c2 : (j : Int) = ((B.length : Nat) : Int) := eq_of_beq c2
              exfalso; omega
            · have c2 : ¬ ((j : Int) = ((B.length : Nat) : Int)) := ne_of_beq_false c2
              conv => whnf
              refine Ask.i (fun c3 => ?_) (fun c3 => ?_)
              · have c3 : (i : Int) < ((A.length : Nat) : Int) := of_decide_eq_true c3
                conv => whnf
                refine ⟨⟨by omega, by show (i : Int) < ((A.length : Nat) : Int); omega⟩, ?_⟩
                conv => whnf
                refine ⟨⟨by omega, by show (j : Int) < ((B.length : Nat) : Int); omega⟩, ?_⟩
                conv => whnf
                refine Ask.i (fun c4 => ?_) (fun c4 => ?_)
                · have c4 : (cellD (A.getD i []) 0).toInt < (cellD (B.getD j []) 0).toInt := of_decide_eq_true c4
                  rw [if_pos (show (unR (A.getD i [])).1 < (unR (B.getD j [])).1 from c4)] at p4
                  conv => whnf
                  refine ⟨⟨by omega, by show (i : Int) < ((A.length : Nat) : Int); omega⟩, ?_⟩
                  conv => whnf
                  refine ⟨by show (rowsP acc).length + 1 ≤ 274877906944; rw [rowsP_len]; omega, ?_⟩
                  conv => whnf
                  refine ⟨(.a, k, i + 1, j, acc ++ [unR (A.getD i [])]), ⟨by show i + 1 ≤ A.length; omega, by show j ≤ B.length; omega, ⟨by show (acc ++ [_]).length ≤ i + 1 + j; rw [List.length_append]; show acc.length + 1 ≤ _; omega, by show (A.length - (i + 1)) + (B.length - (j)) ≤ k; omega⟩, ?_⟩, by show (A.length - (i + 1)) + (B.length - (j)) < (A.length - i) + (B.length - j); omega, ⟨rfl, rfl, rfl, nxi, rfl, trivial⟩, ⟨?_, trivial⟩⟩
                  · show bothGo k ((unP A).drop (i + 1)) ((unP B).drop (j)) _ = v
                    rw [unP_drop hj]
                    exact p4
                  · exact congrArg (fun z => some (Blk.row 146 (.rows z))) (rowsP_app acc (unR (A.getD i [])))
                · have c4 : ¬ ((cellD (A.getD i []) 0).toInt < (cellD (B.getD j []) 0).toInt) := of_decide_eq_false c4
                  rw [if_neg (show ¬ (unR (A.getD i [])).1 < (unR (B.getD j [])).1 from c4)] at p4
                  conv => whnf
                  refine ⟨mixed, [], [], [], by kernel_rfl, ?_⟩
                  conv => whnf
                  refine Ask.i (fun c5 => ?_) (fun c5 => ?_)
                  · have c5 : (i : Int) = ((A.length : Nat) : Int) := eq_of_beq c5
                    exfalso; omega
                  · have c5 : ¬ ((i : Int) = ((A.length : Nat) : Int)) := ne_of_beq_false c5
                    conv => whnf
                    refine ⟨⟨by omega, by show (j : Int) < ((B.length : Nat) : Int); omega⟩, ?_⟩
                    conv => whnf
                    refine ⟨⟨by omega, by show (i : Int) < ((A.length : Nat) : Int); omega⟩, ?_⟩
                    conv => whnf
                    refine Ask.i (fun c6 => ?_) (fun c6 => ?_)
                    · have c6 : (cellD (B.getD j []) 0).toInt < (cellD (A.getD i []) 0).toInt := of_decide_eq_true c6
                      rw [if_pos (show (unR (B.getD j [])).1 < (unR (A.getD i [])).1 from c6)] at p4
                      conv => whnf
                      refine ⟨⟨by omega, by show (j : Int) < ((B.length : Nat) : Int); omega⟩, ?_⟩
                      conv => whnf
                      refine ⟨by show (rowsP acc).length + 1 ≤ 274877906944; rw [rowsP_len]; omega, ?_⟩
                      conv => whnf
                      refine ⟨(.b, k, i, j + 1, acc ++ [unR (B.getD j [])]), ⟨by show i ≤ A.length; omega, by show j + 1 ≤ B.length; omega, ⟨by show (acc ++ [_]).length ≤ i + j + 1; rw [List.length_append]; show acc.length + 1 ≤ _; omega, by show (A.length - (i)) + (B.length - (j + 1)) ≤ k; omega⟩, ?_⟩, by show (A.length - (i)) + (B.length - (j + 1)) < (A.length - i) + (B.length - j); omega, ⟨rfl, rfl, rfl, rfl, nxj, trivial⟩, ⟨?_, trivial⟩⟩
                      · show bothGo k ((unP A).drop (i)) ((unP B).drop (j + 1)) _ = v
                        rw [unP_drop hi]
                        exact p4
                      · exact congrArg (fun z => some (Blk.row 146 (.rows z))) (rowsP_app acc (unR (B.getD j [])))
                    · have c6 : ¬ ((cellD (B.getD j []) 0).toInt < (cellD (A.getD i []) 0).toInt) := of_decide_eq_false c6
                      rw [if_neg (show ¬ (unR (B.getD j [])).1 < (unR (A.getD i [])).1 from c6)] at p4
                      conv => whnf
                      refine ⟨mixed, [], [], [], by kernel_rfl, ?_⟩
                      conv => whnf
                      refine ⟨⟨by omega, by show (i : Int) < ((A.length : Nat) : Int); omega⟩, ?_⟩
                      conv => whnf
                      refine ⟨⟨by omega, by show (j : Int) < ((B.length : Nat) : Int); omega⟩, ?_⟩
                      conv => whnf
                      refine Ask.i (fun c7 => ?_) (fun c7 => ?_)
                      · have c7 : (!decide (x64 ((unR (A.getD i [])).2 + (unR (B.getD j [])).2) ≥ (unR (A.getD i [])).2)) = true := c7
                        rw [if_neg (by simpa using c7)] at p4
                        subst p4
                        conv => whnf
                        exact hk
                      · have c7 : (!decide (x64 ((unR (A.getD i [])).2 + (unR (B.getD j [])).2) ≥ (unR (A.getD i [])).2)) = false := c7
                        rw [if_pos (by simpa using c7)] at p4
                        conv => whnf
                        refine ⟨⟨by omega, by show (i : Int) < ((A.length : Nat) : Int); omega⟩, ?_⟩
                        conv => whnf
                        refine ⟨by show (rowsP acc).length + 1 ≤ 274877906944; rw [rowsP_len]; omega, ?_⟩
                        conv => whnf
                        refine ⟨(.c, k, i + 1, j + 1, acc ++ [((unR (A.getD i [])).1, x64 ((unR (A.getD i [])).2 + (unR (B.getD j [])).2))]), ⟨by show i + 1 ≤ A.length; omega, by show j + 1 ≤ B.length; omega, ⟨by show (acc ++ [_]).length ≤ i + 1 + j + 1; rw [List.length_append]; show acc.length + 1 ≤ _; omega, by show (A.length - (i + 1)) + (B.length - (j + 1)) ≤ k; omega⟩, ?_⟩, by show (A.length - (i + 1)) + (B.length - (j + 1)) < (A.length - i) + (B.length - j); omega, ⟨rfl, rfl, rfl, nxi, nxj, trivial⟩, ⟨?_, trivial⟩⟩
                        · show bothGo k ((unP A).drop (i + 1)) ((unP B).drop (j + 1)) _ = v
                          exact p4
                        · exact congrArg (fun z => some (Blk.row 146 (.rows z))) (rowsP_app acc (((unR (A.getD i [])).1, x64 ((unR (A.getD i [])).2 + (unR (B.getD j [])).2))))
              · have c3 : ¬ ((i : Int) < ((A.length : Nat) : Int)) := of_decide_eq_false c3
                exfalso; omega
          · have c0 : ¬ ((i : Int) < ((A.length : Nat) : Int)) := of_decide_eq_false c0
            exfalso; omega
        · have hB0 : (unP B).drop j = [] := List.drop_eq_nil_of_le (by rw [unP_len]; omega)
          obtain ⟨k, rfl⟩ : ∃ z, k = z + 1 := ⟨k - 1, by omega⟩
          rw [unP_drop hi, hB0, bothGo] at p4
          conv => whnf
          refine Ask.i (fun c0 => ?_) (fun c0 => ?_)
          · have c0 : (i : Int) < ((A.length : Nat) : Int) := of_decide_eq_true c0
            conv => whnf
            refine ⟨mixed, [], [], [], by kernel_rfl, ?_⟩
            conv => whnf
            refine Ask.i (fun c2 => ?_) (fun c2 => ?_)
            · have c2 : (j : Int) = ((B.length : Nat) : Int) := eq_of_beq c2
              conv => whnf
              refine ⟨⟨by omega, by show (i : Int) < ((A.length : Nat) : Int); omega⟩, ?_⟩
              conv => whnf
              refine ⟨by show (rowsP acc).length + 1 ≤ 274877906944; rw [rowsP_len]; omega, ?_⟩
              conv => whnf
              refine ⟨(.a, k, i + 1, j, acc ++ [unR (A.getD i [])]), ⟨by show i + 1 ≤ A.length; omega, by show j ≤ B.length; omega, ⟨by show (acc ++ [_]).length ≤ i + 1 + j; rw [List.length_append]; show acc.length + 1 ≤ _; omega, by show (A.length - (i + 1)) + (B.length - (j)) ≤ k; omega⟩, ?_⟩, by show (A.length - (i + 1)) + (B.length - (j)) < (A.length - i) + (B.length - j); omega, ⟨rfl, rfl, rfl, nxi, rfl, trivial⟩, ⟨?_, trivial⟩⟩
              · show bothGo k ((unP A).drop (i + 1)) ((unP B).drop (j)) _ = v
                rw [hB0]
                exact p4
              · exact congrArg (fun z => some (Blk.row 146 (.rows z))) (rowsP_app acc (unR (A.getD i [])))
            · have c2 : ¬ ((j : Int) = ((B.length : Nat) : Int)) := ne_of_beq_false c2
              exfalso; omega
          · have c0 : ¬ ((i : Int) < ((A.length : Nat) : Int)) := of_decide_eq_false c0
            exfalso; omega
      · by_cases hj : j < B.length
        · have hA0 : (unP A).drop i = [] := List.drop_eq_nil_of_le (by rw [unP_len]; omega)
          obtain ⟨k, rfl⟩ : ∃ z, k = z + 1 := ⟨k - 1, by omega⟩
          rw [unP_drop hj, hA0, bothGo] at p4
          conv => whnf
          refine Ask.i (fun c0 => ?_) (fun c0 => ?_)
          · have c0 : (i : Int) < ((A.length : Nat) : Int) := of_decide_eq_true c0
            exfalso; omega
          · have c0 : ¬ ((i : Int) < ((A.length : Nat) : Int)) := of_decide_eq_false c0
            conv => whnf
            refine Ask.i (fun c1 => ?_) (fun c1 => ?_)
            · have c1 : (j : Int) < ((B.length : Nat) : Int) := of_decide_eq_true c1
              conv => whnf
              refine ⟨mixed, [], [], [], by kernel_rfl, ?_⟩
              conv => whnf
              refine Ask.i (fun c2 => ?_) (fun c2 => ?_)
              · have c2 : (j : Int) = ((B.length : Nat) : Int) := eq_of_beq c2
                exfalso; omega
              · have c2 : ¬ ((j : Int) = ((B.length : Nat) : Int)) := ne_of_beq_false c2
                conv => whnf
                refine Ask.i (fun c3 => ?_) (fun c3 => ?_)
                · have c3 : (i : Int) < ((A.length : Nat) : Int) := of_decide_eq_true c3
                  exfalso; omega
                · have c3 : ¬ ((i : Int) < ((A.length : Nat) : Int)) := of_decide_eq_false c3
                  conv => whnf
                  refine ⟨mixed, [], [], [], by kernel_rfl, ?_⟩
                  conv => whnf
                  refine Ask.i (fun c5 => ?_) (fun c5 => ?_)
                  · have c5 : (i : Int) = ((A.length : Nat) : Int) := eq_of_beq c5
                    conv => whnf
                    refine ⟨⟨by omega, by show (j : Int) < ((B.length : Nat) : Int); omega⟩, ?_⟩
                    conv => whnf
                    refine ⟨by show (rowsP acc).length + 1 ≤ 274877906944; rw [rowsP_len]; omega, ?_⟩
                    conv => whnf
                    refine ⟨(.b, k, i, j + 1, acc ++ [unR (B.getD j [])]), ⟨by show i ≤ A.length; omega, by show j + 1 ≤ B.length; omega, ⟨by show (acc ++ [_]).length ≤ i + j + 1; rw [List.length_append]; show acc.length + 1 ≤ _; omega, by show (A.length - (i)) + (B.length - (j + 1)) ≤ k; omega⟩, ?_⟩, by show (A.length - (i)) + (B.length - (j + 1)) < (A.length - i) + (B.length - j); omega, ⟨rfl, rfl, rfl, rfl, nxj, trivial⟩, ⟨?_, trivial⟩⟩
                    · show bothGo k ((unP A).drop (i)) ((unP B).drop (j + 1)) _ = v
                      rw [hA0]
                      exact p4
                    · exact congrArg (fun z => some (Blk.row 146 (.rows z))) (rowsP_app acc (unR (B.getD j [])))
                  · have c5 : ¬ ((i : Int) = ((A.length : Nat) : Int)) := ne_of_beq_false c5
                    exfalso; omega
            · have c1 : ¬ ((j : Int) < ((B.length : Nat) : Int)) := of_decide_eq_false c1
              exfalso; omega
        · rw [show (unP A).drop i = [] from List.drop_eq_nil_of_le (by rw [unP_len]; omega), show (unP B).drop j = [] from List.drop_eq_nil_of_le (by rw [unP_len]; omega), bothGo_nil] at p4
          subst p4
          conv => whnf
          refine Ask.i (fun c0 => ?_) (fun c0 => ?_)
          · have c0 : (i : Int) < ((A.length : Nat) : Int) := of_decide_eq_true c0
            exfalso; omega
          · have c0 : ¬ ((i : Int) < ((A.length : Nat) : Int)) := of_decide_eq_false c0
            conv => whnf
            refine Ask.i (fun c1 => ?_) (fun c1 => ?_)
            · have c1 : (j : Int) < ((B.length : Nat) : Int) := of_decide_eq_true c1
              exfalso; omega
            · have c1 : ¬ ((j : Int) < ((B.length : Nat) : Int)) := of_decide_eq_false c1
              have ei : i = A.length := by omega
              have ej : j = B.length := by omega
              conv => whnf
              exact hk
  · exact hk.elim
end Sx
/-! Contracts: the reference's places as a side. -/
namespace Sx
open Go Go.Proofs
set_option linter.unusedVariables false
set_option linter.unusedSimpArgs false
set_option maxRecDepth 30000
variable {G : Glob}
def dnGo (p : Int) : List Pl → List Int → List Int
  | [], c => c
  | x :: L, c => dnGo p L (c.set (x.1 - p).toNat x.2)
def endP (L : List Pl) : Int := (L.getD (L.length - 1) (0, 0)).1
def denseV (L : List Pl) : (Int × List Int) × Bool := match L with
  | [] => ((0, []), true)
  | x :: L => if x.1 > 2147483647 then ((0, []), false) else ((x.1, dnGo x.1 (x :: L) (List.replicate (endP (x :: L) - x.1 + 1).toNat 0)), true)
structure DnOk (L : List Pl) : Prop where
  len : L.length ≤ 3000
  lo : ∀ x ∈ L, ((L.getD 0 (0, 0)).1 ≤ x.1 ∧ x.1 ≤ endP L)
  a : -1099511627776 ≤ (L.getD 0 (0, 0)).1
  b : endP L ≤ 1099511627776
  w : endP L - (L.getD 0 (0, 0)).1 ≤ 68719476000
def outD (v : (Int × List Int) × Bool) : SV := .t [.a [I32 (w32 v.1.1), .d 26 (.ints v.1.2), St nos], .c (Bo v.2)]
def denseT : List U → Out SV
  | [.c (.d 146 (.rows R))] => .need (DnOk (unP R)) (.ret (outD (denseV (unP R))))
  | _ => .fail
theorem unP_getD {R : List (List D)} {i : Nat} (h : i < R.length) : (unP R).getD i (0, 0) = unR (R.getD i []) := by
  unfold unP
  rw [List.getD_eq_getElem?_getD, List.getElem?_map, List.getElem?_eq_getElem h, List.getD_eq_getElem?_getD, List.getElem?_eq_getElem h]; rfl
theorem dnGo_len (p : Int) : ∀ (L : List Pl) (c : List Int), (dnGo p L c).length = c.length
  | [], _ => rfl
  | x :: L, c => by rw [dnGo, dnGo_len p L, List.length_set]
def nX (R : List (List D)) : Int := w64 (w64 ((cellD (R.getD (w64 (((R.length : Nat) : Int) - 1)).toNat []) 0).toInt - (cellD (R.getD 0 []) 0).toInt) + 1)
def iX (R : List (List D)) (i : Nat) : Int := w64 ((cellD (R.getD i []) 0).toInt - (cellD (R.getD 0 []) 0).toInt)
theorem dense_ex : Ok G 91 denseT := by
  refine okP noneS Tryz.func91 rfl (by decide) fun K us hk => ?_
  unfold denseT at hk
  split at hk
  · rename_i R
    refine ⟨by show 1 ≤ _; decide, ?_⟩
    obtain ⟨⟨h1, h2, h3, h4, h5⟩, hk⟩ := hk
    rw [unP_len] at h1
    conv => whnf
    refine Ask.i (fun c0 => ?_) (fun c0 => ?_)
    · have k0 : ((R.length : Nat) : Int) = 0 := eq_of_beq c0
      obtain rfl : R = [] := List.length_eq_zero_iff.1 (by omega)
      conv => whnf
      exact hk
    · have k0 : ¬ ((R.length : Nat) : Int) = 0 := ne_of_beq_false c0
      have h0 : 0 < R.length := by omega
      have hl : R.length - 1 < R.length := by omega
      have e0 := unP_getD h0
      have eL : endP (unP R) = (unR (R.getD (R.length - 1) [])).1 := by unfold endP; rw [unP_len, unP_getD hl]
      have hd : unP R = unR (R.getD 0 []) :: (unP R).drop 1 := unP_drop h0
      rw [e0] at h3 h5
      rw [eL] at h4 h5
      conv => whnf
      refine ⟨⟨by omega, by show (0 : Int) < ((R.length : Nat) : Int); omega⟩, ?_⟩
      conv => whnf
      refine Ask.i (fun c1 => ?_) (fun c1 => ?_)
      · have k1 : (unR (R.getD 0 [])).1 > 2147483647 := of_decide_eq_true c1
        have hv : denseV (unP R) = ((0, []), false) := by rw [hd]; exact if_pos k1
        rw [hv] at hk
        conv => whnf
        exact hk
      · have k1 : ¬ (unR (R.getD 0 [])).1 > 2147483647 := of_decide_eq_false c1
        have hv : denseV (unP R) = (((unR (R.getD 0 [])).1, dnGo (unR (R.getD 0 [])).1 (unP R) (List.replicate ((unR (R.getD (R.length - 1) [])).1 - (unR (R.getD 0 [])).1 + 1).toNat 0)), true) := by
          rw [← eL, hd]; exact if_neg k1
        rw [hv] at hk
        conv => whnf
        have wl : w64 (((R.length : Nat) : Int) - 1) = ((R.length : Nat) : Int) - 1 := w64_eq (by omega)
        refine ⟨⟨by show 0 ≤ w64 (((R.length : Nat) : Int) - 1); rw [wl]; omega, by show w64 (((R.length : Nat) : Int) - 1) < ((R.length : Nat) : Int); rw [wl]; omega⟩, ?_⟩
        conv => whnf
        have hN : nX R = (unR (R.getD (R.length - 1) [])).1 - (unR (R.getD 0 [])).1 + 1 := by
          unfold nX
          rw [show (w64 (((R.length : Nat) : Int) - 1)).toNat = R.length - 1 by rw [wl]; omega]
          show w64 (w64 ((unR (R.getD (R.length - 1) [])).1 - (unR (R.getD 0 [])).1) + 1) = _
          have hm := h2 _ (show unR (R.getD 0 []) ∈ unP R by rw [hd]; exact List.mem_cons_self)
          rw [eL] at hm
          rw [w64_eq (n := (unR (R.getD (R.length - 1) [])).1 - (unR (R.getD 0 [])).1) (by omega), w64_eq (by omega)]
        have hm := h2 _ (show unR (R.getD 0 []) ∈ unP R by rw [hd]; exact List.mem_cons_self)
        rw [eL] at hm
        refine ⟨by show 0 ≤ nX R ∧ nX R ≤ nX R ∧ nX R ≤ 1099511627776; rw [hN]; omega, ?_⟩
        conv => whnf
        generalize hv : dnGo (unR (R.getD 0 [])).1 (unP R) (List.replicate ((unR (R.getD (R.length - 1) [])).1 - (unR (R.getD 0 [])).1 + 1).toNat 0) = v at hk
        rw [← hN] at hv
        refine ⟨[], _, _, rfl, Nat × List Int, (fun y => ([(0, .u (.c (.d 146 (.rows R)))), (2, .u (.c (.p 2 0))), (4, .u (.c (I64 (unR (R.getD 0 [])).1))), (5, .u (.c (.p 5 0))), (6, .u (.c (I64 (y.1 : Nat))))],
            [(2, .cells 46 [I32 0, .v (.slice none 0 0), St nos]), (5, .cells 46 [I32 (w32 (unR (R.getD 0 [])).1), .r 30 26, St nos]), (30, .row 26 (.ints y.2))])),
          (fun y => y.1 ≤ R.length ∧ ((y.2.length : Nat) : Int) = nX R ∧ dnGo (unR (R.getD 0 [])).1 ((unP R).drop y.1) y.2 = v), (fun y => R.length - y.1), fun x _ => rfl,
          ⟨(0, List.replicate (nX R).toNat 0), ⟨Nat.zero_le _, by show (((List.replicate (nX R).toNat (0 : Int)).length : Nat) : Int) = nX R; rw [List.length_replicate]; omega, hv⟩, ⟨rfl, rfl, rfl, rfl, rfl, trivial⟩, ⟨rfl, rfl, rfl, trivial⟩⟩, ?_⟩
        rintro ⟨i, c⟩ ⟨p1, p2, p3⟩
        simp only at p1 p2 p3
        conv => whnf
        refine Ask.i (fun c2 => ?_) (fun c2 => ?_)
        · have k2 : (i : Int) < ((R.length : Nat) : Int) := of_decide_eq_true c2
          have hi : i < R.length := by omega
          have hnx : some (SV.u (.c (I64 (w64 ((i : Int) + 1))))) = some (SV.u (.c (I64 ((i + 1 : Nat) : Int)))) := congrArg (fun z : Int => some (SV.u (.c (I64 z)))) (w64_eq (n := (i : Int) + 1) (by omega))
          have hmi := h2 _ (show unR (R.getD i []) ∈ unP R by
            rw [← unP_getD hi, List.getD_eq_getElem?_getD, List.getElem?_eq_getElem (by rw [unP_len]; exact hi)]
            exact List.getElem_mem _)
          rw [e0, eL] at hmi
          have hI : iX R i = (unR (R.getD i [])).1 - (unR (R.getD 0 [])).1 := w64_eq (n := (unR (R.getD i [])).1 - (unR (R.getD 0 [])).1) (by omega)
          rw [unP_drop hi, dnGo] at p3
          conv => whnf
          refine ⟨mixed, [(15, [30])], [(1, []), (4, []), (6, []), (11, []), (13, []), (14, [])], [], by kernel_rfl, ?_⟩
          conv => whnf
          refine ⟨⟨by omega, k2⟩, ?_⟩
          conv => whnf
          refine ⟨⟨by omega, k2⟩, ?_⟩
          conv => whnf
          refine ⟨by show 0 ≤ iX R i ∧ iX R i < ((c.length : Nat) : Int); rw [hI, p2, hN]; omega, ?_⟩
          conv => whnf
          refine ⟨(i + 1, c.set (iX R i).toNat (unR (R.getD i [])).2), ⟨hi, by show (((c.set _ _).length : Nat) : Int) = nX R; rw [List.length_set]; exact p2, ?_⟩, by show R.length - (i + 1) < R.length - i; omega, ⟨rfl, rfl, rfl, rfl, hnx, trivial⟩, ⟨rfl, rfl, rfl, trivial⟩⟩
          show dnGo _ _ (c.set (iX R i).toNat _) = v
          rw [hI]; exact p3
        · have k2 : ¬ (i : Int) < ((R.length : Nat) : Int) := of_decide_eq_false c2
          rw [List.drop_eq_nil_of_le (by rw [unP_len]; omega), dnGo] at p3
          subst p3
          conv => whnf
          exact hk
  · exact hk.elim
end Sx
