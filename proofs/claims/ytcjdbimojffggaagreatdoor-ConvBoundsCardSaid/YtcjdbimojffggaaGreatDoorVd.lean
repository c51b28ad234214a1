/- Part of the proof: a machine of states for walks, and contracts of functions over it. Conditions: those that each theorem names. -/
import Derived.Test.YtcjdbimojffggaaGreatDoorVc
set_option linter.unusedVariables false
set_option linter.unusedSimpArgs false
/-! Contracts: both sides laid. -/
namespace Sx
open Go Go.Proofs
set_option linter.unusedVariables false
set_option maxRecDepth 30000
variable {G : Glob}
def bigS (f : Int) (l : List Int) : Bool := decide ((trim f l).1 > 2147483647)
/-- a point with other sides -/
def ExpD.lay (e : ExpD) (p n : Int × List Int) : ExpD := { e with offP := w32 p.1, cP := p.2, unkP := nos, offN := w32 n.1, cN := n.2, unkN := nos }
def laysS : List U → List Blk → Out RF
  | [.c (.p 50000 0), .c (.p 50001 0), .a [.v (.int .i64 f), .d 38 (.ints l)], .a [.v (.int .i64 g), .d 38 (.ints m)]], [.cells 181 [.v (.bool bad)], .cells 44 xc] => match asExp xc with
    | some e => .need (l.length ≤ 68719476736 ∧ m.length ≤ 68719476736) (wp1 (bad || (bigS f l || bigS g m)) fun c =>
      bif c then .ret (.u (.c (errV 9)), [some (.cells 181 [Bo bad]), some (.cells 44 e.cells)], []) else .ret (.u (.c nilV), [some (.cells 181 [Bo bad]), some (.cells 44 (e.lay (trim f l) (trim g m)).cells)], []))
    | none => .fail
  | _, _ => .fail
theorem lays_ok : OkF G 102 laysS := by
  have hS : AllSound (B [(140, .pure (normG (B []) [185] bucketsS)), (112, .full (normF (B []) [228] errS))]) G := .cons _ buckets_ok (.consF _ err_ok noneS)
  refine okF false hS Tryz.func102 rfl (by decide) fun K us lent hk => ?_
  unfold laysS at hk
  split at hk
  · rename_i f l g m bad xc
    split at hk
    · rename_i e he
      rw [asExp_eq he]
      refine ⟨by show 4 ≤ _; decide, ?_⟩
      obtain ⟨⟨h1, h2⟩, hk⟩ := hk
      have hk := hk _ rfl
      have err : (bad || (bigS f l || bigS g m)) = true → K (.u (.c (errV 9)), [some (.cells 181 [Bo bad]), some (.cells 44 e.cells)], []) := fun h => by rw [h] at hk; exact hk
      conv => whnf
      refine ⟨h1, ?_⟩
      conv => whnf
      intro c1 hc1
      have hc1 : bigS f l = c1 := hc1
      cases c1
      · conv => whnf
        refine ⟨h2, ?_⟩
        conv => whnf
        intro c2 hc2
        have hc2 : bigS g m = c2 := hc2
        cases c2
        · conv => whnf
          intro c3 hc3
          subst hc3
          cases bad
          · rw [hc1, hc2] at hk
            conv => whnf
            refine ⟨mixed, [(6, [50001]), (9, [50001])], [], [], by kernel_rfl, ?_⟩
            conv => whnf
            exact hk
          · conv => whnf
            intro c4 hc4
            subst hc4
            conv => whnf
            exact err rfl
        · conv => whnf
          intro c3 hc3
          subst hc3
          cases bad
          · conv => whnf
            exact err (by rw [hc1, hc2]; rfl)
          · conv => whnf
            intro c4 hc4
            subst hc4
            conv => whnf
            exact err rfl
      · conv => whnf
        refine ⟨h2, ?_⟩
        conv => whnf
        intro c2 hc2
        cases c2
        · conv => whnf
          intro c3 hc3
          subst hc3
          cases bad
          · conv => whnf
            exact err (by rw [hc1]; rfl)
          · conv => whnf
            intro c4 hc4
            subst hc4
            conv => whnf
            exact err rfl
        · conv => whnf
          intro c3 hc3
          subst hc3
          cases bad
          · conv => whnf
            exact err (by rw [hc1]; rfl)
          · conv => whnf
            intro c4 hc4
            subst hc4
            conv => whnf
            exact err rfl
    · exact hk.elim
  · exact hk.elim
end Sx
/-! Contracts: a point fitted. -/
namespace Sx
open Go Go.Proofs
set_option linter.unusedVariables false
set_option maxRecDepth 30000
variable {G : Glob}
def noE (s : Int) : ExpD := ⟨.rows [], 0, 0, 0, false, 0, false, 0, false, 0, s, 0, false, 0, [], nos, false, 0, [], nos, .rows [], 0, 0, nos⟩
def rawP (e : ExpD) (n : Nat) (bad : Bool) : Int × List Int × Bool := downL (bif e.hasP then w64 e.offP else 0) (bif e.hasP then e.cP else []) n bad
def rawN (e : ExpD) (n : Nat) (bad : Bool) : Int × List Int × Bool := downL (bif e.hasN then w64 e.offN else 0) (bif e.hasN then e.cN else []) n bad
def fitBad (e : ExpD) (n : Nat) : Bool := (rawN e n (rawP e n false).2.2).2.2 || (bigS (rawP e n false).1 (rawP e n false).2.1 || bigS (rawN e n (rawP e n false).2.2).1 (rawN e n (rawP e n false).2.2).2.1)
def fitE (e : ExpD) (n : Nat) (s : Int) : ExpD := ({ e with scale := w32 s }).lay (trim (rawP e n false).1 (rawP e n false).2.1) (trim (rawN e n (rawP e n false).2.2).1 (rawN e n (rawP e n false).2.2).2.1)
def fitS (k : Nat) : List U → Out SV
  | [.a l, .c (.v (.int .i64 most))] => match asExp l with
    | some e => .need (Fits e ∧ Typ TB (.sl 30) e.attrs ∧ Dp k e.attrs ∧ Typ TB (.sl 32) e.ex ∧ Dp k e.ex) (.all (Option (Int × Int × Int)) (fun o => shV e (noE e.scale) most = o) ⟨_, rfl⟩ fun o => match o with
      | none => .ret (.t [.a (noE 0).cells, .c (errV 9)])
      | some r => .need (0 ≤ r.1 ∧ r.1 ≤ 31) (wp1 (fitBad e r.1.toNat) fun c => bif c then .ret (.t [.a (noE 0).cells, .c (errV 9)]) else .ret (.t [.a (fitE e r.1.toNat r.2.2).cells, .c nilV])))
    | none => .fail
  | _ => .fail
theorem fit_ok {k : Nat} : Ok G 65 (fitS k) := by
  have hS : AllSound (B [(101, .pure (normG (B []) [44, 44, 3] shiftsS)), (64, .pure (normG (B []) [44] (twS k))), (104, .pure (normG (B []) [4, 42] sideOfS)), (103, .full (normF (B []) [228, 185, 3] downS)), (102, .full (normF (B []) [228, 183, 185, 185] laysS))]) G :=
    .cons _ shifts_ok (.cons _ twExp_ok (.cons _ sideOf_ok (.consF _ down_ok (.consF _ lays_ok noneS))))
  refine okP hS Tryz.func65 rfl (by decide) fun K us hk => ?_
  unfold fitS at hk
  split at hk
  · rename_i l most
    split at hk
    · rename_i e he
      rw [asExp_eq he]
      refine ⟨by show 2 ≤ _; decide, ?_⟩
      obtain ⟨⟨hF, h1, h2, h3, h4⟩, hk⟩ := hk
      have hk := hk _ rfl
      conv => whnf
      refine ⟨⟨hF, by show Fits (noE e.scale); exact ⟨by simp [noE], by simp [noE], by simp [noE], by simp [noE], by simp [noE], by simp [noE], hF.2.2.2.2.2.2⟩⟩, ?_⟩
      conv => whnf
      intro o ho
      have ho : shV e (noE e.scale) most = o := ho
      rw [ho] at hk
      cases o with
      | none =>
        conv => whnf
        exact hk
      | some r =>
        obtain ⟨⟨hr1, hr2⟩, hk⟩ := hk
        have hk := hk _ rfl
        have oP : -1099511627776 ≤ (bif e.hasP then w64 e.offP else 0) ∧ (bif e.hasP then w64 e.offP else 0) ≤ 1099511627776 := by
          obtain ⟨_, _, q1, q2, _⟩ := hF
          cases e.hasP
          · exact ⟨by simp, by simp⟩
          · show -1099511627776 ≤ w64 e.offP ∧ w64 e.offP ≤ 1099511627776
            rw [w64_eq (by omega)]; omega
        have oN : -1099511627776 ≤ (bif e.hasN then w64 e.offN else 0) ∧ (bif e.hasN then w64 e.offN else 0) ≤ 1099511627776 := by
          obtain ⟨_, _, _, _, q1, q2, _⟩ := hF
          cases e.hasN
          · exact ⟨by simp, by simp⟩
          · show -1099511627776 ≤ w64 e.offN ∧ w64 e.offN ≤ 1099511627776
            rw [w64_eq (by omega)]; omega
        have lP := Nat.le_trans (side_len e.hasP e.cP) hF.1
        have lN := Nat.le_trans (side_len e.hasN e.cN) hF.2.1
        conv => whnf
        refine ⟨⟨h1, h2, h3, h4, hF.1, hF.2.1⟩, ?_⟩
        conv => whnf
        refine ⟨mixed, [(6, [10]), (13, [10]), (14, [10, 11])], [], [], by kernel_rfl, ?_⟩
        conv => whnf
        refine ⟨⟨Nat.le_trans lP (by decide), oP.1, oP.2, hr1, hr2⟩, ?_⟩
        conv => whnf
        refine ⟨⟨Nat.le_trans lN (by decide), oN.1, oN.2, hr1, hr2⟩, ?_⟩
        conv => whnf
        refine ⟨⟨Nat.le_trans (downL_len _ _ _ _) (Nat.le_trans lP (by decide)), Nat.le_trans (downL_len _ _ _ _) (Nat.le_trans lN (by decide))⟩, ?_⟩
        conv => whnf
        intro c hc
        have hc : fitBad e r.1.toNat = c := hc
        rw [hc] at hk
        cases c
        · conv => whnf
          exact hk
        · conv => whnf
          exact hk
    · exact hk.elim
  · exact hk.elim
end Sx
/-! Contracts: values alike. -/
namespace Sx
open Go Go.Proofs
set_option linter.unusedVariables false
set_option maxRecDepth 30000
variable {G : Glob}
theorem ne_no {n : Int} (h : (n != n) = true) : False := by simp at h
def bufEqS : List U → Out SV
  | [.a [.v (.int .i32 f), .d 38 (.ints l), .v (.string s)], .a [.v (.int .i32 g), .d 38 (.ints m), .v (.string t)]] => .need (l.length ≤ 68719476736 ∧ f = g ∧ l = m ∧ s = t) (one (Bo true))
  | _ => .fail
noncomputable def u1s : List (FuncId × Spec) := [(72, .pure (normG (B []) [38, 38] numsS))]
theorem u1s_ok : AllSound (B u1s) G := .cons _ nums_ok noneS
theorem bufEq_ok : Ok G 73 bufEqS := by
  refine okP u1s_ok Tryz.func73 rfl (by decide) fun K us hk => ?_
  unfold bufEqS at hk
  split at hk
  · rename_i f l s g m t
    refine ⟨by show 2 ≤ _; decide, ?_⟩
    obtain ⟨⟨h1, rfl, rfl, rfl⟩, hk⟩ := hk
    conv => whnf
    refine Ask.i (fun c1 => ?_) (fun c1 => ?_)
    · conv => whnf
      refine ⟨⟨h1, h1⟩, ?_⟩
      conv => whnf
      refine Ask.i (fun c2 => ?_) (fun c2 => ?_)
      · conv => whnf
        refine fin hk ?_
        have e : (s.toList == s.toList) = true := by simp
        exact congrArg (fun z => SV.u (.c (Bo z))) e.symm
      · have c2 : decide (l = l) = false := c2
        simp at c2
    · have c1 : (f == f) = false := c1
      simp at c1
  · exact hk.elim
end Sx
/-! Contracts: values alike, attributes alike. -/
namespace Sx
open Go Go.Proofs
set_option linter.unusedVariables false
set_option maxRecDepth 30000
variable {G : Glob}
def valEqS (k : Nat) : List U → Out SV
  | [.a [.v (.int .i64 kd), .v (.string s), .v (.bool b), .v (.int .u64 n), .d 161 x, .d 30 m, .v (.string i), .v (.string u)], .a [.v (.int .i64 kd'), .v (.string s'), .v (.bool b'), .v (.int .u64 n'), .d 161 x', .d 30 m', .v (.string i'), .v (.string u')]] =>
    .need (VGood k x m ∧ kd = kd' ∧ s = s' ∧ b = b' ∧ n = n' ∧ x = x' ∧ m = m' ∧ i = i' ∧ u = u') (one (Bo true))
  | _ => .fail
def keyEqS (k : Nat) : List U → Out SV
  | [.a [.v (.string ky), .v (.bool h), .v (.int .i64 kd), .v (.string s), .v (.bool b), .v (.int .u64 n), .d 161 x, .d 30 m, .v (.string i), .v (.string u), .v (.string w)], .a [.v (.string ky'), .v (.bool h'), .v (.int .i64 kd'), .v (.string s'), .v (.bool b'), .v (.int .u64 n'), .d 161 x', .d 30 m', .v (.string i'), .v (.string u'), .v (.string w')]] =>
    .need (VGood k x m ∧ ky = ky' ∧ h = h' ∧ kd = kd' ∧ s = s' ∧ b = b' ∧ n = n' ∧ x = x' ∧ m = m' ∧ i = i' ∧ u = u' ∧ w = w') (one (Bo true))
  | _ => .fail
def keysEqS (k : Nat) : List U → Out SV
  | [.c (.d 30 x), .c (.d 30 y)] => .need (Typ TB (.sl 30) x ∧ Dp k x ∧ x = y) (one (Bo true))
  | _ => .fail
theorem keyEq_ok {k : Nat} (hV : Ok G 148 (valEqS k)) : Ok G 115 (keyEqS k) := by
  have hS : AllSound (B [(148, .pure (normG (B []) [163, 163] (valEqS k)))]) G := .cons _ hV noneS
  refine okP hS Tryz.func115 rfl (by decide) fun K us hk => ?_
  unfold keyEqS at hk
  split at hk
  · rename_i ky h kd s b n x m i u w ky' h' kd' s' b' n' x' m' i' u' w'
    refine ⟨by show 2 ≤ _; decide, ?_⟩
    obtain ⟨⟨hg, rfl, rfl, rfl, rfl, rfl, rfl, rfl, rfl, rfl, rfl, rfl⟩, hk⟩ := hk
    conv => whnf
    refine Ask.i (fun c1 => ?_) (fun c1 => ?_)
    · conv => whnf
      refine Ask.i (fun c2 => ?_) (fun c2 => ?_)
      · conv => whnf
        refine Ask.i (fun c3 => ?_) (fun c3 => ?_)
        · conv => whnf
          refine ⟨⟨hg, rfl, rfl, rfl, rfl, rfl, rfl, rfl, rfl⟩, ?_⟩
          conv => whnf
          exact hk
        · have c3 : (w.toList == w.toList) = false := c3
          simp at c3
      · have c2 : (h == h) = false := c2
        simp at c2
    · have c1 : (ky.toList == ky.toList) = false := c1
      simp at c1
  · exact hk.elim
theorem keysEq_ok (k : Nat) (hK : ∀ m, k = m + 1 → Ok G 115 (keyEqS m)) : Ok G 69 (keysEqS k) := by
  cases k with
  | zero =>
    refine okP noneS Tryz.func69 rfl (by decide) fun K us hk => ?_
    unfold keysEqS at hk
    split at hk
    · obtain ⟨⟨h1, h2, _⟩, _⟩ := hk
      obtain ⟨l, rfl, _⟩ := h1.sl rfl
      obtain ⟨m, h, _⟩ := h2.sl
      cases h
    · exact hk.elim
  | succ m =>
    have hS : AllSound (B [(115, .pure (normG (B []) [165, 165] (keyEqS m)))]) G := .cons _ (hK m rfl) noneS
    refine okP hS Tryz.func69 rfl (by decide) fun K us hk => ?_
    unfold keysEqS at hk
    split at hk
    · rename_i x y
      refine ⟨by show 2 ≤ _; decide, ?_⟩
      obtain ⟨⟨hT, hDp, rfl⟩, hk⟩ := hk
      obtain ⟨l, rfl, hl, hrow⟩ := hT.sl rfl
      obtain ⟨m', hm', hlen, hdp⟩ := hDp.sl
      obtain rfl : m = m' := by omega
      conv => whnf
      refine Ask.i (fun c1 => ?_) (fun c1 => ?_)
      · have c1 : (((l.length : Nat) : Int) != ((l.length : Nat) : Int)) = true := c1
        simp at c1
      conv => whnf
      refine ⟨[], _, _, rfl, Nat, (fun i => ([(0, .u (.c (.d 30 (.rows l)))), (1, .u (.c (.d 30 (.rows l)))), (5, .u (.c (I64 (i : Nat))))], [])),
        (fun i => i ≤ l.length), (fun i => l.length - i), fun x _ => rfl, ⟨0, Nat.zero_le _, ⟨rfl, rfl, rfl, trivial⟩, trivial⟩, ?_⟩
      intro i hi0
      conv => whnf
      refine Ask.i (fun c2 => ?_) (fun c2 => ?_)
      · have c2 : (i : Int) < ((l.length : Nat) : Int) := of_decide_eq_true c2
        have hi : i < l.length := by omega
        have hR := hrow _ (getD_mem (a := []) hi)
        have hD := hdp _ (getD_mem (a := []) hi)
        have hl11 : (l.getD i []).length = 11 := hR.1
        conv => whnf
        refine ⟨mixed, [], [], [], by kernel_rfl, ?_⟩
        conv => whnf
        refine ⟨⟨by omega, c2⟩, ?_⟩
        conv => whnf
        refine ⟨⟨by omega, c2⟩, ?_⟩
        conv => whnf
        refine ⟨⟨⟨hR.2 6 _ rfl, Dp.cell hD (by rw [hl11]; decide), hR.2 7 _ rfl, Dp.cell hD (by rw [hl11]; decide)⟩, rfl, rfl, rfl, rfl, rfl, rfl, rfl, rfl, rfl, rfl, rfl⟩, ?_⟩
        conv => whnf
        refine ⟨i + 1, hi, by show l.length - (i + 1) < l.length - i; omega, ⟨rfl, rfl, congrArg (fun z : Int => some (SV.u (.c (I64 z)))) (w64_eq (n := (i : Int) + 1) (by omega)), trivial⟩, trivial⟩
      · conv => whnf
        exact hk
    · exact hk.elim
end Sx
/-! Contracts: values alike, closed; exemplars, counts, points alike. -/
namespace Sx
open Go Go.Proofs
set_option linter.unusedVariables false
set_option maxRecDepth 30000
variable {G : Glob}
theorem nf {α : Type} [BEq α] [ReflBEq α] {p : Prop} (x : α) (c : (x == x) = false) : p := by simp at c
theorem nt {α : Type} [BEq α] [ReflBEq α] {p : Prop} (x : α) (c : (x != x) = true) : p := by simp [bne] at c
theorem Bo_self {α : Type} [BEq α] [ReflBEq α] (x : α) : SV.u (.c (Bo true)) = SV.u (.c (Bo (x == x))) := by simp
theorem valEq_ok {k : Nat} (hK : Ok G 69 (keysEqS k)) (hV : ∀ m, k = m + 1 → Ok G 148 (valEqS m)) : Ok G 148 (valEqS k) := by
  cases k with
  | zero =>
    refine okP noneS Tryz.func148 rfl (by decide) fun K us hk => ?_
    unfold valEqS at hk
    split at hk
    · obtain ⟨⟨⟨h1, h2, _⟩, _⟩, _⟩ := hk
      obtain ⟨l, rfl, _⟩ := h1.sl rfl
      obtain ⟨m, h, _⟩ := h2.sl
      cases h
    · exact hk.elim
  | succ k =>
    have hS : AllSound (B [(69, .pure (normG (B []) [30, 30] (keysEqS (k + 1)))), (148, .pure (normG (B []) [163, 163] (valEqS k)))]) G := .cons _ hK (.cons _ (hV k rfl) noneS)
    refine okP hS Tryz.func148 rfl (by decide) fun K us hk => ?_
    unfold valEqS at hk
    split at hk
    · rename_i kd s b n x m i u kd' s' b' n' x' m' i' u'
      refine ⟨by show 2 ≤ _; decide, ?_⟩
      obtain ⟨⟨⟨hT, hDp, hM, hMD⟩, rfl, rfl, rfl, rfl, rfl, rfl, rfl, rfl⟩, hk⟩ := hk
      obtain ⟨l, rfl, hl, hrow⟩ := hT.sl rfl
      obtain ⟨m', hm', hlen, hdp⟩ := hDp.sl
      obtain rfl : k = m' := by omega
      conv => whnf
      refine Ask.i (fun c => nt (kd) c) (fun _ => ?_)
      conv => whnf
      refine Ask.i (fun c => nt (s.toList) c) (fun _ => ?_)
      conv => whnf
      refine Ask.i (fun c => nt (b) c) (fun _ => ?_)
      conv => whnf
      refine Ask.i (fun c => nt (n) c) (fun _ => ?_)
      conv => whnf
      refine Ask.i (fun c => nt (i.toList) c) (fun _ => ?_)
      conv => whnf
      refine Ask.i (fun c => nt (u.toList) c) (fun _ => ?_)
      conv => whnf
      refine Ask.i (fun c => nt ((l.length : Nat) : Int) c) (fun _ => ?_)
      conv => whnf
      refine ⟨⟨hM, hMD, rfl⟩, ?_⟩
      conv => whnf
      refine ⟨[], _, _, rfl, Nat, (fun j => ([(2, .u (.c (.p 2 0))), (3, .u (.c (.p 3 0))), (5, .u (.c (I64 (j : Nat))))], [(2, .cells 163 [I64 kd, St s, Bo b, U64 n, .d 161 (.rows l), .d 30 m, St i, St u]), (3, .cells 163 [I64 kd, St s, Bo b, U64 n, .d 161 (.rows l), .d 30 m, St i, St u])])),
        (fun j => j ≤ l.length), (fun j => l.length - j), fun x _ => rfl, ⟨0, Nat.zero_le _, ⟨rfl, rfl, rfl, trivial⟩, ⟨rfl, rfl, trivial⟩⟩, ?_⟩
      intro j hj0
      conv => whnf
      refine Ask.i (fun c2 => ?_) (fun c2 => ?_)
      · have c2 : (j : Int) < ((l.length : Nat) : Int) := of_decide_eq_true c2
        have hj : j < l.length := by omega
        have hR := hrow _ (getD_mem (a := []) hj)
        have hD := hdp _ (getD_mem (a := []) hj)
        have hl8 : (l.getD j []).length = 8 := hR.1
        conv => whnf
        refine ⟨mixed, [], [], [], by kernel_rfl, ?_⟩
        conv => whnf
        refine ⟨⟨by omega, c2⟩, ?_⟩
        conv => whnf
        refine ⟨⟨by omega, c2⟩, ?_⟩
        conv => whnf
        refine ⟨⟨⟨hR.2 4 _ rfl, Dp.cell hD (by rw [hl8]; decide), hR.2 5 _ rfl, Dp.cell hD (by rw [hl8]; decide)⟩, rfl, rfl, rfl, rfl, rfl, rfl, rfl, rfl⟩, ?_⟩
        conv => whnf
        refine ⟨j + 1, hj, by show l.length - (j + 1) < l.length - j; omega, ⟨rfl, rfl, congrArg (fun z : Int => some (SV.u (.c (I64 z)))) (w64_eq (n := (j : Int) + 1) (by omega)), trivial⟩, ⟨rfl, rfl, trivial⟩⟩
      · conv => whnf
        exact hk
    · exact hk.elim
theorem valEq_all : ∀ k : Nat, Ok G 148 (valEqS k)
  | 0 => valEq_ok (keysEq_ok 0 fun m h => by omega) (fun m h => by omega)
  | k + 1 => valEq_ok (keysEq_ok (k + 1) fun m h => by cases h; exact keyEq_ok (valEq_all k)) (fun m h => by cases h; exact valEq_all k)
theorem keysEq_all (k : Nat) : Ok G 69 (keysEqS k) := keysEq_ok k fun m h => keyEq_ok (valEq_all m)
def exEqS (k : Nat) : List U → Out SV
  | [.a [.d 30 m, .v (.int .u64 t), .v (.int .i64 kd), .v (.int .u64 n), .v (.string s), .v (.string tr), .v (.string u)], .a [.d 30 m', .v (.int .u64 t'), .v (.int .i64 kd'), .v (.int .u64 n'), .v (.string s'), .v (.string tr'), .v (.string u')]] =>
    .need ((Typ TB (.sl 30) m ∧ Dp k m) ∧ m = m' ∧ t = t' ∧ kd = kd' ∧ n = n' ∧ s = s' ∧ tr = tr' ∧ u = u') (one (Bo true))
  | _ => .fail
theorem exEq_ok {k : Nat} : Ok G 116 (exEqS k) := by
  have hS : AllSound (B [(69, .pure (normG (B []) [30, 30] (keysEqS k)))]) G := .cons _ (keysEq_all k) noneS
  refine okP hS Tryz.func116 rfl (by decide) fun K us hk => ?_
  unfold exEqS at hk
  split at hk
  · rename_i m t kd n s tr u m' t' kd' n' s' tr' u'
    refine ⟨by show 2 ≤ _; decide, ?_⟩
    obtain ⟨⟨⟨h1, h2⟩, rfl, rfl, rfl, rfl, rfl, rfl, rfl⟩, hk⟩ := hk
    conv => whnf
    refine ⟨⟨h1, h2, rfl⟩, ?_⟩
    conv => whnf
    refine Ask.i (fun _ => ?_) (fun c => nf (t) c)
    conv => whnf
    refine Ask.i (fun _ => ?_) (fun c => nf (kd) c)
    conv => whnf
    refine Ask.i (fun _ => ?_) (fun c => nf (n) c)
    conv => whnf
    refine Ask.i (fun _ => ?_) (fun c => nf (s.toList) c)
    conv => whnf
    refine Ask.i (fun _ => ?_) (fun c => nf (tr.toList) c)
    conv => whnf
    exact fin hk (Bo_self u.toList)
  · exact hk.elim
def exsEqS (k : Nat) : List U → Out SV
  | [.c (.d 32 x), .c (.d 32 y)] => .need (Typ TB (.sl 32) x ∧ Dp k x ∧ x = y) (one (Bo true))
  | _ => .fail
theorem exsEq_ok (k : Nat) : Ok G 70 (exsEqS k) := by
  cases k with
  | zero =>
    refine okP noneS Tryz.func70 rfl (by decide) fun K us hk => ?_
    unfold exsEqS at hk
    split at hk
    · obtain ⟨⟨h1, h2, _⟩, _⟩ := hk
      obtain ⟨l, rfl, _⟩ := h1.sl rfl
      obtain ⟨m, h, _⟩ := h2.sl
      cases h
    · exact hk.elim
  | succ m =>
    have hS : AllSound (B [(116, .pure (normG (B []) [160, 160] (exEqS m)))]) G := .cons _ exEq_ok noneS
    refine okP hS Tryz.func70 rfl (by decide) fun K us hk => ?_
    unfold exsEqS at hk
    split at hk
    · rename_i x y
      refine ⟨by show 2 ≤ _; decide, ?_⟩
      obtain ⟨⟨hT, hDp, rfl⟩, hk⟩ := hk
      obtain ⟨l, rfl, hl, hrow⟩ := hT.sl rfl
      obtain ⟨m', hm', hlen, hdp⟩ := hDp.sl
      obtain rfl : m = m' := by omega
      conv => whnf
      refine Ask.i (fun c => nt ((l.length : Nat) : Int) c) (fun _ => ?_)
      conv => whnf
      refine ⟨[], _, _, rfl, Nat, (fun i => ([(0, .u (.c (.d 32 (.rows l)))), (1, .u (.c (.d 32 (.rows l)))), (5, .u (.c (I64 (i : Nat))))], [])),
        (fun i => i ≤ l.length), (fun i => l.length - i), fun x _ => rfl, ⟨0, Nat.zero_le _, ⟨rfl, rfl, rfl, trivial⟩, trivial⟩, ?_⟩
      intro i hi0
      conv => whnf
      refine Ask.i (fun c2 => ?_) (fun c2 => ?_)
      · have c2 : (i : Int) < ((l.length : Nat) : Int) := of_decide_eq_true c2
        have hi : i < l.length := by omega
        have hR := hrow _ (getD_mem (a := []) hi)
        have hD := hdp _ (getD_mem (a := []) hi)
        have hl7 : (l.getD i []).length = 7 := hR.1
        conv => whnf
        refine ⟨mixed, [], [], [], by kernel_rfl, ?_⟩
        conv => whnf
        refine ⟨⟨by omega, c2⟩, ?_⟩
        conv => whnf
        refine ⟨⟨by omega, c2⟩, ?_⟩
        conv => whnf
        refine ⟨⟨⟨hR.2 0 _ rfl, Dp.cell hD (by rw [hl7]; decide)⟩, rfl, rfl, rfl, rfl, rfl, rfl, rfl⟩, ?_⟩
        conv => whnf
        refine ⟨i + 1, hi, by show l.length - (i + 1) < l.length - i; omega, ⟨rfl, rfl, congrArg (fun z : Int => some (SV.u (.c (I64 z)))) (w64_eq (n := (i : Int) + 1) (by omega)), trivial⟩, trivial⟩
      · conv => whnf
        exact hk
    · exact hk.elim
def optEqS : List U → Out SV
  | [.a [.v (.bool h), .v (.int .u64 n)], .a [.v (.bool h'), .v (.int .u64 n')]] => .need (h = h' ∧ n = n') (one (Bo true))
  | _ => .fail
theorem optEq_ok : Ok G 71 optEqS := by
  refine okP noneS Tryz.func71 rfl (by decide) fun K us hk => ?_
  unfold optEqS at hk
  split at hk
  · rename_i h n h' n'
    refine ⟨by show 2 ≤ _; decide, ?_⟩
    obtain ⟨⟨rfl, rfl⟩, hk⟩ := hk
    conv => whnf
    refine Ask.i (fun _ => ?_) (fun c => nf h c)
    conv => whnf
    exact fin hk (Bo_self n)
  · exact hk.elim
def expEqS (k : Nat) : List U → Out SV
  | [.a l, .a m] => match asExp l with
    | some e => .need (l = m ∧ Typ TB (.sl 30) e.attrs ∧ Dp k e.attrs ∧ Typ TB (.sl 32) e.ex ∧ Dp k e.ex ∧ e.cP.length ≤ 68719476736 ∧ e.cN.length ≤ 68719476736) (one (Bo true))
    | none => .fail
  | _ => .fail
theorem expEq_ok {k : Nat} : Ok G 43 (expEqS k) := by
  have hS : AllSound (B [(69, .pure (normG (B []) [30, 30] (keysEqS k))), (71, .pure (normG (B []) [37, 37] optEqS)), (73, .pure (normG (B []) [42, 42] bufEqS)), (70, .pure (normG (B []) [32, 32] (exsEqS k)))]) G := .cons _ (keysEq_all k) (.cons _ optEq_ok (.cons _ bufEq_ok (.cons _ (exsEq_ok k) noneS)))
  refine okP hS Tryz.func43 rfl (by decide) fun K us hk => ?_
  unfold expEqS at hk
  split at hk
  · rename_i l m
    split at hk
    · rename_i e he
      obtain ⟨⟨rfl, h1, h2, h3, h4, h5, h6⟩, hk⟩ := hk
      rw [asExp_eq he]
      refine ⟨by show 2 ≤ _; decide, ?_⟩
      conv => whnf
      refine ⟨⟨h1, h2, rfl⟩, ?_⟩
      conv => whnf
      refine Ask.i (fun _ => ?_) (fun c => nf (e.start) c)
      conv => whnf
      refine Ask.i (fun _ => ?_) (fun c => nf (e.time) c)
      conv => whnf
      refine Ask.i (fun _ => ?_) (fun c => nf (e.count) c)
      conv => whnf
      refine ⟨⟨rfl, rfl⟩, ?_⟩
      conv => whnf
      refine ⟨⟨rfl, rfl⟩, ?_⟩
      conv => whnf
      refine ⟨⟨rfl, rfl⟩, ?_⟩
      conv => whnf
      refine Ask.i (fun _ => ?_) (fun c => nf (e.scale) c)
      conv => whnf
      refine Ask.i (fun _ => ?_) (fun c => nf (e.zero) c)
      conv => whnf
      refine Ask.i (fun _ => ?_) (fun c => nf (e.hasP) c)
      conv => whnf
      refine ⟨⟨h5, rfl, rfl, rfl⟩, ?_⟩
      conv => whnf
      refine Ask.i (fun _ => ?_) (fun c => nf (e.hasN) c)
      conv => whnf
      refine ⟨⟨h6, rfl, rfl, rfl⟩, ?_⟩
      conv => whnf
      refine ⟨⟨h3, h4, rfl⟩, ?_⟩
      conv => whnf
      refine Ask.i (fun _ => ?_) (fun c => nf (e.flags) c)
      conv => whnf
      refine Ask.i (fun _ => ?_) (fun c => nf (e.thr) c)
      conv => whnf
      exact fin hk (Bo_self e.unk.toList)
    · exact hk.elim
  · exact hk.elim
end Sx
