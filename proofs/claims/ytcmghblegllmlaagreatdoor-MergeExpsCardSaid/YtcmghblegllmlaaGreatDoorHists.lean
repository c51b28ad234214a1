/- Part of the proof: a machine of states for walks, and contracts of functions over it. Conditions: those that each theorem names. -/
import Derived.Test.YtcmghblegllmlaaGreatDoorCon6
import Derived.Test.YtcmghblegllmlaaGreatDoorOpening
import Derived.Test.YtcmghblegllmlaaGreatDoorDbl2
set_option linter.unusedVariables false
set_option linter.unusedSimpArgs false
/-! Points of histograms; how much they hold. -/
namespace Sx
open Go Go.Proofs Go.RowKit
set_option linter.unusedVariables false
set_option maxRecDepth 30000
variable {G : Glob}
structure HistD where
  attrs : D
  start : Int
  time : Int
  count : Int
  sumH : Bool
  sum : Int
  minH : Bool
  min : Int
  maxH : Bool
  max : Int
  cs : List Int
  bs : List Int
  ex : D
  flags : Int
  unk : ByteArray
def HistD.cells (e : HistD) : List C := [.d 22 e.attrs, U64 e.start, U64 e.time, U64 e.count, Bo e.sumH, U64 e.sum, Bo e.minH, U64 e.min, Bo e.maxH, U64 e.max, .d 26 (.ints e.cs), .d 26 (.ints e.bs), .d 27 e.ex, U32 e.flags, St e.unk]
def HistD.row (e : HistD) : List D := [e.attrs, .int e.start, .int e.time, .int e.count, .bool e.sumH, .int e.sum, .bool e.minH, .int e.min, .bool e.maxH, .int e.max, .ints e.cs, .ints e.bs, e.ex, .int e.flags, .str e.unk]
def asHist : List C → Option HistD
  | .d 22 attrs :: .v (.int .u64 start) :: .v (.int .u64 time) :: .v (.int .u64 count) :: .v (.bool sumH) :: .v (.int .u64 sum) :: .v (.bool minH) :: .v (.int .u64 min) :: r1 => match r1 with
    | [.v (.bool maxH), .v (.int .u64 max), .d 26 (.ints cs), .d 26 (.ints bs), .d 27 ex, .v (.int .u32 flags), .v (.string unk)] => some ⟨attrs, start, time, count, sumH, sum, minH, min, maxH, max, cs, bs, ex, flags, unk⟩
    | _ => none
  | _ => none
theorem asHist_eq {l : List C} {e : HistD} (h : asHist l = some e) : l = e.cells := by
  unfold asHist at h
  split at h
  · split at h
    · obtain rfl := Option.some.inj h; rfl
    · cases h
  · cases h
def rowHist : List D → Option HistD
  | attrs :: .int start :: .int time :: .int count :: .bool sumH :: .int sum :: .bool minH :: .int min :: r1 => match r1 with
    | [.bool maxH, .int max, .ints cs, .ints bs, ex, .int flags, .str unk] => some ⟨attrs, start, time, count, sumH, sum, minH, min, maxH, max, cs, bs, ex, flags, unk⟩
    | _ => none
  | _ => none
theorem rowHist_eq {l : List D} {e : HistD} (h : rowHist l = some e) : l = e.row := by
  unfold rowHist at h
  split at h
  · split at h
    · obtain rfl := Option.some.inj h; rfl
    · cases h
  · cases h
structure HistD.Typ (e : HistD) : Prop where
  attrs : Sx.Typ TB (.sl 22) e.attrs
  ex : Sx.Typ TB (.sl 27) e.ex
  lC : e.cs.length ≤ 9223372036854775807
  lB : e.bs.length ≤ 9223372036854775807
  rC : R64 e.cs
  ct : 0 ≤ e.count ∧ e.count < 18446744073709551616
  sm : 0 ≤ e.sum ∧ e.sum < 18446744073709551616
  mn : 0 ≤ e.min ∧ e.min < 18446744073709551616
  mx : 0 ≤ e.max ∧ e.max < 18446744073709551616
structure HistD.Small (e : HistD) : Prop where
  attrs : Sx.Small e.attrs
  ex : Sx.Small e.ex
  lC : e.cs.length ≤ 1500
  lB : e.bs.length ≤ 1500
def roomN (l : Nat) : Int := if (100000 : Int) < (l : Nat) then 100000 else ((l : Nat) : Int)
theorem roomN_spec (l : Nat) : 0 ≤ roomN l ∧ roomN l ≤ 100000 ∧ (roomN l ≤ 1500 → l ≤ 1500) ∧ w64 (8 * roomN l) = 8 * roomN l := by
  have h : 0 ≤ roomN l ∧ roomN l ≤ 100000 ∧ (roomN l ≤ 1500 → l ≤ 1500) := by unfold roomN; split <;> omega
  exact ⟨h.1, h.2.1, h.2.2, w64_eq (by omega)⟩
def rhS : List U → Out SV
  | [.a l, .c (.v (.int .i64 r))] => match asHist l with
    | some e => .need (e.Typ ∧ -1 ≤ r ∧ r ≤ 12000) (left (r - 20) e.Small)
    | none => .fail
  | _ => .fail
theorem roomHist_ok : Ok G 25 rhS := by
  have hS : AllSound (B [(60, .pure (normG (B []) [3, 3] takeS)), (62, .pure (normG (B []) [22, 3, 3] (rkS 100))), (61, .pure (normG (B []) [27, 3] reS))]) G := .cons _ take_ok (.cons _ roomKeys_ok' (.cons _ roomExemplars_ok noneS))
  refine okP hS Tryz.func25 rfl (by decide) fun K us hk => ?_
  unfold rhS at hk
  split at hk
  · rename_i l r
    split at hk
    · rename_i e he
      rw [asHist_eq he]
      refine ⟨by show 2 ≤ _; decide, ?_⟩
      obtain ⟨⟨hT, hr1, hr2⟩, hk⟩ := hk
      have hk : ∀ z : Int, (-1 ≤ z ∧ (0 ≤ z → z ≤ r - 20 ∧ e.Small)) → K (.u (.c (I64 z))) := hk
      have mC := roomN_spec e.cs.length
      have mB := roomN_spec e.bs.length
      have t1 := tk_spec (r := r) (n := (e.unk.size : Nat)) hr1 (Int.natCast_nonneg _)
      have t2 := tk_spec (r := tk r (e.unk.size : Nat)) (n := w64 (8 * roomN e.cs.length)) t1.1 (by omega)
      have t3 := tk_spec (r := tk (tk r (e.unk.size : Nat)) (w64 (8 * roomN e.cs.length))) (n := w64 (8 * roomN e.bs.length)) t2.1 (by omega)
      conv => whnf
      refine ⟨mixed, [], [], [], by kernel_rfl, ?_⟩
      conv => whnf
      refine ⟨⟨hr1, by omega, Int.natCast_nonneg _⟩, ?_⟩
      conv => whnf
      refine ⟨⟨t1.1, by show tk r (e.unk.size : Nat) ≤ _; omega, by show 0 ≤ w64 (8 * roomN e.cs.length); omega⟩, ?_⟩
      conv => whnf
      refine ⟨⟨t2.1, by show tk (tk r (e.unk.size : Nat)) (w64 (8 * roomN e.cs.length)) ≤ 1000000; omega, by show 0 ≤ w64 (8 * roomN e.bs.length); omega⟩, ?_⟩
      generalize hx : tk (tk (tk r (e.unk.size : Nat)) (w64 (8 * roomN e.cs.length))) (w64 (8 * roomN e.bs.length)) = x at *
      conv => whnf
      refine ⟨mixed, [], [], [], by kernel_rfl, ?_⟩
      conv => whnf
      have x1 : -1 ≤ x ∧ x ≤ 12000 := by omega
      refine ⟨⟨hT.attrs, by decide, by decide, by decide, ?_, ?_⟩, ?_⟩
      · rw [← hx] at x1; exact x1.1
      · rw [← hx] at x1; exact x1.2
      conv => whnf
      rintro z ⟨z1, z2⟩
      have z2 : 0 ≤ z → z ≤ tk (tk (tk r (e.unk.size : Nat)) (w64 (8 * roomN e.cs.length))) (w64 (8 * roomN e.bs.length)) ∧ Small e.attrs := z2
      rw [hx] at z2
      conv => whnf
      refine ⟨⟨hT.ex, z1, ?_⟩, ?_⟩
      · by_cases h0 : 0 ≤ z
        · have := z2 h0; omega
        · omega
      conv => whnf
      rintro v ⟨v1, v2⟩
      have v2 : 0 ≤ v → v ≤ z ∧ Small e.ex := v2
      conv => whnf
      refine hk v ⟨v1, fun h0 => ?_⟩
      obtain ⟨a1, a2⟩ := v2 h0
      obtain ⟨b1, b2⟩ := z2 (by omega)
      have q3 := t3.2.2 (by omega)
      have q2 := t2.2.2 (by omega)
      have q1 := t1.2.2 (by omega)
      exact ⟨by omega, b2, a2, mC.2.2.1 (by omega), mB.2.2.1 (by omega)⟩
    · exact hk.elim
  · exact hk.elim
def fewHS : List U → Out SV
  | [.c (.d 33 (.rows [r1, r2]))] => match rowHist r1, rowHist r2 with
    | some a, some b => .need (a.Typ ∧ b.Typ) (ifB (a.Small ∧ b.Small))
    | _, _ => .fail
  | [.c (.d 33 (.rows [r1, r2, r3]))] => match rowHist r1, rowHist r2, rowHist r3 with
    | some a, some b, some c => .need (a.Typ ∧ b.Typ ∧ c.Typ) (ifB (a.Small ∧ b.Small ∧ c.Small))
    | _, _, _ => .fail
  | _ => .fail
theorem fewH_ok : Ok G 6 fewHS := by
  have hS : AllSound (B [(25, .pure (normG (B []) [30, 3] rhS))]) G := .cons _ roomHist_ok noneS
  refine okP hS Tryz.func6 rfl (by decide) fun K us hk => ?_
  unfold fewHS at hk
  split at hk
  · rename_i r1 r2
    split at hk
    · rename_i a b ha hb
      rw [rowHist_eq ha, rowHist_eq hb]
      refine ⟨by show 1 ≤ _; decide, ?_⟩
      obtain ⟨⟨hTa, hTb⟩, hk⟩ := hk
      have hk : ∀ z : Bool, (z = true → a.Small ∧ b.Small) → K (.u (.c (Bo z))) := hk
      conv => whnf
      refine ⟨[], _, _, rfl, Nat × Int, (fun y => ([(0, .u (.c (.d 33 (.rows [a.row, b.row])))), (3, .u (.c (I64 y.2))), (4, .u (.c (I64 (y.1 : Nat))))], [])),
        (fun y => y.1 ≤ 2 ∧ -1 ≤ y.2 ∧ y.2 ≤ 12000 ∧ (0 ≤ y.2 → (1 ≤ y.1 → a.Small) ∧ (2 ≤ y.1 → b.Small))), (fun y => 2 - y.1), fun x _ => rfl, ⟨(0, 12000), ⟨by decide, by decide, by decide, fun _ => ⟨fun h => by simp at h, fun h => by simp at h⟩⟩, ⟨rfl, rfl, rfl, trivial⟩, trivial⟩, ?_⟩
      rintro ⟨i, r1⟩ ⟨p1, p2, p3, p4⟩
      simp only at p1 p2 p3 p4
      match i, p1 with
      | 0, _ =>
        conv => whnf
        refine ⟨by show (0 : Int) ≤ 0 ∧ (0 : Int) < 2; decide, ?_⟩
        conv => whnf
        refine ⟨⟨hTa, p2, p3⟩, ?_⟩
        conv => whnf
        rintro z ⟨z1, z2⟩
        have z2 : 0 ≤ z → z ≤ r1 - 20 ∧ a.Small := z2
        conv => whnf
        refine ⟨(1, z), ⟨by simp, z1, ?_, fun h0 => ⟨fun _ => (z2 h0).2, fun h => by simp at h⟩⟩, by show 2 - 1 < 2 - 0; decide, ⟨rfl, rfl, rfl, trivial⟩, trivial⟩
        by_cases h0 : 0 ≤ z
        · have := z2 h0; simp only; omega
        · simp only; omega
      | 1, _ =>
        conv => whnf
        refine ⟨by show (0 : Int) ≤ 1 ∧ (1 : Int) < 2; decide, ?_⟩
        conv => whnf
        refine ⟨⟨hTb, p2, p3⟩, ?_⟩
        conv => whnf
        rintro z ⟨z1, z2⟩
        have z2 : 0 ≤ z → z ≤ r1 - 20 ∧ b.Small := z2
        conv => whnf
        refine ⟨(2, z), ⟨by simp, z1, ?_, fun h0 => ⟨fun _ => (p4 (by have := (z2 h0).1; omega)).1 (by decide), fun _ => (z2 h0).2⟩⟩, by show 2 - 2 < 2 - 1; decide, ⟨rfl, rfl, rfl, trivial⟩, trivial⟩
        by_cases h0 : 0 ≤ z
        · have := z2 h0; simp only; omega
        · simp only; omega
      | 2, _ =>
        conv => whnf
        exact hk _ fun hb => ⟨(p4 (of_decide_eq_true hb)).1 (by decide), (p4 (of_decide_eq_true hb)).2 (by decide)⟩
      | i + 3, h => omega
    · exact hk.elim
  · rename_i r1 r2 r3
    split at hk
    · rename_i a b c ha hb hc
      rw [rowHist_eq ha, rowHist_eq hb, rowHist_eq hc]
      refine ⟨by show 1 ≤ _; decide, ?_⟩
      obtain ⟨⟨hTa, hTb, hTc⟩, hk⟩ := hk
      have hk : ∀ z : Bool, (z = true → a.Small ∧ b.Small ∧ c.Small) → K (.u (.c (Bo z))) := hk
      conv => whnf
      refine ⟨[], _, _, rfl, Nat × Int, (fun y => ([(0, .u (.c (.d 33 (.rows [a.row, b.row, c.row])))), (3, .u (.c (I64 y.2))), (4, .u (.c (I64 (y.1 : Nat))))], [])),
        (fun y => y.1 ≤ 3 ∧ -1 ≤ y.2 ∧ y.2 ≤ 12000 ∧ (0 ≤ y.2 → (1 ≤ y.1 → a.Small) ∧ (2 ≤ y.1 → b.Small) ∧ (3 ≤ y.1 → c.Small))), (fun y => 3 - y.1), fun x _ => rfl, ⟨(0, 12000), ⟨by decide, by decide, by decide, fun _ => ⟨fun h => by simp at h, fun h => by simp at h, fun h => by simp at h⟩⟩, ⟨rfl, rfl, rfl, trivial⟩, trivial⟩, ?_⟩
      rintro ⟨i, r1⟩ ⟨p1, p2, p3, p4⟩
      simp only at p1 p2 p3 p4
      match i, p1 with
      | 0, _ =>
        conv => whnf
        refine ⟨by show (0 : Int) ≤ 0 ∧ (0 : Int) < 3; decide, ?_⟩
        conv => whnf
        refine ⟨⟨hTa, p2, p3⟩, ?_⟩
        conv => whnf
        rintro z ⟨z1, z2⟩
        have z2 : 0 ≤ z → z ≤ r1 - 20 ∧ a.Small := z2
        conv => whnf
        refine ⟨(1, z), ⟨by simp, z1, ?_, fun h0 => ⟨fun _ => (z2 h0).2, fun h => by simp at h, fun h => by simp at h⟩⟩, by show 3 - 1 < 3 - 0; decide, ⟨rfl, rfl, rfl, trivial⟩, trivial⟩
        by_cases h0 : 0 ≤ z
        · have := z2 h0; simp only; omega
        · simp only; omega
      | 1, _ =>
        conv => whnf
        refine ⟨by show (0 : Int) ≤ 1 ∧ (1 : Int) < 3; decide, ?_⟩
        conv => whnf
        refine ⟨⟨hTb, p2, p3⟩, ?_⟩
        conv => whnf
        rintro z ⟨z1, z2⟩
        have z2 : 0 ≤ z → z ≤ r1 - 20 ∧ b.Small := z2
        conv => whnf
        refine ⟨(2, z), ⟨by simp, z1, ?_, fun h0 => ⟨fun _ => (p4 (by have := (z2 h0).1; omega)).1 (by decide), fun _ => (z2 h0).2, fun h => by simp at h⟩⟩, by show 3 - 2 < 3 - 1; decide, ⟨rfl, rfl, rfl, trivial⟩, trivial⟩
        by_cases h0 : 0 ≤ z
        · have := z2 h0; simp only; omega
        · simp only; omega
      | 2, _ =>
        conv => whnf
        refine ⟨by show (0 : Int) ≤ 2 ∧ (2 : Int) < 3; decide, ?_⟩
        conv => whnf
        refine ⟨⟨hTc, p2, p3⟩, ?_⟩
        conv => whnf
        rintro z ⟨z1, z2⟩
        have z2 : 0 ≤ z → z ≤ r1 - 20 ∧ c.Small := z2
        conv => whnf
        refine ⟨(3, z), ⟨by simp, z1, ?_, fun h0 => ⟨fun _ => (p4 (by have := (z2 h0).1; omega)).1 (by decide), fun _ => (p4 (by have := (z2 h0).1; omega)).2.1 (by decide), fun _ => (z2 h0).2⟩⟩, by show 3 - 3 < 3 - 2; decide, ⟨rfl, rfl, rfl, trivial⟩, trivial⟩
        by_cases h0 : 0 ≤ z
        · have := z2 h0; simp only; omega
        · simp only; omega
      | 3, _ =>
        conv => whnf
        exact hk _ fun hb => ⟨(p4 (of_decide_eq_true hb)).1 (by decide), (p4 (of_decide_eq_true hb)).2.1 (by decide), (p4 (of_decide_eq_true hb)).2.2 (by decide)⟩
      | i + 4, h => omega
    · exact hk.elim
  · exact hk.elim
def goodH (t : TypeId) : Bool := [30, 22, 23, 25, 4, 26, 27, 28, 9, 122, 124, 126, 115, 3].contains t
theorem goodH_ok : ∀ t, goodH t = true → goodB (B []).tt goodH t = true := by
  intro t ht
  have h : [30, 22, 23, 25, 4, 26, 27, 28, 9, 122, 124, 126, 115, 3].all (fun t => goodB (B []).tt goodH t) = true := by kernel_rfl
  exact List.all_eq_true.1 h t (by simpa [goodH] using ht)
theorem open_hist {H : Type} {enc : TypeId × Value → H} {w : World} {base : Nat} {spare : Nat → Bool} {held : Bool} {fuel : Nat} {cs : List Value} {x : DataW H × List MemPlace}
    (h : DataW.trod enc Tryz.prog w base spare held fuel 30 cs = some x) : ∃ e : HistD, e.Typ ∧ All2 (DenC TB w (fun _ => none) (fun _ => False) (fun _ => none)) e.cells cs := by
  obtain ⟨l, rfl, hl⟩ := opened (S := B []) (BT []) goodH_ok fuel 30 _ cs x rfl rfl h
  have hl : All2 (OpC TB w) [.sl 22, .int .u64, .int .u64, .int .u64, .bool, .int .u64, .bool, .int .u64, .bool, .int .u64, .sl 26, .sl 26, .sl 27, .int .u32, .str] l := hl
  match l, hl with
  | [p0, p1, p2, p3, p4, p5, p6, p7, p8, p9, p10, p11, p12, p13, p14], hl =>
    obtain ⟨q0, q1, q2, q3, q4, q5, q6, q7, q8, q9, q10, q11, q12, q13, q14, _⟩ := hl
    obtain ⟨n1, rfl, _⟩ := q1.intC
    obtain ⟨n2, rfl, _⟩ := q2.intC
    obtain ⟨n3, rfl, ct1, ct2⟩ := q3.intC
    obtain ⟨n4, rfl⟩ := q4.boolC
    obtain ⟨n5, rfl, s1, s2⟩ := q5.intC
    obtain ⟨n6, rfl⟩ := q6.boolC
    obtain ⟨n7, rfl, s3, s4⟩ := q7.intC
    obtain ⟨n8, rfl⟩ := q8.boolC
    obtain ⟨n9, rfl, s5, s6⟩ := q9.intC
    obtain ⟨v10, l10, rfl, r10, lC, rC⟩ := q10.slI (k := .u64) (by kernel_rfl)
    obtain ⟨v11, l11, rfl, r11, lB, _⟩ := q11.slI (k := .u64) (by kernel_rfl)
    obtain ⟨n13, rfl, _⟩ := q13.intC
    obtain ⟨n14, rfl⟩ := q14.strC
    have ku : IntKind.u64.min = 0 ∧ IntKind.u64.max = 18446744073709551615 := by decide
    rw [ku.1, ku.2] at rC
    rw [ku.1] at ct1 s1 s3 s5
    rw [ku.2] at ct2 s2 s4 s6
    refine ⟨⟨p0.2, n1, n2, n3, n4, n5, n6, n7, n8, n9, l10, l11, p12.2, n13, n14⟩,
      ⟨q0.2, q12.2, lC, lB, fun x hx => ⟨(rC x hx).1, Int.lt_add_one_of_le (rC x hx).2⟩, ⟨ct1, Int.lt_add_one_of_le ct2⟩, ⟨s1, Int.lt_add_one_of_le s2⟩, ⟨s3, Int.lt_add_one_of_le s4⟩, ⟨s5, Int.lt_add_one_of_le s6⟩⟩, ?_⟩
    exact ⟨q0.1, ⟨rfl, rfl⟩, ⟨rfl, rfl⟩, ⟨rfl, rfl⟩, ⟨rfl, rfl⟩, ⟨rfl, rfl⟩, ⟨rfl, rfl⟩, ⟨rfl, rfl⟩, ⟨rfl, rfl⟩, ⟨rfl, rfl⟩, r10, r11, q12.1, ⟨rfl, rfl⟩, ⟨rfl, rfl⟩, trivial⟩
def DpH (k : Nat) (e : HistD) : Prop := Dp k e.attrs ∧ Dp k e.ex
theorem HistD.Small.dpH {e : HistD} (h : e.Small) : ∃ k, DpH k e := by
  obtain ⟨k, hk⟩ := h.attrs.dp
  obtain ⟨m, hm⟩ := h.ex.dp
  exact ⟨k + m, hk.mono (by omega), hm.mono (by omega)⟩
end Sx
/-! Contracts: histograms: alike in their bounds, twins. -/
namespace Sx
open Go Go.Proofs
set_option linter.unusedVariables false
set_option maxRecDepth 30000
variable {G : Glob}
theorem equal_ok : Ok G 63 numsS := by
  refine okP noneS Tryz.func63 rfl (by decide) fun K us hk => ?_
  unfold numsS at hk
  split at hk
  · rename_i a b
    refine ⟨by show 2 ≤ _; decide, ?_⟩
    obtain ⟨⟨ha, hb⟩, hk⟩ := hk
    conv => whnf
    refine Ask.i (fun c1 => ?_) (fun c1 => ?_)
    · have c1 : ((a.length : Int) != (b.length : Int)) = true := c1
      conv => whnf
      refine fin hk ?_
      have : decide (a = b) = false := by
        refine decide_eq_false fun e => ?_
        subst e
        simp at c1
      rw [this]
      try rfl
    · have c1 : ((a.length : Int) != (b.length : Int)) = false := c1
      have hab : a.length = b.length := by simp at c1; omega
      conv => whnf
      refine ⟨[], _, _, rfl, Nat, (fun i => ([(0, .u (.c (.d 26 (.ints a)))), (1, .u (.c (.d 26 (.ints b)))), (12, .u (.c (I64 (a.length : Nat)))), (13, .u (.c (I64 (i : Nat))))], [])),
        (fun i => i ≤ a.length ∧ a.take i = b.take i), (fun i => a.length - i), fun x _ => rfl, ⟨0, ⟨Nat.zero_le _, rfl⟩, ⟨rfl, rfl, rfl, rfl, trivial⟩, trivial⟩, ?_⟩
      rintro i ⟨p1, p2⟩
      conv => whnf
      refine Ask.i (fun c2 => ?_) (fun c2 => ?_)
      · have c2 : (i : Int) < (a.length : Int) := of_decide_eq_true c2
        have hi : i < a.length := by omega
        have hj : i < b.length := by omega
        conv => whnf
        refine ⟨mixed, [], [], [], by kernel_rfl, ?_⟩
        conv => whnf
        refine ⟨⟨by omega, c2⟩, ?_⟩
        conv => whnf
        refine ⟨⟨by omega, by show (i : Int) < (b.length : Int); omega⟩, ?_⟩
        conv => whnf
        have e1 : a.getD i 0 = a[i] := by rw [List.getD_eq_getElem?_getD, List.getElem?_eq_getElem hi]; rfl
        have e2 : b.getD i 0 = b[i] := by rw [List.getD_eq_getElem?_getD, List.getElem?_eq_getElem hj]; rfl
        refine Ask.i (fun c3 => ?_) (fun c3 => ?_)
        · have c3 : (a.getD i 0 != b.getD i 0) = true := c3
          conv => whnf
          refine fin hk ?_
          have : decide (a = b) = false := by
            refine decide_eq_false fun e => ?_
            subst e
            simp at c3
          rw [this]
          try rfl
        · have c3 : (a.getD i 0 != b.getD i 0) = false := c3
          conv => whnf
          refine ⟨i + 1, ⟨hi, ?_⟩, ?_, ⟨rfl, rfl, rfl, ?_, trivial⟩, trivial⟩
          · rw [e1, e2] at c3
            simp only [bne_eq_false_iff_eq] at c3
            rw [List.take_succ_eq_append_getElem hi, List.take_succ_eq_append_getElem hj, p2, c3]
          · show a.length - (i + 1) < a.length - i; omega
          · exact congrArg (fun z : Int => some (SV.u (.c (I64 z)))) (w64_eq (n := (i : Int) + 1) (by omega))
      · have c2 : ¬ (i : Int) < (a.length : Int) := of_decide_eq_false c2
        have hi : i = a.length := by omega
        have : a = b := by
          subst hi
          rw [List.take_length, hab, List.take_length] at p2
          exact p2
        subst this
        simp only [decide_true] at hk
        conv => whnf
        exact hk
  · exact hk.elim
def unlikeB (a b : HistD) : Bool := ((a.cs.length : Nat) : Int) != ((b.cs.length : Nat) : Int) || !(decide (a.bs = b.bs))
def unlikeS : List U → Out SV
  | [.a la, .a lb] => match asHist la, asHist lb with
    | some a, some b => .need (a.bs.length ≤ 68719476736 ∧ b.bs.length ≤ 68719476736) (one (Bo (unlikeB a b)))
    | _, _ => .fail
  | _ => .fail
theorem unlike_ok : Ok G 26 unlikeS := by
  have hS : AllSound (B [(63, .pure (normG (B []) [26, 26] numsS))]) G := .cons _ equal_ok noneS
  refine okP hS Tryz.func26 rfl (by decide) fun K us hk => ?_
  unfold unlikeS at hk
  split at hk
  · split at hk
    · rename_i la lb _ _ a b ha hb
      rw [asHist_eq ha, asHist_eq hb]
      refine ⟨by show 2 ≤ _; decide, ?_⟩
      obtain ⟨⟨h1, h2⟩, hk⟩ := hk
      conv => whnf
      refine Ask.i (fun c1 => ?_) (fun c1 => ?_)
      · have c1 : (((a.cs.length : Nat) : Int) != ((b.cs.length : Nat) : Int)) = true := c1
        conv => whnf
        exact fin hk (congrArg (fun z : Bool => SV.u (.c (Bo z))) (by unfold unlikeB; rw [c1]; rfl))
      · have c1 : (((a.cs.length : Nat) : Int) != ((b.cs.length : Nat) : Int)) = false := c1
        conv => whnf
        refine ⟨⟨h1, h2⟩, ?_⟩
        conv => whnf
        exact fin hk (congrArg (fun z : Bool => SV.u (.c (Bo z))) (by unfold unlikeB; rw [c1]; rfl))
    · exact hk.elim
  · exact hk.elim
def HGood (k : Nat) (e : HistD) : Prop := Typ TB (.sl 22) e.attrs ∧ Dp k e.attrs ∧ Typ TB (.sl 27) e.ex ∧ Dp k e.ex ∧ e.cs.length ≤ 1500 ∧ e.bs.length ≤ 1500
def twHS (k : Nat) : List U → Out SV
  | [.a l] => match asHist l with
    | some e => .need (HGood k e) (agg e.cells)
    | none => .fail
  | _ => .fail
theorem twHist_ok {k : Nat} : Ok G 27 (twHS k) := by
  have hS : AllSound (B [(64, .pure (normG (B []) [22] (keysS k))), (65, .pure (normG (B []) [27, 116] (eachXS k))), (67, .pure (normG (B []) [26] cloneS))]) G := .cons _ (keys_all k) (.cons _ (eachX_ok k fun m _ => ex_ok) (.cons _ clone_ok noneS))
  refine okP hS Tryz.func27 rfl (by decide) fun K us hk => ?_
  unfold twHS at hk
  split at hk
  · rename_i l
    split at hk
    · rename_i e he
      rw [asHist_eq he]
      refine ⟨by show 1 ≤ _; decide, ?_⟩
      obtain ⟨⟨h1, h2, h3, h4, h5, h6⟩, hk⟩ := hk
      conv => whnf
      refine ⟨mixed, [(7, [1]), (9, [1])], [(1, []), (2, []), (4, []), (5, [])], [], by kernel_rfl, ?_⟩
      conv => whnf
      refine ⟨⟨h1, h2⟩, ?_⟩
      conv => whnf
      refine ⟨⟨h3, h4⟩, ?_⟩
      conv => whnf
      refine ⟨mixed, [(7, [1]), (9, [1])], [(1, []), (2, []), (4, []), (5, [])], [], by kernel_rfl, ?_⟩
      conv => whnf
      refine ⟨by show e.cs.length ≤ 68719476736; omega, ?_⟩
      conv => whnf
      refine ⟨by show e.bs.length ≤ 68719476736; omega, ?_⟩
      conv => whnf
      exact hk
    · exact hk.elim
  · exact hk.elim
/-- rows that are alike `c` come as rows of one's own, others as data -/
def cloneC (c : List Int) : List U → List Blk → Out RF
  | [.c (.d 26 (.ints l))], [] => .need (l.length ≤ 68719476736) (wp1 (decide (l = c)) fun b => bif b then .ret (.u (.c (.r 60000 26)), [], [.row 26 (.ints l)]) else .ret (.u (.c (.d 26 (.ints l))), [], []))
  | _, _ => .fail
theorem OkF.byCases {f : FuncId} {g g1 g2 : List U → List Blk → Out (SV × List (Option Blk) × List Blk)} (h1 : OkF G f g1) (h2 : OkF G f g2) (hm : ∀ us ls, (∀ K, (g us ls).wp K → (g1 us ls).wp K) ∨ (∀ K, (g us ls).wp K → (g2 us ls).wp K)) : OkF G f g := by
  refine ⟨h1.1, fun K us lent β X w vals hl hk => ?_⟩
  rcases hm us lent with h | h
  · exact h1.2 K us lent β X w vals hl (h K hk)
  · exact h2.2 K us lent β X w vals hl (h K hk)
def cloneO : List U → List Blk → Out RF
  | [.c (.d 26 (.ints (a :: r)))], [] => .need ((a :: r).length ≤ 68719476736) (.ret (.u (.c (.r 60000 26)), [], [.row 26 (.ints (a :: r))]))
  | _, _ => .fail
def cloneD : List U → List Blk → Out RF
  | [.c (.d 26 (.ints l))], [] => .need (l.length ≤ 68719476736) (.ret (.u (.c (.d 26 (.ints l))), [], []))
  | _, _ => .fail
theorem cloneO_ok : OkF G 67 cloneO := by
  refine okF true noneS Tryz.func67 rfl (by decide) fun K us lent hk => ?_
  unfold cloneO at hk
  split at hk
  · rename_i a r
    refine ⟨by show 1 ≤ _; decide, ?_⟩
    obtain ⟨hl, hk⟩ := hk
    conv => whnf
    intro b hb
    cases b
    · conv => whnf
      refine ⟨by show (a :: r).length ≤ 274877906944; omega, ?_⟩
      conv => whnf
      exact hk
    · cases hb rfl
  · exact hk.elim
theorem cloneD_ok : OkF G 67 cloneD := by
  refine okF false noneS Tryz.func67 rfl (by decide) fun K us lent hk => ?_
  unfold cloneD at hk
  split at hk
  · rename_i l
    refine ⟨by show 1 ≤ _; decide, ?_⟩
    obtain ⟨hl, hk⟩ := hk
    conv => whnf
    intro b hb
    cases b
    · conv => whnf
      refine ⟨by show l.length ≤ 274877906944; omega, ?_⟩
      conv => whnf
      exact hk
    · have : l = [] := List.length_eq_zero_iff.1 (hb rfl)
      subst this
      conv => whnf
      exact hk
  · exact hk.elim
theorem cloneC_ok (a : Int) (r : List Int) : OkF G 67 (cloneC (a :: r)) := OkF.byCases cloneO_ok cloneD_ok fun us ls => by
  unfold cloneC
  split
  · rename_i l
    by_cases h : l = a :: r
    · refine .inl fun K hk => ?_
      subst h
      exact ⟨hk.1, hk.2 true (decide_eq_true rfl)⟩
    · refine .inr fun K hk => ?_
      exact ⟨hk.1, hk.2 false (decide_eq_false h)⟩
  · exact .inl fun K hk => hk.elim
end Sx
/-! Contracts: a histogram's twin with counts of one's own. -/
namespace Sx
open Go Go.Proofs
set_option linter.unusedVariables false
set_option maxRecDepth 30000
variable {G : Glob}
def HistD.cellsW (e : HistD) (c b : C) : List C := [.d 22 e.attrs, U64 e.start, U64 e.time, U64 e.count, Bo e.sumH, U64 e.sum, Bo e.minH, U64 e.min, Bo e.maxH, U64 e.max, c, b, .d 27 e.ex, U32 e.flags, St e.unk]
def twHC (k : Nat) (a : Int) (r : List Int) : List U → List Blk → Out RF
  | [.a l], [] => match asHist l with
    | some e => .need (HGood k e ∧ e.cs = a :: r) (wp1 (decide (e.bs = a :: r)) fun b => bif b then .ret (.u (.a (e.cellsW (.r 60000 26) (.r 60001 26))), [], [.row 26 (.ints e.cs), .row 26 (.ints e.bs)])
      else .ret (.u (.a (e.cellsW (.r 60000 26) (.d 26 (.ints e.bs)))), [], [.row 26 (.ints e.cs)]))
    | none => .fail
  | _, _ => .fail
theorem twHC_ok {k : Nat} {a : Int} {r : List Int} : OkF G 27 (twHC k a r) := by
  have hS : AllSound (B [(64, .pure (normG (B []) [22] (keysS k))), (65, .pure (normG (B []) [27, 116] (eachXS k))), (67, .full (normF (B []) [26] (cloneC (a :: r))))]) G := .cons _ (keys_all k) (.cons _ (eachX_ok k fun m _ => ex_ok) (.consF _ (cloneC_ok a r) noneS))
  refine okF true hS Tryz.func27 rfl (by decide) fun K us lent hk => ?_
  unfold twHC at hk
  split at hk
  · rename_i l
    split at hk
    · rename_i e he
      rw [asHist_eq he]
      refine ⟨by show 1 ≤ _; decide, ?_⟩
      obtain ⟨⟨⟨h1, h2, h3, h4, h5, h6⟩, hc⟩, hk⟩ := hk
      conv => whnf
      refine ⟨mixed, [(7, [1]), (9, [1])], [(1, []), (2, []), (4, []), (5, [])], [], by kernel_rfl, ?_⟩
      conv => whnf
      refine ⟨⟨h1, h2⟩, ?_⟩
      conv => whnf
      refine ⟨⟨h3, h4⟩, ?_⟩
      conv => whnf
      refine ⟨mixed, [(7, [1]), (9, [1])], [(1, []), (2, []), (4, []), (5, [])], [], by kernel_rfl, ?_⟩
      conv => whnf
      refine ⟨by show e.cs.length ≤ 68719476736; omega, ?_⟩
      conv => whnf
      intro b hb
      have hb : decide (e.cs = a :: r) = b := hb
      rw [decide_eq_true hc] at hb
      subst hb
      conv => whnf
      refine ⟨by show e.bs.length ≤ 68719476736; omega, ?_⟩
      conv => whnf
      intro b hb
      have hb : decide (e.bs = a :: r) = b := hb
      have hk := hk b hb
      cases b with
      | true =>
        have hb : e.bs = a :: r := of_decide_eq_true hb
        conv => whnf
        exact hk
      | false =>
        conv => whnf
        exact hk
    · exact hk.elim
  · exact hk.elim
end Sx
/-! Contracts: sums, least and greatest of two, exactly. -/
namespace Sx
open Go Go.Proofs
open Go.Proofs.SxPu (addV subV)
set_option linter.unusedVariables false
set_option maxRecDepth 30000
variable {G : Glob}
def bothT : List U → Out SV
  | [.a [.v (.bool h), .v (.int .u64 n)], .a [.v (.bool h'), .v (.int .u64 n')], .c (.v (.func (.func f) p q))] =>
    bif p.isEmpty && q.isEmpty then (match f with
      | 30 => .need (UU n ∧ UU n') (agg [Bo (h && h'), U64 (bif h && h' then addV n n' else 0)])
      | 31 => agg [Bo (h && h'), U64 (bif h && h' then minV n n' else 0)]
      | 32 => agg [Bo (h && h'), U64 (bif h && h' then maxV n n' else 0)]
      | 37 => .need (UU n ∧ UU n') (agg [Bo (h && h'), U64 (bif h && h' then subV n n' else 0)])
      | _ => .fail) else .fail
  | _ => .fail
theorem both_ex : Ok G 29 bothT := by
  have hS : AllSound (B [(30, .pure (normG (B []) [23, 23] addT)), (31, .pure (normG (B []) [23, 23] minS)), (32, .pure (normG (B []) [23, 23] maxS)), (37, .pure (normG (B []) [23, 23] subT))]) G := .cons _ add_ex (.cons _ minF_ok (.cons _ maxF_ok (.cons _ sub_ex noneS)))
  refine okP hS Tryz.func29 rfl (by decide) fun K us hk => ?_
  unfold bothT at hk
  split at hk
  · rename_i h n h' n' f p q
    refine ⟨by show 3 ≤ _; decide, ?_⟩
    obtain ⟨hpq, hk⟩ := wp_cond_fail hk
    simp only [Bool.and_eq_true, Array.isEmpty_iff] at hpq
    obtain ⟨rfl, rfl⟩ := hpq
    conv => whnf
    refine Ask.i (fun c1 => ?_) (fun c1 => ?_)
    · have c1 : (!h) = true := c1
      obtain rfl : h = false := by simpa using c1
      conv => whnf
      split at hk
      · exact hk.2
      · exact hk
      · exact hk
      · exact hk.2
      · exact hk.elim
    · have c1 : (!h) = false := c1
      obtain rfl : h = true := by simpa using c1
      conv => whnf
      refine Ask.i (fun c2 => ?_) (fun c2 => ?_)
      · have c2 : (!h') = true := c2
        obtain rfl : h' = false := by simpa using c2
        conv => whnf
        split at hk
        · exact hk.2
        · exact hk
        · exact hk
        · exact hk.2
        · exact hk.elim
      · have c2 : (!h') = false := c2
        obtain rfl : h' = true := by simpa using c2
        split at hk
        · conv => whnf
          refine ⟨hk.1, ?_⟩
          conv => whnf
          exact hk.2
        · conv => whnf
          exact hk
        · conv => whnf
          exact hk
        · conv => whnf
          refine ⟨hk.1, ?_⟩
          conv => whnf
          exact hk.2
        · exact hk.elim
  · exact hk.elim
end Sx
/-! Contracts: two histograms added. -/
namespace Sx
open Go Go.Proofs
set_option linter.unusedVariables false
set_option maxRecDepth 30000
variable {G : Glob}
def noH : HistD := ⟨.rows [], 0, 0, 0, false, 0, false, 0, false, 0, [], [], .rows [], 0, nos⟩
def hZip (a b : List Int) : List Int := List.zipWith (fun x y => x64 (x + y)) a b
def hBadL : List Int → List Int → Bool → Bool
  | x :: l, y :: m, bad => hBadL l m (bad || decide (x64 (x + y) < x))
  | _, _, bad => bad
def hBad (a b : HistD) : Bool := hBadL a.cs b.cs (false || decide (x64 (a.count + b.count) < a.count))
def histE (a b : HistD) (z : Int) : HistD := { b with start := a.start, count := x64 (a.count + b.count), cs := hZip a.cs b.cs, sumH := a.sumH && b.sumH, sum := z, minH := a.minH && b.minH, min := bif a.minH && b.minH then minV a.min b.min else 0, maxH := a.maxH && b.maxH, max := bif a.maxH && b.maxH then maxV a.max b.max else 0 }
open Go.Proofs.SxPu (addV subV)
def zS (a b : HistD) : Int := bif a.sumH && b.sumH then addV a.sum b.sum else 0
def mhCore (a b : HistD) : Out SV := wp1 (unlikeB a b) fun c => bif c then .ret (.t [.a noH.cells, .c (errV 13)]) else wp1 (hBad a b) fun c => bif c then .ret (.t [.a noH.cells, .c (errV 9)]) else .ret (.t [.a (histE a b (zS a b)).cells, .c nilV])
def mhistS (k : Nat) (P : HistD → Prop) : List U → Out SV
  | [.a la, .a lb] => match asHist la, asHist lb with
    | some a, some b => .need (HGood k b ∧ a.cs.length ≤ 1500 ∧ a.bs.length ≤ 1500 ∧ UU a.sum ∧ UU b.sum ∧ P b) (mhCore a b)
    | _, _ => .fail
  | _ => .fail
theorem unlike_len {a b : HistD} (h : unlikeB a b = false) : a.cs.length = b.cs.length ∧ a.bs = b.bs := by
  unfold unlikeB at h
  simp only [Bool.or_eq_false_iff, bne_eq_false_iff_eq, Bool.not_eq_false', decide_eq_true_eq] at h
  exact ⟨by omega, h.2⟩
theorem hBadL_nil (l : List Int) (bad : Bool) : hBadL l [] bad = bad := by cases l <;> rfl
theorem hZip_len (a b : List Int) (h : a.length = b.length) : (hZip a b).length = b.length := by unfold hZip; rw [List.length_zipWith]; omega
theorem hZip_set : ∀ (a b c : List Int) (i : Nat), i < a.length → i < b.length → c = hZip (a.take i) (b.take i) ++ b.drop i → c.set i (x64 (a.getD i 0 + b.getD i 0)) = hZip (a.take (i + 1)) (b.take (i + 1)) ++ b.drop (i + 1)
  | [], _, _, _, h, _, _ => by simp at h
  | _ :: _, [], _, _, _, h, _ => by simp at h
  | x :: a, y :: b, c, 0, _, _, h => by
    rw [h]; simp [hZip]
  | x :: a, y :: b, c, i + 1, h1, h2, h => by
    rw [h]
    have := hZip_set a b _ i (by simpa using h1) (by simpa using h2) rfl
    simp only [hZip, List.take_succ_cons, List.zipWith_cons_cons, List.drop_succ_cons, List.cons_append, List.set_cons_succ, List.getD_cons_succ, List.cons.injEq, true_and] at *
    exact this
theorem mhistA_ok {k : Nat} : Ok G 8 (mhistS k fun b => b.cs = []) := by
  have hS : AllSound (B [(26, .pure (normG (B []) [30, 30] unlikeS)), (27, .pure (normG (B []) [30] (twHS k))), (28, .full (normF (B []) [117, 23, 23] plusS)), (29, .pure (normG (B []) [25, 25, 71] bothT)), (33, .full (normF (B []) [117] errS))]) G :=
    .cons _ unlike_ok (.cons _ twHist_ok (.consF _ plus_ok (.cons _ both_ex (.consF _ err_ok noneS))))
  refine okP hS Tryz.func8 rfl (by decide) fun K us hk => ?_
  unfold mhistS at hk
  split at hk
  · split at hk
    · rename_i la lb _ _ a b ha hb
      rw [asHist_eq ha, asHist_eq hb]
      refine ⟨by show 2 ≤ _; decide, ?_⟩
      obtain ⟨⟨hB, h1, h2, us, ut, hn⟩, hk⟩ := hk
      have hk := hk _ rfl
      have hB6 := hB.2.2.2.2.2
      have hB5 := hB.2.2.2.2.1
      conv => whnf
      refine ⟨⟨by show a.bs.length ≤ 68719476736; omega, by show b.bs.length ≤ 68719476736; omega⟩, ?_⟩
      conv => whnf
      refine Ask.i (fun c1 => ?_) (fun c1 => ?_)
      · have c1 : unlikeB a b = true := c1
        rw [c1] at hk
        conv => whnf
        exact hk
      have c1 : unlikeB a b = false := c1
      obtain ⟨e1, e2⟩ := unlike_len c1
      rw [c1] at hk
      conv => whnf
      refine ⟨hB, ?_⟩
      conv => whnf
      have hna : a.cs = [] := List.length_eq_zero_iff.1 (by rw [e1, hn]; rfl)
      have hbad : hBad a b = (false || decide (x64 (a.count + b.count) < a.count)) := by unfold hBad; rw [hna, hBadL]; exact fun _ _ _ _ h => by cases h
      refine ⟨[], _, _, rfl, Unit, (fun _ => ([(2, .u (.c (.p 2 0))), (3, .u (.c (.p 3 0))), (4, .u (.c (.p 4 0))), (5, .u (.c nilV)), (6, .u (.c (.p 6 0))), (7, .u (.c (.p 7 0))), (29, .u (.c (I64 (a.cs.length : Nat)))), (30, .u (.c (I64 0)))],
          [(2, .cells 30 a.cells), (3, .cells 30 b.cells), (4, .cells 30 [.v (.slice none 0 0), U64 0, U64 0, U64 0, Bo false, U64 0, Bo false, U64 0, Bo false, U64 0, .v (.slice none 0 0), .v (.slice none 0 0), .v (.slice none 0 0), U32 0, St nos]), (6, .cells 69 [Bo (false || decide (x64 (a.count + b.count) < a.count))]), (7, .cells 30 ({ b with start := a.start, count := x64 (a.count + b.count) } : HistD).cells)])),
        (fun _ => True), (fun _ => 0), fun x _ => rfl, ⟨(), trivial, ⟨rfl, rfl, rfl, rfl, rfl, rfl, rfl, rfl, trivial⟩, ⟨rfl, rfl, rfl, rfl, rfl, trivial⟩⟩, ?_⟩
      rintro _ _
      conv => whnf
      refine Ask.i (fun c2 => ?_) (fun c2 => ?_)
      · have c2 : (0 : Int) < ((a.cs.length : Nat) : Int) := of_decide_eq_true c2
        rw [hna] at c2; cases c2
      · skip
        conv => whnf
        refine ⟨mixed, [(16, [7]), (18, [7]), (20, [7])], [], [], by kernel_rfl, ?_⟩
        conv => whnf
        refine ⟨⟨us, ut⟩, ?_⟩
        conv => whnf
        have hk := hk _ rfl
        conv => whnf
        intro c hc
        have hc : (false || decide (x64 (a.count + b.count) < a.count)) = c := hc
        rw [hbad, hc] at hk
        cases c with
        | true =>
          conv => whnf
          exact hk
        | false =>
          conv => whnf
          refine fin hk (congrArg (fun l => SV.t [.a ({ histE a b (zS a b) with cs := l }).cells, .c nilV]) (?_ : hZip a.cs b.cs = b.cs))
          rw [hna, hn]; rfl
    · exact hk.elim
  · exact hk.elim
set_option maxHeartbeats 2000000 in
theorem mhistB_ok {k : Nat} {x : Int} {r : List Int} : Ok G 8 (mhistS k fun b => b.cs = x :: r) := by
  have hS : AllSound (B [(26, .pure (normG (B []) [30, 30] unlikeS)), (27, .full (normF (B []) [30] (twHC k x r))), (28, .full (normF (B []) [117, 23, 23] plusS)), (29, .pure (normG (B []) [25, 25, 71] bothT)), (33, .full (normF (B []) [117] errS))]) G :=
    .cons _ unlike_ok (.consF _ twHC_ok (.consF _ plus_ok (.cons _ both_ex (.consF _ err_ok noneS))))
  refine okP hS Tryz.func8 rfl (by decide) fun K us hk => ?_
  unfold mhistS at hk
  split at hk
  · split at hk
    · rename_i la lb _ _ a b ha hb
      rw [asHist_eq ha, asHist_eq hb]
      refine ⟨by show 2 ≤ _; decide, ?_⟩
      obtain ⟨⟨hB, h1, h2, us, ut, hn⟩, hk⟩ := hk
      have hk := hk _ rfl
      have hB6 := hB.2.2.2.2.2
      have hB5 := hB.2.2.2.2.1
      conv => whnf
      refine ⟨⟨by show a.bs.length ≤ 68719476736; omega, by show b.bs.length ≤ 68719476736; omega⟩, ?_⟩
      conv => whnf
      refine Ask.i (fun c1 => ?_) (fun c1 => ?_)
      · have c1 : unlikeB a b = true := c1
        rw [c1] at hk
        conv => whnf
        exact hk
      have c1 : unlikeB a b = false := c1
      obtain ⟨e1, e2⟩ := unlike_len c1
      rw [c1] at hk
      conv => whnf
      refine ⟨⟨hB, hn⟩, ?_⟩
      conv => whnf
      intro w hw
      have hw : decide (b.bs = x :: r) = w := hw
      cases w with
      | true =>
        conv => whnf
        refine ⟨[], _, _, rfl, Nat × List Int × Bool, (fun y => ([(2, .u (.c (.p 2 0))), (3, .u (.c (.p 3 0))), (4, .u (.c (.p 4 0))), (5, .u (.c nilV)), (6, .u (.c (.p 6 0))), (7, .u (.c (.p 7 0))), (28, .u (.c (.d 26 (.ints a.cs)))), (29, .u (.c (I64 (a.cs.length : Nat)))), (30, .u (.c (I64 (y.1 : Nat))))],
            [(2, .cells 30 a.cells), (3, .cells 30 b.cells), (4, .cells 30 [.v (.slice none 0 0), U64 0, U64 0, U64 0, Bo false, U64 0, Bo false, U64 0, Bo false, U64 0, .v (.slice none 0 0), .v (.slice none 0 0), .v (.slice none 0 0), U32 0, St nos]), (6, .cells 69 [Bo y.2.2]), (7, .cells 30 (({ b with start := a.start, count := x64 (a.count + b.count) } : HistD).cellsW (.r 100017 26) (.r 200017 26))), (100017, .row 26 (.ints y.2.1)), (200017, .row 26 (.ints b.bs))])),
          (fun y => y.1 ≤ a.cs.length ∧ y.2.1.length = a.cs.length ∧ y.2.1 = hZip (a.cs.take y.1) (b.cs.take y.1) ++ b.cs.drop y.1 ∧ hBadL (a.cs.drop y.1) (b.cs.drop y.1) y.2.2 = hBad a b), (fun y => a.cs.length - y.1), fun x _ => rfl,
          ⟨(0, b.cs, _), ⟨Nat.zero_le _, e1.symm, by simp [hZip], rfl⟩, ⟨rfl, rfl, rfl, rfl, rfl, rfl, rfl, rfl, rfl, trivial⟩, ⟨rfl, rfl, rfl, rfl, rfl, rfl, rfl, trivial⟩⟩, ?_⟩
        rintro ⟨i, c, bd⟩ ⟨p1, p2, p3, p4⟩
        simp only at p1 p2 p3 p4
        conv => whnf
        refine Ask.i (fun c2 => ?_) (fun c2 => ?_)
        · have c2 : (i : Int) < ((a.cs.length : Nat) : Int) := of_decide_eq_true c2
          have hi : i < a.cs.length := by omega
          have hj : i < b.cs.length := by omega
          have ga : a.cs.getD i 0 = a.cs[i] := by rw [List.getD_eq_getElem?_getD, List.getElem?_eq_getElem hi]; rfl
          have gb : b.cs.getD i 0 = b.cs[i] := by rw [List.getD_eq_getElem?_getD, List.getElem?_eq_getElem hj]; rfl
          conv => whnf
          refine ⟨⟨by omega, c2⟩, ?_⟩
          conv => whnf
          refine ⟨mixed, [(9, [6]), (11, [100017])], [(1, [6]), (5, []), (7, []), (8, []), (10, [6])], [], by kernel_rfl, ?_⟩
          conv => whnf
          refine ⟨⟨by omega, by show (i : Int) < ((b.cs.length : Nat) : Int); omega⟩, ?_⟩
          conv => whnf
          refine ⟨⟨by omega, by show (i : Int) < ((c.length : Nat) : Int); omega⟩, ?_⟩
          conv => whnf
          rw [List.drop_eq_getElem_cons hi, List.drop_eq_getElem_cons hj, hBadL, ← ga, ← gb] at p4
          refine ⟨(i + 1, c.set i (x64 (a.cs.getD i 0 + b.cs.getD i 0)), bd || decide (x64 (a.cs.getD i 0 + b.cs.getD i 0) < a.cs.getD i 0)), ⟨hi, by simp only [List.length_set]; exact p2, ?_, p4⟩, by show a.cs.length - (i + 1) < a.cs.length - i; omega, ⟨rfl, rfl, rfl, rfl, rfl, rfl, rfl, rfl, ?_, trivial⟩, ⟨rfl, rfl, rfl, rfl, rfl, rfl, rfl, trivial⟩⟩
          · exact hZip_set a.cs b.cs c i hi hj p3
          · exact congrArg (fun z : Int => some (SV.u (.c (I64 z)))) (w64_eq (n := (i : Int) + 1) (by omega))
        · have c2 : ¬ (i : Int) < ((a.cs.length : Nat) : Int) := of_decide_eq_false c2
          have hi : i = a.cs.length := by omega
          rw [hi, List.drop_length, show b.cs.drop a.cs.length = [] by rw [e1, List.drop_length]] at p4
          rw [hi, List.take_length, show b.cs.take a.cs.length = b.cs by rw [e1, List.take_length], show b.cs.drop a.cs.length = [] by rw [e1, List.drop_length], List.append_nil] at p3
          have p4 : bd = hBad a b := p4
          conv => whnf
          refine ⟨mixed, [(16, [7]), (18, [7]), (20, [7])], [], [], by kernel_rfl, ?_⟩
          conv => whnf
          refine ⟨⟨us, ut⟩, ?_⟩
          conv => whnf
          have hk := hk _ rfl
          conv => whnf
          intro cc hc
          have hc : bd = cc := hc
          rw [← p4, hc] at hk
          cases cc with
          | true =>
            conv => whnf
            exact hk
          | false =>
            conv => whnf
            exact fin hk (congrArg (fun l => SV.t [.a ({ histE a b (zS a b) with cs := l }).cells, .c nilV]) p3.symm)
      | false =>
        conv => whnf
        refine ⟨[], _, _, rfl, Nat × List Int × Bool, (fun y => ([(2, .u (.c (.p 2 0))), (3, .u (.c (.p 3 0))), (4, .u (.c (.p 4 0))), (5, .u (.c nilV)), (6, .u (.c (.p 6 0))), (7, .u (.c (.p 7 0))), (28, .u (.c (.d 26 (.ints a.cs)))), (29, .u (.c (I64 (a.cs.length : Nat)))), (30, .u (.c (I64 (y.1 : Nat))))],
            [(2, .cells 30 a.cells), (3, .cells 30 b.cells), (4, .cells 30 [.v (.slice none 0 0), U64 0, U64 0, U64 0, Bo false, U64 0, Bo false, U64 0, Bo false, U64 0, .v (.slice none 0 0), .v (.slice none 0 0), .v (.slice none 0 0), U32 0, St nos]), (6, .cells 69 [Bo y.2.2]), (7, .cells 30 (({ b with start := a.start, count := x64 (a.count + b.count) } : HistD).cellsW (.r 100017 26) (.d 26 (.ints b.bs)))), (100017, .row 26 (.ints y.2.1))])),
          (fun y => y.1 ≤ a.cs.length ∧ y.2.1.length = a.cs.length ∧ y.2.1 = hZip (a.cs.take y.1) (b.cs.take y.1) ++ b.cs.drop y.1 ∧ hBadL (a.cs.drop y.1) (b.cs.drop y.1) y.2.2 = hBad a b), (fun y => a.cs.length - y.1), fun x _ => rfl,
          ⟨(0, b.cs, _), ⟨Nat.zero_le _, e1.symm, by simp [hZip], rfl⟩, ⟨rfl, rfl, rfl, rfl, rfl, rfl, rfl, rfl, rfl, trivial⟩, ⟨rfl, rfl, rfl, rfl, rfl, rfl, trivial⟩⟩, ?_⟩
        rintro ⟨i, c, bd⟩ ⟨p1, p2, p3, p4⟩
        simp only at p1 p2 p3 p4
        conv => whnf
        refine Ask.i (fun c2 => ?_) (fun c2 => ?_)
        · have c2 : (i : Int) < ((a.cs.length : Nat) : Int) := of_decide_eq_true c2
          have hi : i < a.cs.length := by omega
          have hj : i < b.cs.length := by omega
          have ga : a.cs.getD i 0 = a.cs[i] := by rw [List.getD_eq_getElem?_getD, List.getElem?_eq_getElem hi]; rfl
          have gb : b.cs.getD i 0 = b.cs[i] := by rw [List.getD_eq_getElem?_getD, List.getElem?_eq_getElem hj]; rfl
          conv => whnf
          refine ⟨⟨by omega, c2⟩, ?_⟩
          conv => whnf
          refine ⟨mixed, [(9, [6]), (11, [100017])], [(1, [6]), (5, []), (7, []), (8, []), (10, [6])], [], by kernel_rfl, ?_⟩
          conv => whnf
          refine ⟨⟨by omega, by show (i : Int) < ((b.cs.length : Nat) : Int); omega⟩, ?_⟩
          conv => whnf
          refine ⟨⟨by omega, by show (i : Int) < ((c.length : Nat) : Int); omega⟩, ?_⟩
          conv => whnf
          rw [List.drop_eq_getElem_cons hi, List.drop_eq_getElem_cons hj, hBadL, ← ga, ← gb] at p4
          refine ⟨(i + 1, c.set i (x64 (a.cs.getD i 0 + b.cs.getD i 0)), bd || decide (x64 (a.cs.getD i 0 + b.cs.getD i 0) < a.cs.getD i 0)), ⟨hi, by simp only [List.length_set]; exact p2, ?_, p4⟩, by show a.cs.length - (i + 1) < a.cs.length - i; omega, ⟨rfl, rfl, rfl, rfl, rfl, rfl, rfl, rfl, ?_, trivial⟩, ⟨rfl, rfl, rfl, rfl, rfl, rfl, trivial⟩⟩
          · exact hZip_set a.cs b.cs c i hi hj p3
          · exact congrArg (fun z : Int => some (SV.u (.c (I64 z)))) (w64_eq (n := (i : Int) + 1) (by omega))
        · have c2 : ¬ (i : Int) < ((a.cs.length : Nat) : Int) := of_decide_eq_false c2
          have hi : i = a.cs.length := by omega
          rw [hi, List.drop_length, show b.cs.drop a.cs.length = [] by rw [e1, List.drop_length]] at p4
          rw [hi, List.take_length, show b.cs.take a.cs.length = b.cs by rw [e1, List.take_length], show b.cs.drop a.cs.length = [] by rw [e1, List.drop_length], List.append_nil] at p3
          have p4 : bd = hBad a b := p4
          conv => whnf
          refine ⟨mixed, [(16, [7]), (18, [7]), (20, [7])], [], [], by kernel_rfl, ?_⟩
          conv => whnf
          refine ⟨⟨us, ut⟩, ?_⟩
          conv => whnf
          have hk := hk _ rfl
          conv => whnf
          intro cc hc
          have hc : bd = cc := hc
          rw [← p4, hc] at hk
          cases cc with
          | true =>
            conv => whnf
            exact hk
          | false =>
            conv => whnf
            exact fin hk (congrArg (fun l => SV.t [.a ({ histE a b (zS a b) with cs := l }).cells, .c nilV]) p3.symm)
    · exact hk.elim
  · exact hk.elim
theorem Ok.byCases {f : FuncId} {g : List U → Out SV} {ι : Type} {gi : ι → List U → Out SV} (i0 : ι) (h : ∀ i, Ok G f (gi i)) (hm : ∀ us, ∃ i, ∀ K, (g us).wp K → (gi i us).wp K) : Ok G f g := by
  refine ⟨(h i0).1, fun K us X w vals hk => ?_⟩
  obtain ⟨i, hi⟩ := hm us
  exact (h i).2 K us X w vals (hi K hk)
theorem mhist_ok {k : Nat} : Ok G 8 (mhistS k fun _ => True) := by
  refine Ok.byCases (ι := Option (Int × List Int)) (gi := fun o => match o with | none => mhistS k fun b => b.cs = [] | some p => mhistS k fun b => b.cs = p.1 :: p.2) none (fun o => by
    cases o with
    | none => exact mhistA_ok
    | some p => exact mhistB_ok) fun us => ?_
  unfold mhistS
  split
  · split
    · rename_i la lb _ _ a b ha hb
      cases hc : b.cs with
      | nil =>
        refine ⟨none, fun K hk => ?_⟩
        simp only [ha, hb]
        exact ⟨⟨hk.1.1, hk.1.2.1, hk.1.2.2.1, hk.1.2.2.2.1, hk.1.2.2.2.2.1, hc⟩, hk.2⟩
      | cons x r =>
        refine ⟨some (x, r), fun K hk => ?_⟩
        simp only [ha, hb]
        exact ⟨⟨hk.1.1, hk.1.2.1, hk.1.2.2.1, hk.1.2.2.2.1, hk.1.2.2.2.2.1, hc⟩, hk.2⟩
    · exact ⟨none, fun K hk => hk.elim⟩
  · exact ⟨none, fun K hk => hk.elim⟩
end Sx
/-! Contracts: a histogram less another. -/
namespace Sx
open Go Go.Proofs
set_option linter.unusedVariables false
set_option maxRecDepth 30000
variable {G : Glob}
def lZip (a b : List Int) : List Int := List.zipWith (fun x y => x64 (x - y)) a b
def lBadL : List Int → List Int → Bool → Bool
  | x :: l, y :: m, bad => lBadL l m (bad || decide (x < y))
  | _, _, bad => bad
def lBad (a b : HistD) : Bool := lBadL a.cs b.cs (false || decide (a.count < b.count))
def lhE (a b : HistD) (z : Int) : HistD := { a with start := b.time, count := x64 (a.count - b.count), cs := lZip a.cs b.cs, sumH := a.sumH && b.sumH, sum := z, minH := false, min := 0, maxH := false, max := 0 }
open Go.Proofs.SxPu (addV subV)
def zD (a b : HistD) : Int := bif a.sumH && b.sumH then subV a.sum b.sum else 0
def lhistS (k : Nat) (P : HistD → Prop) : List U → Out SV
  | [.a la, .a lb] => match asHist la, asHist lb with
    | some a, some b => .need (HGood k a ∧ b.cs.length ≤ 1500 ∧ b.bs.length ≤ 1500 ∧ UU a.sum ∧ UU b.sum ∧ P a) (wp1 (unlikeB a b) fun c => bif c then .ret (.t [.a noH.cells, .c (errV 13)]) else wp1 (lBad a b) fun c => bif c then .ret (.t [.a noH.cells, .c (errV 9)]) else .ret (.t [.a (lhE a b (zD a b)).cells, .c nilV]))
    | _, _ => .fail
  | _ => .fail
theorem lBadL_nil (l : List Int) (bad : Bool) : lBadL l [] bad = bad := by cases l <;> rfl
theorem lZip_set : ∀ (a b c : List Int) (i : Nat), i < a.length → i < b.length → c = lZip (a.take i) (b.take i) ++ a.drop i → c.set i (x64 (a.getD i 0 - b.getD i 0)) = lZip (a.take (i + 1)) (b.take (i + 1)) ++ a.drop (i + 1)
  | [], _, _, _, h, _, _ => by simp at h
  | _ :: _, [], _, _, _, h, _ => by simp at h
  | x :: a, y :: b, c, 0, _, _, h => by
    rw [h]; simp [lZip]
  | x :: a, y :: b, c, i + 1, h1, h2, h => by
    rw [h]
    have := lZip_set a b _ i (by simpa using h1) (by simpa using h2) rfl
    simp only [lZip, List.take_succ_cons, List.zipWith_cons_cons, List.drop_succ_cons, List.cons_append, List.set_cons_succ, List.getD_cons_succ, List.cons.injEq, true_and] at *
    exact this
theorem lhistA_ok {k : Nat} : Ok G 10 (lhistS k fun a => a.cs = []) := by
  have hS : AllSound (B [(26, .pure (normG (B []) [30, 30] unlikeS)), (27, .pure (normG (B []) [30] (twHS k))), (36, .full (normF (B []) [117, 23, 23] lessS)), (29, .pure (normG (B []) [25, 25, 71] bothT)), (33, .full (normF (B []) [117] errS))]) G :=
    .cons _ unlike_ok (.cons _ twHist_ok (.consF _ less_ok (.cons _ both_ex (.consF _ err_ok noneS))))
  refine okP hS Tryz.func10 rfl (by decide) fun K us hk => ?_
  unfold lhistS at hk
  split at hk
  · split at hk
    · rename_i la lb _ _ a b ha hb
      rw [asHist_eq ha, asHist_eq hb]
      refine ⟨by show 2 ≤ _; decide, ?_⟩
      obtain ⟨⟨hB, h1, h2, us, ut, hn⟩, hk⟩ := hk
      have hk := hk _ rfl
      have hB6 := hB.2.2.2.2.2
      have hB5 := hB.2.2.2.2.1
      conv => whnf
      refine ⟨⟨by show a.bs.length ≤ 68719476736; omega, by show b.bs.length ≤ 68719476736; omega⟩, ?_⟩
      conv => whnf
      refine Ask.i (fun c1 => ?_) (fun c1 => ?_)
      · have c1 : unlikeB a b = true := c1
        rw [c1] at hk
        conv => whnf
        exact hk
      have c1 : unlikeB a b = false := c1
      obtain ⟨e1, e2⟩ := unlike_len c1
      rw [c1] at hk
      conv => whnf
      refine ⟨hB, ?_⟩
      conv => whnf
      have hnb : b.cs = [] := List.length_eq_zero_iff.1 (by rw [← e1, hn]; rfl)
      have hbad : lBad a b = (false || decide (a.count < b.count)) := by unfold lBad; rw [hnb, lBadL_nil]
      refine ⟨[], _, _, rfl, Unit, (fun _ => ([(2, .u (.c (.p 2 0))), (3, .u (.c (.p 3 0))), (4, .u (.c (.p 4 0))), (5, .u (.c nilV)), (6, .u (.c (.p 6 0))), (7, .u (.c (.p 7 0))), (29, .u (.c (I64 (b.cs.length : Nat)))), (30, .u (.c (I64 0)))],
          [(2, .cells 30 a.cells), (3, .cells 30 b.cells), (4, .cells 30 [.v (.slice none 0 0), U64 0, U64 0, U64 0, Bo false, U64 0, Bo false, U64 0, Bo false, U64 0, .v (.slice none 0 0), .v (.slice none 0 0), .v (.slice none 0 0), U32 0, St nos]), (6, .cells 69 [Bo (false || decide (a.count < b.count))]), (7, .cells 30 ({ a with start := b.time, count := x64 (a.count - b.count) } : HistD).cells)])),
        (fun _ => True), (fun _ => 0), fun x _ => rfl, ⟨(), trivial, ⟨rfl, rfl, rfl, rfl, rfl, rfl, rfl, rfl, trivial⟩, ⟨rfl, rfl, rfl, rfl, rfl, trivial⟩⟩, ?_⟩
      rintro _ _
      conv => whnf
      refine Ask.i (fun c2 => ?_) (fun c2 => ?_)
      · have c2 : (0 : Int) < ((b.cs.length : Nat) : Int) := of_decide_eq_true c2
        rw [hnb] at c2; cases c2
      · skip
        conv => whnf
        refine ⟨⟨us, ut⟩, ?_⟩
        conv => whnf
        have hk := hk _ rfl
        conv => whnf
        intro cc hc
        have hc : (false || decide (a.count < b.count)) = cc := hc
        rw [hbad, hc] at hk
        cases cc with
        | true =>
          conv => whnf
          exact hk
        | false =>
          conv => whnf
          refine fin hk (congrArg (fun l => SV.t [.a ({ lhE a b (zD a b) with cs := l }).cells, .c nilV]) (?_ : lZip a.cs b.cs = a.cs))
          rw [hnb, hn]; rfl
    · exact hk.elim
  · exact hk.elim
set_option maxHeartbeats 2000000 in
theorem lhistB_ok {k : Nat} {x : Int} {r : List Int} : Ok G 10 (lhistS k fun a => a.cs = x :: r) := by
  have hS : AllSound (B [(26, .pure (normG (B []) [30, 30] unlikeS)), (27, .full (normF (B []) [30] (twHC k x r))), (36, .full (normF (B []) [117, 23, 23] lessS)), (29, .pure (normG (B []) [25, 25, 71] bothT)), (33, .full (normF (B []) [117] errS))]) G :=
    .cons _ unlike_ok (.consF _ twHC_ok (.consF _ less_ok (.cons _ both_ex (.consF _ err_ok noneS))))
  refine okP hS Tryz.func10 rfl (by decide) fun K us hk => ?_
  unfold lhistS at hk
  split at hk
  · split at hk
    · rename_i la lb _ _ a b ha hb
      rw [asHist_eq ha, asHist_eq hb]
      refine ⟨by show 2 ≤ _; decide, ?_⟩
      obtain ⟨⟨hB, h1, h2, us, ut, hn⟩, hk⟩ := hk
      have hk := hk _ rfl
      have hB6 := hB.2.2.2.2.2
      have hB5 := hB.2.2.2.2.1
      conv => whnf
      refine ⟨⟨by show a.bs.length ≤ 68719476736; omega, by show b.bs.length ≤ 68719476736; omega⟩, ?_⟩
      conv => whnf
      refine Ask.i (fun c1 => ?_) (fun c1 => ?_)
      · have c1 : unlikeB a b = true := c1
        rw [c1] at hk
        conv => whnf
        exact hk
      have c1 : unlikeB a b = false := c1
      obtain ⟨e1, e2⟩ := unlike_len c1
      rw [c1] at hk
      conv => whnf
      refine ⟨⟨hB, hn⟩, ?_⟩
      conv => whnf
      intro w hw
      have hw : decide (a.bs = x :: r) = w := hw
      cases w with
      | true =>
        conv => whnf
        refine ⟨[], _, _, rfl, Nat × List Int × Bool, (fun y => ([(2, .u (.c (.p 2 0))), (3, .u (.c (.p 3 0))), (4, .u (.c (.p 4 0))), (5, .u (.c nilV)), (6, .u (.c (.p 6 0))), (7, .u (.c (.p 7 0))), (28, .u (.c (.d 26 (.ints b.cs)))), (29, .u (.c (I64 (b.cs.length : Nat)))), (30, .u (.c (I64 (y.1 : Nat))))],
            [(2, .cells 30 a.cells), (3, .cells 30 b.cells), (4, .cells 30 [.v (.slice none 0 0), U64 0, U64 0, U64 0, Bo false, U64 0, Bo false, U64 0, Bo false, U64 0, .v (.slice none 0 0), .v (.slice none 0 0), .v (.slice none 0 0), U32 0, St nos]), (6, .cells 69 [Bo y.2.2]), (7, .cells 30 (({ a with start := b.time, count := x64 (a.count - b.count) } : HistD).cellsW (.r 100017 26) (.r 200017 26))), (100017, .row 26 (.ints y.2.1)), (200017, .row 26 (.ints a.bs))])),
          (fun y => y.1 ≤ a.cs.length ∧ y.2.1.length = a.cs.length ∧ y.2.1 = lZip (a.cs.take y.1) (b.cs.take y.1) ++ a.cs.drop y.1 ∧ lBadL (a.cs.drop y.1) (b.cs.drop y.1) y.2.2 = lBad a b), (fun y => a.cs.length - y.1), fun x _ => rfl,
          ⟨(0, a.cs, _), ⟨Nat.zero_le _, rfl, by simp [lZip], rfl⟩, ⟨rfl, rfl, rfl, rfl, rfl, rfl, rfl, rfl, rfl, trivial⟩, ⟨rfl, rfl, rfl, rfl, rfl, rfl, rfl, trivial⟩⟩, ?_⟩
        rintro ⟨i, c, bd⟩ ⟨p1, p2, p3, p4⟩
        simp only at p1 p2 p3 p4
        conv => whnf
        refine Ask.i (fun c2 => ?_) (fun c2 => ?_)
        · have c2 : (i : Int) < ((b.cs.length : Nat) : Int) := of_decide_eq_true c2
          have hi : i < a.cs.length := by omega
          have hj : i < b.cs.length := by omega
          have ga : a.cs.getD i 0 = a.cs[i] := by rw [List.getD_eq_getElem?_getD, List.getElem?_eq_getElem hi]; rfl
          have gb : b.cs.getD i 0 = b.cs[i] := by rw [List.getD_eq_getElem?_getD, List.getElem?_eq_getElem hj]; rfl
          conv => whnf
          refine ⟨⟨by omega, c2⟩, ?_⟩
          conv => whnf
          refine ⟨mixed, [(9, [6]), (11, [100017])], [(1, [6]), (4, []), (6, []), (7, []), (10, [6])], [], by kernel_rfl, ?_⟩
          conv => whnf
          refine ⟨⟨by omega, by show (i : Int) < ((a.cs.length : Nat) : Int); omega⟩, ?_⟩
          conv => whnf
          refine ⟨⟨by omega, by show (i : Int) < ((c.length : Nat) : Int); omega⟩, ?_⟩
          conv => whnf
          rw [List.drop_eq_getElem_cons hi, List.drop_eq_getElem_cons hj, lBadL, ← ga, ← gb] at p4
          refine ⟨(i + 1, c.set i (x64 (a.cs.getD i 0 - b.cs.getD i 0)), bd || decide (a.cs.getD i 0 < b.cs.getD i 0)), ⟨hi, by simp only [List.length_set]; exact p2, ?_, p4⟩, by show a.cs.length - (i + 1) < a.cs.length - i; omega, ⟨rfl, rfl, rfl, rfl, rfl, rfl, rfl, rfl, ?_, trivial⟩, ⟨rfl, rfl, rfl, rfl, rfl, rfl, rfl, trivial⟩⟩
          · exact lZip_set a.cs b.cs c i hi hj p3
          · exact congrArg (fun z : Int => some (SV.u (.c (I64 z)))) (w64_eq (n := (i : Int) + 1) (by omega))
        · have c2 : ¬ (i : Int) < ((b.cs.length : Nat) : Int) := of_decide_eq_false c2
          have hi : i = a.cs.length := by omega
          rw [hi, List.drop_length, show b.cs.drop a.cs.length = [] by rw [e1, List.drop_length]] at p4
          rw [hi, List.take_length, show b.cs.take a.cs.length = b.cs by rw [e1, List.take_length], List.drop_length, List.append_nil] at p3
          have p4 : bd = lBad a b := p4
          conv => whnf
          refine ⟨⟨us, ut⟩, ?_⟩
          conv => whnf
          have hk := hk _ rfl
          conv => whnf
          intro cc hc
          have hc : bd = cc := hc
          rw [← p4, hc] at hk
          cases cc with
          | true =>
            conv => whnf
            exact hk
          | false =>
            conv => whnf
            exact fin hk (congrArg (fun l => SV.t [.a ({ lhE a b (zD a b) with cs := l }).cells, .c nilV]) p3.symm)
      | false =>
        conv => whnf
        refine ⟨[], _, _, rfl, Nat × List Int × Bool, (fun y => ([(2, .u (.c (.p 2 0))), (3, .u (.c (.p 3 0))), (4, .u (.c (.p 4 0))), (5, .u (.c nilV)), (6, .u (.c (.p 6 0))), (7, .u (.c (.p 7 0))), (28, .u (.c (.d 26 (.ints b.cs)))), (29, .u (.c (I64 (b.cs.length : Nat)))), (30, .u (.c (I64 (y.1 : Nat))))],
            [(2, .cells 30 a.cells), (3, .cells 30 b.cells), (4, .cells 30 [.v (.slice none 0 0), U64 0, U64 0, U64 0, Bo false, U64 0, Bo false, U64 0, Bo false, U64 0, .v (.slice none 0 0), .v (.slice none 0 0), .v (.slice none 0 0), U32 0, St nos]), (6, .cells 69 [Bo y.2.2]), (7, .cells 30 (({ a with start := b.time, count := x64 (a.count - b.count) } : HistD).cellsW (.r 100017 26) (.d 26 (.ints a.bs)))), (100017, .row 26 (.ints y.2.1))])),
          (fun y => y.1 ≤ a.cs.length ∧ y.2.1.length = a.cs.length ∧ y.2.1 = lZip (a.cs.take y.1) (b.cs.take y.1) ++ a.cs.drop y.1 ∧ lBadL (a.cs.drop y.1) (b.cs.drop y.1) y.2.2 = lBad a b), (fun y => a.cs.length - y.1), fun x _ => rfl,
          ⟨(0, a.cs, _), ⟨Nat.zero_le _, rfl, by simp [lZip], rfl⟩, ⟨rfl, rfl, rfl, rfl, rfl, rfl, rfl, rfl, rfl, trivial⟩, ⟨rfl, rfl, rfl, rfl, rfl, rfl, trivial⟩⟩, ?_⟩
        rintro ⟨i, c, bd⟩ ⟨p1, p2, p3, p4⟩
        simp only at p1 p2 p3 p4
        conv => whnf
        refine Ask.i (fun c2 => ?_) (fun c2 => ?_)
        · have c2 : (i : Int) < ((b.cs.length : Nat) : Int) := of_decide_eq_true c2
          have hi : i < a.cs.length := by omega
          have hj : i < b.cs.length := by omega
          have ga : a.cs.getD i 0 = a.cs[i] := by rw [List.getD_eq_getElem?_getD, List.getElem?_eq_getElem hi]; rfl
          have gb : b.cs.getD i 0 = b.cs[i] := by rw [List.getD_eq_getElem?_getD, List.getElem?_eq_getElem hj]; rfl
          conv => whnf
          refine ⟨⟨by omega, c2⟩, ?_⟩
          conv => whnf
          refine ⟨mixed, [(9, [6]), (11, [100017])], [(1, [6]), (4, []), (6, []), (7, []), (10, [6])], [], by kernel_rfl, ?_⟩
          conv => whnf
          refine ⟨⟨by omega, by show (i : Int) < ((a.cs.length : Nat) : Int); omega⟩, ?_⟩
          conv => whnf
          refine ⟨⟨by omega, by show (i : Int) < ((c.length : Nat) : Int); omega⟩, ?_⟩
          conv => whnf
          rw [List.drop_eq_getElem_cons hi, List.drop_eq_getElem_cons hj, lBadL, ← ga, ← gb] at p4
          refine ⟨(i + 1, c.set i (x64 (a.cs.getD i 0 - b.cs.getD i 0)), bd || decide (a.cs.getD i 0 < b.cs.getD i 0)), ⟨hi, by simp only [List.length_set]; exact p2, ?_, p4⟩, by show a.cs.length - (i + 1) < a.cs.length - i; omega, ⟨rfl, rfl, rfl, rfl, rfl, rfl, rfl, rfl, ?_, trivial⟩, ⟨rfl, rfl, rfl, rfl, rfl, rfl, trivial⟩⟩
          · exact lZip_set a.cs b.cs c i hi hj p3
          · exact congrArg (fun z : Int => some (SV.u (.c (I64 z)))) (w64_eq (n := (i : Int) + 1) (by omega))
        · have c2 : ¬ (i : Int) < ((b.cs.length : Nat) : Int) := of_decide_eq_false c2
          have hi : i = a.cs.length := by omega
          rw [hi, List.drop_length, show b.cs.drop a.cs.length = [] by rw [e1, List.drop_length]] at p4
          rw [hi, List.take_length, show b.cs.take a.cs.length = b.cs by rw [e1, List.take_length], List.drop_length, List.append_nil] at p3
          have p4 : bd = lBad a b := p4
          conv => whnf
          refine ⟨⟨us, ut⟩, ?_⟩
          conv => whnf
          have hk := hk _ rfl
          conv => whnf
          intro cc hc
          have hc : bd = cc := hc
          rw [← p4, hc] at hk
          cases cc with
          | true =>
            conv => whnf
            exact hk
          | false =>
            conv => whnf
            exact fin hk (congrArg (fun l => SV.t [.a ({ lhE a b (zD a b) with cs := l }).cells, .c nilV]) p3.symm)
    · exact hk.elim
  · exact hk.elim
theorem lhist_ok {k : Nat} : Ok G 10 (lhistS k fun _ => True) := by
  refine Ok.byCases (ι := Option (Int × List Int)) (gi := fun o => match o with | none => lhistS k fun b => b.cs = [] | some p => lhistS k fun b => b.cs = p.1 :: p.2) none (fun o => by
    cases o with
    | none => exact lhistA_ok
    | some p => exact lhistB_ok) fun us => ?_
  unfold lhistS
  split
  · split
    · rename_i la lb _ _ a b ha hb
      cases hc : a.cs with
      | nil =>
        refine ⟨none, fun K hk => ?_⟩
        simp only [ha, hb]
        exact ⟨⟨hk.1.1, hk.1.2.1, hk.1.2.2.1, hk.1.2.2.2.1, hk.1.2.2.2.2.1, hc⟩, hk.2⟩
      | cons x r =>
        refine ⟨some (x, r), fun K hk => ?_⟩
        simp only [ha, hb]
        exact ⟨⟨hk.1.1, hk.1.2.1, hk.1.2.2.1, hk.1.2.2.2.1, hk.1.2.2.2.2.1, hc⟩, hk.2⟩
    · exact ⟨none, fun K hk => hk.elim⟩
  · exact ⟨none, fun K hk => hk.elim⟩
end Sx
