/- The law MergeBack answers true at any input. Conditions: the input reads as data of the row's types, and errors.errorType is laid as the program's text lays it. -/
import Derived.Test.YtcmghblegllmlaaDoorHists
import Derived.Test.YtcmghblegllmlaaDoorCon5
import Derived.Test.YtcmghblegllmlaaDoorSides
import Derived.Test.YtcmghblegllmlaaDoorOpening
set_option linter.unusedVariables false
set_option linter.unusedSimpArgs false
/-! Numbers: rooms, sums, differences. -/
namespace Sx
open Go Go.Proofs Go.RowKit
set_option linter.unusedVariables false
set_option maxRecDepth 30000
variable {G : Glob}
structure NumD where
  attrs : D
  start : Int
  time : Int
  kind : Int
  n : Int
  ex : D
  flags : Int
  unk : ByteArray
def NumD.cells (e : NumD) : List C := [.d 40 e.attrs, U64 e.start, U64 e.time, I64 e.kind, U64 e.n, .d 44 e.ex, U32 e.flags, St e.unk]
def asNum : List C → Option NumD
  | [.d 40 attrs, .v (.int .u64 start), .v (.int .u64 time), .v (.int .i64 kind), .v (.int .u64 n), .d 44 ex, .v (.int .u32 flags), .v (.string unk)] => some ⟨attrs, start, time, kind, n, ex, flags, unk⟩
  | _ => none
theorem asNum_eq {l : List C} {e : NumD} (h : asNum l = some e) : l = e.cells := by
  unfold asNum at h
  split at h
  · obtain rfl := Option.some.inj h; rfl
  · cases h
structure NumD.Typ (e : NumD) : Prop where
  attrs : Sx.Typ TB (.sl 40) e.attrs
  ex : Sx.Typ TB (.sl 44) e.ex
  rn : 0 ≤ e.n ∧ e.n < 18446744073709551616
structure NumD.Small (e : NumD) : Prop where
  attrs : Sx.Small e.attrs
  ex : Sx.Small e.ex
def rnS : List U → Out SV
  | [.a l, .c (.v (.int .i64 r))] => match asNum l with
    | some e => .need (e.Typ ∧ -1 ≤ r ∧ r ≤ 12000) (left (r - 20) e.Small)
    | none => .fail
  | _ => .fail
theorem roomNum_ok : Ok G 29 rnS := by
  have hS : AllSound (B [(34, .pure (normG (B []) [3, 3] takeS)), (68, .pure (normG (B []) [40, 3, 3] (rkS 100))), (67, .pure (normG (B []) [44, 3] reS))]) G := .cons _ take_ok (.cons _ roomKeys_ok' (.cons _ roomExemplars_ok noneS))
  refine okP hS Tryd.func29 rfl (by decide) fun K us hk => ?_
  unfold rnS at hk
  split at hk
  · rename_i l r
    split at hk
    · rename_i e he
      rw [asNum_eq he]
      refine ⟨by show 2 ≤ _; decide, ?_⟩
      obtain ⟨⟨hT, hr1, hr2⟩, hk⟩ := hk
      have hk : ∀ z : Int, (-1 ≤ z ∧ (0 ≤ z → z ≤ r - 20 ∧ e.Small)) → K (.u (.c (I64 z))) := hk
      have t1 := tk_spec (r := r) (n := (e.unk.size : Nat)) hr1 (Int.natCast_nonneg _)
      conv => whnf
      refine ⟨mixed, [], [], [], by kernel_rfl, ?_⟩
      conv => whnf
      refine ⟨⟨hr1, by omega, Int.natCast_nonneg _⟩, ?_⟩
      conv => whnf
      refine ⟨⟨hT.attrs, by decide, by decide, by decide, t1.1, by show tk r (e.unk.size : Nat) ≤ 12000; omega⟩, ?_⟩
      conv => whnf
      rintro z ⟨z1, z2⟩
      have z2 : 0 ≤ z → z ≤ tk r (e.unk.size : Nat) ∧ Small e.attrs := z2
      conv => whnf
      refine ⟨⟨hT.ex, z1, ?_⟩, ?_⟩
      · by_cases h0 : 0 ≤ z
        · have := z2 h0; omega
        · omega
      conv => whnf
      rintro v ⟨v1, v2⟩
      have v2 : 0 ≤ v → v ≤ z ∧ Small e.ex := v2
      conv => whnf
      refine hk v ⟨v1, fun h0 => ?_⟩
      obtain ⟨a1, a2⟩ := v2 h0
      obtain ⟨b1, b2⟩ := z2 (by omega)
      have q1 := t1.2.2 (by omega)
      exact ⟨by omega, b2, a2⟩
    · exact hk.elim
  · exact hk.elim
def NGood (k : Nat) (e : NumD) : Prop := Typ TB (.sl 40) e.attrs ∧ Dp k e.attrs ∧ Typ TB (.sl 44) e.ex ∧ Dp k e.ex
def twNS (k : Nat) : List U → Out SV
  | [.a l] => match asNum l with
    | some e => .need (NGood k e) (agg e.cells)
    | none => .fail
  | _ => .fail
theorem twNum_ok {k : Nat} : Ok G 70 (twNS k) := by
  have hS : AllSound (B [(82, .pure (normG (B []) [40] (keysS k))), (83, .pure (normG (B []) [44, 146] (eachXS k)))]) G := .cons _ (keys_all k) (.cons _ (eachX_ok k fun m _ => ex_ok) noneS)
  refine okP hS Tryd.func70 rfl (by decide) fun K us hk => ?_
  unfold twNS at hk
  split at hk
  · rename_i l
    split at hk
    · rename_i e he
      rw [asNum_eq he]
      refine ⟨by show 1 ≤ _; decide, ?_⟩
      obtain ⟨⟨h1, h2, h3, h4⟩, hk⟩ := hk
      conv => whnf
      refine ⟨mixed, [(7, [1]), (9, [1])], [(1, []), (2, []), (4, []), (5, [])], [], by kernel_rfl, ?_⟩
      conv => whnf
      refine ⟨⟨h1, h2⟩, ?_⟩
      conv => whnf
      refine ⟨⟨h3, h4⟩, ?_⟩
      conv => whnf
      exact hk
    · exact hk.elim
  · exact hk.elim
def noNum : NumD := ⟨.rows [], 0, 0, 0, 0, .rows [], 0, nos⟩
def sumBad (x y : Int) : Bool := decide (w64 (w64 x + w64 y) > w64 x) != decide (w64 y > 0)
def numS (k : Nat) : List U → Out SV
  | [.a la, .a lb] => match asNum la, asNum lb with
    | some a, some b => .need (NGood k b) (wp1 (kindsB a.kind b.kind) fun c => bif c then wp1 (b.kind == 1) fun c => bif c then .all Int (fun _ => True) ⟨0, trivial⟩ (fun z => .ret (.t [.a ({ b with start := a.start, n := z } : NumD).cells, .c nilV]))
        else wp1 (sumBad a.n b.n) fun c => bif c then .ret (.t [.a noNum.cells, .c (errV 9)]) else .ret (.t [.a ({ b with start := a.start, n := x64 (w64 (w64 a.n + w64 b.n)) } : NumD).cells, .c nilV])
      else .ret (.t [.a noNum.cells, .c (errV 13)]))
    | _, _ => .fail
  | _ => .fail
theorem num_ok {k : Nat} : Ok G 30 (numS k) := by
  have hS : AllSound (B [(69, .pure (normG (B []) [71, 71] kindsS)), (70, .pure (normG (B []) [71] (twNS k))), (55, .pure (normG (B []) [41, 41] addFS))]) G := .cons _ kinds_ok (.cons _ twNum_ok (.cons _ addF_ok noneS))
  refine okP hS Tryd.func30 rfl (by decide) fun K us hk => ?_
  unfold numS at hk
  split at hk
  · split at hk
    · rename_i la lb _ _ a b ha hb
      rw [asNum_eq ha, asNum_eq hb]
      refine ⟨by show 2 ≤ _; decide, ?_⟩
      obtain ⟨hB, hk⟩ := hk
      have hk := hk _ rfl
      conv => whnf
      refine Ask.i (fun c1 => ?_) (fun c1 => ?_)
      · have c1 : (!(kindsB a.kind b.kind)) = true := c1
        rw [show kindsB a.kind b.kind = false by simpa using c1] at hk
        conv => whnf
        exact hk
      · have c1 : (!(kindsB a.kind b.kind)) = false := c1
        rw [show kindsB a.kind b.kind = true by simpa using c1] at hk
        have hk := hk _ rfl
        conv => whnf
        refine ⟨hB, ?_⟩
        conv => whnf
        refine Ask.i (fun c2 => ?_) (fun c2 => ?_)
        · have c2 : (b.kind == 1) = true := c2
          rw [c2] at hk
          conv => whnf
          intro z hz
          conv => whnf
          exact hk z trivial
        · have c2 : (b.kind == 1) = false := c2
          rw [c2] at hk
          have hk := hk _ rfl
          conv => whnf
          refine ⟨mixed, [], [], [], by kernel_rfl, ?_⟩
          conv => whnf
          refine Ask.i (fun c3 => ?_) (fun c3 => ?_)
          · have c3 : sumBad a.n b.n = true := c3
            rw [c3] at hk
            conv => whnf
            exact hk
          · have c3 : sumBad a.n b.n = false := c3
            rw [c3] at hk
            conv => whnf
            exact hk
    · exact hk.elim
  · exact hk.elim
def difBad (x y : Int) : Bool := decide (w64 (w64 x - w64 y) < w64 x) != decide (w64 y > 0)
def lessNS (k : Nat) : List U → Out SV
  | [.a la, .a lb, .c (.v (.bool false))] => match asNum la, asNum lb with
    | some a, some b => .need (NGood k a) (wp1 (kindsB a.kind b.kind) fun c => bif c then wp1 (a.kind == 1) fun c => bif c then .all Int (fun _ => True) ⟨0, trivial⟩ (fun z => .ret (.t [.a ({ a with start := b.time, n := z } : NumD).cells, .c nilV]))
        else wp1 (difBad a.n b.n) fun c => bif c then .ret (.t [.a noNum.cells, .c (errV 9)]) else .ret (.t [.a ({ a with start := b.time, n := x64 (w64 (w64 a.n - w64 b.n)) } : NumD).cells, .c nilV])
      else .ret (.t [.a noNum.cells, .c (errV 13)]))
    | _, _ => .fail
  | _ => .fail
theorem lessN_ok {k : Nat} : Ok G 31 (lessNS k) := by
  have hS : AllSound (B [(69, .pure (normG (B []) [71, 71] kindsS)), (70, .pure (normG (B []) [71] (twNS k))), (71, .pure (normG (B []) [41, 41] addFS))]) G := .cons _ kinds_ok (.cons _ twNum_ok (.cons _ subF_ok noneS))
  refine okP hS Tryd.func31 rfl (by decide) fun K us hk => ?_
  unfold lessNS at hk
  split at hk
  · split at hk
    · rename_i la lb _ _ a b ha hb
      rw [asNum_eq ha, asNum_eq hb]
      refine ⟨by show 3 ≤ _; decide, ?_⟩
      obtain ⟨hB, hk⟩ := hk
      have hk := hk _ rfl
      conv => whnf
      refine Ask.i (fun c1 => ?_) (fun c1 => ?_)
      · have c1 : (!(kindsB a.kind b.kind)) = true := c1
        rw [show kindsB a.kind b.kind = false by simpa using c1] at hk
        conv => whnf
        exact hk
      · have c1 : (!(kindsB a.kind b.kind)) = false := c1
        rw [show kindsB a.kind b.kind = true by simpa using c1] at hk
        have hk := hk _ rfl
        conv => whnf
        refine ⟨hB, ?_⟩
        conv => whnf
        refine Ask.i (fun c2 => ?_) (fun c2 => ?_)
        · have c2 : (a.kind == 1) = true := c2
          rw [c2] at hk
          conv => whnf
          intro z hz
          conv => whnf
          exact hk z trivial
        · have c2 : (a.kind == 1) = false := c2
          rw [c2] at hk
          have hk := hk _ rfl
          conv => whnf
          refine ⟨mixed, [], [], [], by kernel_rfl, ?_⟩
          conv => whnf
          refine Ask.i (fun c3 => ?_) (fun c3 => ?_)
          · have c3 : difBad a.n b.n = true := c3
            rw [c3] at hk
            conv => whnf
            exact hk
          · have c3 : difBad a.n b.n = false := c3
            rw [c3] at hk
            conv => whnf
            exact hk
    · exact hk.elim
  · exact hk.elim
theorem w64_mod (n : Int) : w64 n = (n + 9223372036854775808) % 18446744073709551616 - 9223372036854775808 := IntKind.wrap_i64 n
/-- the sum less the first is the second -/
theorem num_back {x y : Int} (hx : 0 ≤ x ∧ x < 18446744073709551616) (hy : 0 ≤ y ∧ y < 18446744073709551616) (h : sumBad x y = false) :
    difBad (x64 (w64 (w64 x + w64 y))) x = false ∧ x64 (w64 (w64 (x64 (w64 (w64 x + w64 y))) - w64 x)) = y := by
  unfold sumBad at h
  unfold difBad
  have ex : ∀ n, x64 n = n % 18446744073709551616 := fun n => by
    show IntKind.u64.wrap n = _
    rw [IntKind.wrap_u64]
  simp only [bne_eq_false_iff_eq, decide_eq_decide] at h ⊢
  simp only [w64_mod, ex] at h ⊢
  omega
def goodN (t : TypeId) : Bool := [71, 40, 41, 4, 44, 45, 9, 148, 150, 152, 145, 3].contains t
theorem goodN_ok : ∀ t, goodN t = true → goodB (B []).tt goodN t = true := by
  intro t ht
  have h : [71, 40, 41, 4, 44, 45, 9, 148, 150, 152, 145, 3].all (fun t => goodB (B []).tt goodN t) = true := by kernel_rfl
  exact List.all_eq_true.1 h t (by simpa [goodN] using ht)
theorem open_num {H : Type} {enc : TypeId × Value → H} {w : World} {base : Nat} {spare : Nat → Bool} {held : Bool} {fuel : Nat} {cs : List Value} {x : DataW H × List MemPlace}
    (h : DataW.trod enc Tryd.prog w base spare held fuel 71 cs = some x) : ∃ e : NumD, e.Typ ∧ All2 (DenC TB w (fun _ => none) (fun _ => False) (fun _ => none)) e.cells cs := by
  obtain ⟨l, rfl, hl⟩ := opened (S := B []) (BT []) goodN_ok fuel 71 _ cs x rfl rfl h
  have hl : All2 (OpC TB w) [.sl 40, .int .u64, .int .u64, .int .i64, .int .u64, .sl 44, .int .u32, .str] l := hl
  match l, hl with
  | [p0, p1, p2, p3, p4, p5, p6, p7], hl =>
    obtain ⟨q0, q1, q2, q3, q4, q5, q6, q7, _⟩ := hl
    obtain ⟨n1, rfl, _⟩ := q1.intC
    obtain ⟨n2, rfl, _⟩ := q2.intC
    obtain ⟨n3, rfl, _⟩ := q3.intC
    obtain ⟨n4, rfl, r1, r2⟩ := q4.intC
    obtain ⟨n6, rfl, _⟩ := q6.intC
    obtain ⟨n7, rfl⟩ := q7.strC
    have ku : IntKind.u64.min = 0 ∧ IntKind.u64.max = 18446744073709551615 := by decide
    rw [ku.1] at r1
    rw [ku.2] at r2
    exact ⟨⟨p0.2, n1, n2, n3, n4, p5.2, n6, n7⟩, ⟨q0.2, q5.2, r1, Int.lt_add_one_of_le r2⟩, q0.1, ⟨rfl, rfl⟩, ⟨rfl, rfl⟩, ⟨rfl, rfl⟩, ⟨rfl, rfl⟩, q5.1, ⟨rfl, rfl⟩, ⟨rfl, rfl⟩, trivial⟩
end Sx
/-! Contracts: a histogram less another. -/
namespace Sx
open Go Go.Proofs
set_option linter.unusedVariables false
set_option maxRecDepth 30000
variable {G : Glob}
def lZip (a b : List Int) : List Int := List.zipWith (fun x y => x64 (x - y)) a b
def lBadL : List Int → List Int → Bool → Bool
  | x :: l, y :: m, bad => lBadL l m (bad || decide (x < y))
  | _, _, bad => bad
def lBad (a b : HistD) : Bool := lBadL a.cs b.cs (false || decide (a.count < b.count))
def lhE (a b : HistD) (z : Int) : HistD := { a with start := b.time, count := x64 (a.count - b.count), cs := lZip a.cs b.cs, sumH := a.sumH && b.sumH, sum := z, minH := false, min := 0, maxH := false, max := 0 }
def lhistS (k : Nat) (P : HistD → Prop) : List U → Out SV
  | [.a la, .a lb] => match asHist la, asHist lb with
    | some a, some b => .need (HGood k a ∧ b.cs.length ≤ 1500 ∧ b.bs.length ≤ 1500 ∧ P a) (wp1 (unlikeB a b) fun c => bif c then .ret (.t [.a noH.cells, .c (errV 13)]) else .all Int (fun _ => True) ⟨0, trivial⟩ fun z => wp1 (lBad a b) fun c => bif c then .ret (.t [.a noH.cells, .c (errV 9)]) else .ret (.t [.a (lhE a b z).cells, .c nilV]))
    | _, _ => .fail
  | _ => .fail
theorem lBadL_nil (l : List Int) (bad : Bool) : lBadL l [] bad = bad := by cases l <;> rfl
theorem lZip_set : ∀ (a b c : List Int) (i : Nat), i < a.length → i < b.length → c = lZip (a.take i) (b.take i) ++ a.drop i → c.set i (x64 (a.getD i 0 - b.getD i 0)) = lZip (a.take (i + 1)) (b.take (i + 1)) ++ a.drop (i + 1)
  | [], _, _, _, h, _, _ => by simp at h
  | _ :: _, [], _, _, _, h, _ => by simp at h
  | x :: a, y :: b, c, 0, _, _, h => by
    rw [h]; simp [lZip]
  | x :: a, y :: b, c, i + 1, h1, h2, h => by
    rw [h]
    have := lZip_set a b _ i (by simpa using h1) (by simpa using h2) rfl
    simp only [lZip, List.take_succ_cons, List.zipWith_cons_cons, List.drop_succ_cons, List.cons_append, List.set_cons_succ, List.getD_cons_succ, List.cons.injEq, true_and] at *
    exact this
theorem lhistA_ok {k : Nat} : Ok G 32 (lhistS k fun a => a.cs = []) := by
  have hS : AllSound (B [(51, .pure (normG (B []) [56, 56] unlikeS)), (52, .pure (normG (B []) [56] (twHS k))), (72, .full (normF (B []) [122, 41, 41] lessS)), (54, .pure (normG (B []) [43, 43, 106] bothS)), (37, .full (normF (B []) [122] errS))]) G :=
    .cons _ unlike_ok (.cons _ twHist_ok (.consF _ less_ok (.cons _ both_ok (.consF _ err_ok noneS))))
  refine okP hS Tryd.func32 rfl (by decide) fun K us hk => ?_
  unfold lhistS at hk
  split at hk
  · split at hk
    · rename_i la lb _ _ a b ha hb
      rw [asHist_eq ha, asHist_eq hb]
      refine ⟨by show 2 ≤ _; decide, ?_⟩
      obtain ⟨⟨hB, h1, h2, hn⟩, hk⟩ := hk
      have hk := hk _ rfl
      have hB6 := hB.2.2.2.2.2
      have hB5 := hB.2.2.2.2.1
      conv => whnf
      refine ⟨⟨by show a.bs.length ≤ 68719476736; omega, by show b.bs.length ≤ 68719476736; omega⟩, ?_⟩
      conv => whnf
      refine Ask.i (fun c1 => ?_) (fun c1 => ?_)
      · have c1 : unlikeB a b = true := c1
        rw [c1] at hk
        conv => whnf
        exact hk
      have c1 : unlikeB a b = false := c1
      obtain ⟨e1, e2⟩ := unlike_len c1
      rw [c1] at hk
      conv => whnf
      refine ⟨hB, ?_⟩
      conv => whnf
      have hnb : b.cs = [] := List.length_eq_zero_iff.1 (by rw [← e1, hn]; rfl)
      have hbad : lBad a b = (false || decide (a.count < b.count)) := by unfold lBad; rw [hnb, lBadL_nil]
      refine ⟨[], _, _, rfl, Unit, (fun _ => ([(2, .u (.c (.p 2 0))), (3, .u (.c (.p 3 0))), (4, .u (.c (.p 4 0))), (5, .u (.c nilV)), (6, .u (.c (.p 6 0))), (7, .u (.c (.p 7 0))), (29, .u (.c (I64 (b.cs.length : Nat)))), (30, .u (.c (I64 0)))],
          [(2, .cells 56 a.cells), (3, .cells 56 b.cells), (4, .cells 56 [.v (.slice none 0 0), U64 0, U64 0, U64 0, Bo false, U64 0, Bo false, U64 0, Bo false, U64 0, .v (.slice none 0 0), .v (.slice none 0 0), .v (.slice none 0 0), U32 0, St nos]), (6, .cells 80 [Bo (false || decide (a.count < b.count))]), (7, .cells 56 ({ a with start := b.time, count := x64 (a.count - b.count) } : HistD).cells)])),
        (fun _ => True), (fun _ => 0), fun x _ => rfl, ⟨(), trivial, ⟨rfl, rfl, rfl, rfl, rfl, rfl, rfl, rfl, trivial⟩, ⟨rfl, rfl, rfl, rfl, rfl, trivial⟩⟩, ?_⟩
      rintro _ _
      conv => whnf
      refine Ask.i (fun c2 => ?_) (fun c2 => ?_)
      · have c2 : (0 : Int) < ((b.cs.length : Nat) : Int) := of_decide_eq_true c2
        rw [hnb] at c2; cases c2
      · skip
        conv => whnf
        intro z hz
        have hk := hk z trivial _ rfl
        conv => whnf
        intro cc hc
        have hc : (false || decide (a.count < b.count)) = cc := hc
        rw [hbad, hc] at hk
        cases cc with
        | true =>
          conv => whnf
          exact hk
        | false =>
          conv => whnf
          refine fin hk (congrArg (fun l => SV.t [.a ({ lhE a b z with cs := l }).cells, .c nilV]) (?_ : lZip a.cs b.cs = a.cs))
          rw [hnb, hn]; rfl
    · exact hk.elim
  · exact hk.elim
set_option maxHeartbeats 2000000 in
theorem lhistB_ok {k : Nat} {x : Int} {r : List Int} : Ok G 32 (lhistS k fun a => a.cs = x :: r) := by
  have hS : AllSound (B [(51, .pure (normG (B []) [56, 56] unlikeS)), (52, .full (normF (B []) [56] (twHC k x r))), (72, .full (normF (B []) [122, 41, 41] lessS)), (54, .pure (normG (B []) [43, 43, 106] bothS)), (37, .full (normF (B []) [122] errS))]) G :=
    .cons _ unlike_ok (.consF _ twHC_ok (.consF _ less_ok (.cons _ both_ok (.consF _ err_ok noneS))))
  refine okP hS Tryd.func32 rfl (by decide) fun K us hk => ?_
  unfold lhistS at hk
  split at hk
  · split at hk
    · rename_i la lb _ _ a b ha hb
      rw [asHist_eq ha, asHist_eq hb]
      refine ⟨by show 2 ≤ _; decide, ?_⟩
      obtain ⟨⟨hB, h1, h2, hn⟩, hk⟩ := hk
      have hk := hk _ rfl
      have hB6 := hB.2.2.2.2.2
      have hB5 := hB.2.2.2.2.1
      conv => whnf
      refine ⟨⟨by show a.bs.length ≤ 68719476736; omega, by show b.bs.length ≤ 68719476736; omega⟩, ?_⟩
      conv => whnf
      refine Ask.i (fun c1 => ?_) (fun c1 => ?_)
      · have c1 : unlikeB a b = true := c1
        rw [c1] at hk
        conv => whnf
        exact hk
      have c1 : unlikeB a b = false := c1
      obtain ⟨e1, e2⟩ := unlike_len c1
      rw [c1] at hk
      conv => whnf
      refine ⟨⟨hB, hn⟩, ?_⟩
      conv => whnf
      intro w hw
      have hw : decide (a.bs = x :: r) = w := hw
      cases w with
      | true =>
        conv => whnf
        refine ⟨[], _, _, rfl, Nat × List Int × Bool, (fun y => ([(2, .u (.c (.p 2 0))), (3, .u (.c (.p 3 0))), (4, .u (.c (.p 4 0))), (5, .u (.c nilV)), (6, .u (.c (.p 6 0))), (7, .u (.c (.p 7 0))), (28, .u (.c (.d 22 (.ints b.cs)))), (29, .u (.c (I64 (b.cs.length : Nat)))), (30, .u (.c (I64 (y.1 : Nat))))],
            [(2, .cells 56 a.cells), (3, .cells 56 b.cells), (4, .cells 56 [.v (.slice none 0 0), U64 0, U64 0, U64 0, Bo false, U64 0, Bo false, U64 0, Bo false, U64 0, .v (.slice none 0 0), .v (.slice none 0 0), .v (.slice none 0 0), U32 0, St nos]), (6, .cells 80 [Bo y.2.2]), (7, .cells 56 (({ a with start := b.time, count := x64 (a.count - b.count) } : HistD).cellsW (.r 100017 22) (.r 200017 22))), (100017, .row 22 (.ints y.2.1)), (200017, .row 22 (.ints a.bs))])),
          (fun y => y.1 ≤ a.cs.length ∧ y.2.1.length = a.cs.length ∧ y.2.1 = lZip (a.cs.take y.1) (b.cs.take y.1) ++ a.cs.drop y.1 ∧ lBadL (a.cs.drop y.1) (b.cs.drop y.1) y.2.2 = lBad a b), (fun y => a.cs.length - y.1), fun x _ => rfl,
          ⟨(0, a.cs, _), ⟨Nat.zero_le _, rfl, by simp [lZip], rfl⟩, ⟨rfl, rfl, rfl, rfl, rfl, rfl, rfl, rfl, rfl, trivial⟩, ⟨rfl, rfl, rfl, rfl, rfl, rfl, rfl, trivial⟩⟩, ?_⟩
        rintro ⟨i, c, bd⟩ ⟨p1, p2, p3, p4⟩
        simp only at p1 p2 p3 p4
        conv => whnf
        refine Ask.i (fun c2 => ?_) (fun c2 => ?_)
        · have c2 : (i : Int) < ((b.cs.length : Nat) : Int) := of_decide_eq_true c2
          have hi : i < a.cs.length := by omega
          have hj : i < b.cs.length := by omega
          have ga : a.cs.getD i 0 = a.cs[i] := by rw [List.getD_eq_getElem?_getD, List.getElem?_eq_getElem hi]; rfl
          have gb : b.cs.getD i 0 = b.cs[i] := by rw [List.getD_eq_getElem?_getD, List.getElem?_eq_getElem hj]; rfl
          conv => whnf
          refine ⟨⟨by omega, c2⟩, ?_⟩
          conv => whnf
          refine ⟨mixed, [(9, [6]), (11, [100017])], [(1, [6]), (4, []), (6, []), (7, []), (10, [6])], [], by kernel_rfl, ?_⟩
          conv => whnf
          refine ⟨⟨by omega, by show (i : Int) < ((a.cs.length : Nat) : Int); omega⟩, ?_⟩
          conv => whnf
          refine ⟨⟨by omega, by show (i : Int) < ((c.length : Nat) : Int); omega⟩, ?_⟩
          conv => whnf
          rw [List.drop_eq_getElem_cons hi, List.drop_eq_getElem_cons hj, lBadL, ← ga, ← gb] at p4
          refine ⟨(i + 1, c.set i (x64 (a.cs.getD i 0 - b.cs.getD i 0)), bd || decide (a.cs.getD i 0 < b.cs.getD i 0)), ⟨hi, by simp only [List.length_set]; exact p2, ?_, p4⟩, by show a.cs.length - (i + 1) < a.cs.length - i; omega, ⟨rfl, rfl, rfl, rfl, rfl, rfl, rfl, rfl, ?_, trivial⟩, ⟨rfl, rfl, rfl, rfl, rfl, rfl, rfl, trivial⟩⟩
          · exact lZip_set a.cs b.cs c i hi hj p3
          · exact congrArg (fun z : Int => some (SV.u (.c (I64 z)))) (w64_eq (n := (i : Int) + 1) (by omega))
        · have c2 : ¬ (i : Int) < ((b.cs.length : Nat) : Int) := of_decide_eq_false c2
          have hi : i = a.cs.length := by omega
          rw [hi, List.drop_length, show b.cs.drop a.cs.length = [] by rw [e1, List.drop_length]] at p4
          rw [hi, List.take_length, show b.cs.take a.cs.length = b.cs by rw [e1, List.take_length], List.drop_length, List.append_nil] at p3
          have p4 : bd = lBad a b := p4
          conv => whnf
          intro z hz
          have hk := hk z trivial _ rfl
          conv => whnf
          intro cc hc
          have hc : bd = cc := hc
          rw [← p4, hc] at hk
          cases cc with
          | true =>
            conv => whnf
            exact hk
          | false =>
            conv => whnf
            exact fin hk (congrArg (fun l => SV.t [.a ({ lhE a b z with cs := l }).cells, .c nilV]) p3.symm)
      | false =>
        conv => whnf
        refine ⟨[], _, _, rfl, Nat × List Int × Bool, (fun y => ([(2, .u (.c (.p 2 0))), (3, .u (.c (.p 3 0))), (4, .u (.c (.p 4 0))), (5, .u (.c nilV)), (6, .u (.c (.p 6 0))), (7, .u (.c (.p 7 0))), (28, .u (.c (.d 22 (.ints b.cs)))), (29, .u (.c (I64 (b.cs.length : Nat)))), (30, .u (.c (I64 (y.1 : Nat))))],
            [(2, .cells 56 a.cells), (3, .cells 56 b.cells), (4, .cells 56 [.v (.slice none 0 0), U64 0, U64 0, U64 0, Bo false, U64 0, Bo false, U64 0, Bo false, U64 0, .v (.slice none 0 0), .v (.slice none 0 0), .v (.slice none 0 0), U32 0, St nos]), (6, .cells 80 [Bo y.2.2]), (7, .cells 56 (({ a with start := b.time, count := x64 (a.count - b.count) } : HistD).cellsW (.r 100017 22) (.d 22 (.ints a.bs)))), (100017, .row 22 (.ints y.2.1))])),
          (fun y => y.1 ≤ a.cs.length ∧ y.2.1.length = a.cs.length ∧ y.2.1 = lZip (a.cs.take y.1) (b.cs.take y.1) ++ a.cs.drop y.1 ∧ lBadL (a.cs.drop y.1) (b.cs.drop y.1) y.2.2 = lBad a b), (fun y => a.cs.length - y.1), fun x _ => rfl,
          ⟨(0, a.cs, _), ⟨Nat.zero_le _, rfl, by simp [lZip], rfl⟩, ⟨rfl, rfl, rfl, rfl, rfl, rfl, rfl, rfl, rfl, trivial⟩, ⟨rfl, rfl, rfl, rfl, rfl, rfl, trivial⟩⟩, ?_⟩
        rintro ⟨i, c, bd⟩ ⟨p1, p2, p3, p4⟩
        simp only at p1 p2 p3 p4
        conv => whnf
        refine Ask.i (fun c2 => ?_) (fun c2 => ?_)
        · have c2 : (i : Int) < ((b.cs.length : Nat) : Int) := of_decide_eq_true c2
          have hi : i < a.cs.length := by omega
          have hj : i < b.cs.length := by omega
          have ga : a.cs.getD i 0 = a.cs[i] := by rw [List.getD_eq_getElem?_getD, List.getElem?_eq_getElem hi]; rfl
          have gb : b.cs.getD i 0 = b.cs[i] := by rw [List.getD_eq_getElem?_getD, List.getElem?_eq_getElem hj]; rfl
          conv => whnf
          refine ⟨⟨by omega, c2⟩, ?_⟩
          conv => whnf
          refine ⟨mixed, [(9, [6]), (11, [100017])], [(1, [6]), (4, []), (6, []), (7, []), (10, [6])], [], by kernel_rfl, ?_⟩
          conv => whnf
          refine ⟨⟨by omega, by show (i : Int) < ((a.cs.length : Nat) : Int); omega⟩, ?_⟩
          conv => whnf
          refine ⟨⟨by omega, by show (i : Int) < ((c.length : Nat) : Int); omega⟩, ?_⟩
          conv => whnf
          rw [List.drop_eq_getElem_cons hi, List.drop_eq_getElem_cons hj, lBadL, ← ga, ← gb] at p4
          refine ⟨(i + 1, c.set i (x64 (a.cs.getD i 0 - b.cs.getD i 0)), bd || decide (a.cs.getD i 0 < b.cs.getD i 0)), ⟨hi, by simp only [List.length_set]; exact p2, ?_, p4⟩, by show a.cs.length - (i + 1) < a.cs.length - i; omega, ⟨rfl, rfl, rfl, rfl, rfl, rfl, rfl, rfl, ?_, trivial⟩, ⟨rfl, rfl, rfl, rfl, rfl, rfl, trivial⟩⟩
          · exact lZip_set a.cs b.cs c i hi hj p3
          · exact congrArg (fun z : Int => some (SV.u (.c (I64 z)))) (w64_eq (n := (i : Int) + 1) (by omega))
        · have c2 : ¬ (i : Int) < ((b.cs.length : Nat) : Int) := of_decide_eq_false c2
          have hi : i = a.cs.length := by omega
          rw [hi, List.drop_length, show b.cs.drop a.cs.length = [] by rw [e1, List.drop_length]] at p4
          rw [hi, List.take_length, show b.cs.take a.cs.length = b.cs by rw [e1, List.take_length], List.drop_length, List.append_nil] at p3
          have p4 : bd = lBad a b := p4
          conv => whnf
          intro z hz
          have hk := hk z trivial _ rfl
          conv => whnf
          intro cc hc
          have hc : bd = cc := hc
          rw [← p4, hc] at hk
          cases cc with
          | true =>
            conv => whnf
            exact hk
          | false =>
            conv => whnf
            exact fin hk (congrArg (fun l => SV.t [.a ({ lhE a b z with cs := l }).cells, .c nilV]) p3.symm)
    · exact hk.elim
  · exact hk.elim
theorem lhist_ok {k : Nat} : Ok G 32 (lhistS k fun _ => True) := by
  refine Ok.byCases (ι := Option (Int × List Int)) (gi := fun o => match o with | none => lhistS k fun b => b.cs = [] | some p => lhistS k fun b => b.cs = p.1 :: p.2) none (fun o => by
    cases o with
    | none => exact lhistA_ok
    | some p => exact lhistB_ok) fun us => ?_
  unfold lhistS
  split
  · split
    · rename_i la lb _ _ a b ha hb
      cases hc : a.cs with
      | nil =>
        refine ⟨none, fun K hk => ?_⟩
        simp only [ha, hb]
        exact ⟨⟨hk.1.1, hk.1.2.1, hk.1.2.2.1, hc⟩, hk.2⟩
      | cons x r =>
        refine ⟨some (x, r), fun K hk => ?_⟩
        simp only [ha, hb]
        exact ⟨⟨hk.1.1, hk.1.2.1, hk.1.2.2.1, hc⟩, hk.2⟩
    · exact ⟨none, fun K hk => hk.elim⟩
  · exact ⟨none, fun K hk => hk.elim⟩
theorem lBadL_ok : ∀ {l m : List Int} , l.length = m.length → (∀ i, m.getD i 0 ≤ l.getD i 0) → lBadL l m false = false
  | [], [], _, _ => rfl
  | [], _ :: _, h, _ => by simp at h
  | _ :: _, [], h, _ => by simp at h
  | x :: l, y :: m, h, ho => by
    have h0 := ho 0
    simp only [List.getD_cons_zero] at h0
    rw [lBadL, decide_eq_false (by omega), Bool.or_false]
    exact lBadL_ok (by simpa using h) fun i => ho (i + 1)
theorem lZip_get : ∀ {l m : List Int} (i : Nat), l.length = m.length → (lZip l m).getD i 0 = x64 (l.getD i 0 - m.getD i 0)
  | [], [], i, _ => by simp [lZip]; decide
  | [], _ :: _, _, h => by simp at h
  | _ :: _, [], _, h => by simp at h
  | x :: l, y :: m, 0, h => rfl
  | x :: l, y :: m, i + 1, h => lZip_get i (by simpa using h)
/-- the sum less the first is the second -/
theorem hist_back {a b : HistD} {z : Int} (hA : HR a) (hB : HR b) (h : histO a b = false) : unlikeB (histE a b z) a = false ∧ lBad (histE a b z) a = false ∧ x64 ((histE a b z).count - a.count) = b.count ∧ lZip (histE a b z).cs a.cs = b.cs := by
  unfold histO at h
  rw [Bool.or_eq_false_iff] at h
  obtain ⟨u, k⟩ := h
  obtain ⟨l, s⟩ := like_iff.1 u
  have ov := (hBad_iff hA hB l).1 k
  have lP : (histE a b z).cs.length = b.cs.length := hZip_len _ _ l
  have cP : (histE a b z).count = a.count + b.count := x64_eq ⟨by have := hA.ct; have := hB.ct; omega, ov.1⟩
  have gP : ∀ i, (histE a b z).cs.getD i 0 = a.cs.getD i 0 + b.cs.getD i 0 := fun i => (hZip_get i l).trans (x64_eq ⟨by have := getD_r hA.r i; have := getD_r hB.r i; omega, ov.2 i⟩)
  refine ⟨like_iff.2 ⟨by omega, s.symm⟩, ?_, ?_, ?_⟩
  · unfold lBad
    rw [cP, Bool.false_or, decide_eq_false (by have := hB.ct; omega)]
    exact lBadL_ok (by omega) fun i => by rw [gP]; have := getD_r hB.r i; omega
  · rw [cP, show a.count + b.count - a.count = b.count by omega, x64_eq hB.ct]
  · refine ext_getD ?_ fun i => ?_
    · unfold lZip; rw [List.length_zipWith]; omega
    · rw [lZip_get i (by omega), gP, show a.cs.getD i 0 + b.cs.getD i 0 - a.cs.getD i 0 = b.cs.getD i 0 by omega, x64_eq (getD_r hB.r i)]
end Sx
/-! The law MergeBack: true. -/
namespace Sx
open Go Go.Proofs
set_option linter.unusedVariables false
set_option maxRecDepth 30000
variable {G : Glob}
def outNm (p : Option NumD × Int) : Out SV := match p.1 with
  | none => .ret (.t [.a noNum.cells, .c (errV p.2)])
  | some u => .ret (.t [.a u.cells, .c nilV])
def NRel (n m : NumD) (o : Option NumD) : Prop := ∀ q, o = some q → ∃ v, q = { m with start := n.start, n := v } ∧ (n.kind = 2 → kindsB n.kind m.kind = true ∧ sumBad n.n m.n = false ∧ v = x64 (w64 (w64 n.n + w64 m.n)))
def numW (k : Nat) : List U → Out SV
  | [.a la, .a lb] => match asNum la, asNum lb with
    | some a, some b => .need (NGood k b) (.all (Option NumD × Int) (fun p => NRel a b p.1) ⟨(none, 0), fun q h => by cases h⟩ outNm)
    | _, _ => .fail
  | _ => .fail
theorem numW_ok {k : Nat} : Ok G 30 (numW k) := (num_ok (k := k)).mono fun us K hk => by
  unfold numW at hk
  split at hk
  · split at hk
    · rename_i la lb _ _ a b ha hb
      obtain ⟨h1, hk⟩ := hk
      unfold numS
      simp only [ha, hb]
      refine ⟨h1, fun c hc => ?_⟩
      cases c with
      | false => exact hk (none, 13) fun q h => by cases h
      | true =>
        refine fun c' hc' => ?_
        cases c' with
        | true =>
          refine fun z _ => hk (some _, 0) fun q h => ?_
          obtain rfl := Option.some.inj h
          refine ⟨z, rfl, fun h2 => ?_⟩
          have h3 : b.kind = 1 := by simpa using hc'
          unfold kindsB at hc
          simp only [Bool.and_eq_true, decide_eq_true_eq] at hc
          omega
        | false =>
          refine fun c'' hc'' => ?_
          cases c'' with
          | true => exact hk (none, 9) fun q h => by cases h
          | false =>
            refine hk (some _, 0) fun q h => ?_
            obtain rfl := Option.some.inj h
            exact ⟨_, rfl, fun _ => ⟨hc, hc'', rfl⟩⟩
    · exact hk.elim
  · exact hk.elim
theorem expO_attrs {a b u : ExpD} {most z : Int} (h : expO a b most z = some u) : u.attrs = b.attrs ∧ u.ex = b.ex := by
  unfold expO at h
  cases ht : (a.thr != b.thr) with
  | true => rw [ht] at h; cases h
  | false =>
    rw [ht] at h
    simp only [cond_false] at h
    split at h
    · cases h
    · rename_i r _
      cases hb : addBad a b r.1.toNat r.2.1.toNat with
      | true => rw [hb] at h; cases h
      | false =>
        rw [hb] at h
        simp only [cond_false, Option.some.injEq] at h
        rw [← h]; exact ⟨rfl, rfl⟩
def DpN (k : Nat) (e : NumD) : Prop := Dp k e.attrs ∧ Dp k e.ex
def lawBackS (k : Nat) : List U → Out SV
  | [.a ln, .a lm, .a la, .a lb, .a lx, .a ly] => match asNum ln, asNum lm, asHist la, asHist lb, asExp lx, asExp ly with
    | some n, some m, some a, some b, some x, some y => .need (n.Typ ∧ m.Typ ∧ a.Typ ∧ b.Typ ∧ x.Typ ∧ y.Typ ∧ x.Cnt ∧ y.Cnt ∧ (m.Small → DpN k m) ∧ (a.Small → DpH k a) ∧ (b.Small → DpH k b) ∧ (x.Small → DpE k x) ∧ (y.Small → DpE k y)) (one (Bo true))
    | _, _, _, _, _, _ => .fail
  | _ => .fail
set_option maxHeartbeats 8000000 in
theorem lawBack_ok {k : Nat} : Ok G1 9 (lawBackS k) := by
  have hS : AllSound (B [(10, .pure (normG (B []) [] firstS)), (22, .pure (normG (B []) [58] fewHS)), (18, .pure (normG (B []) [49] fewS)), (29, .pure (normG (B []) [71, 3] rnS)), (30, .pure (normG (B []) [71, 71] (numW k))), (31, .pure (normG (B []) [71, 71, 4] (lessNS k))), (23, .pure (normG (B []) [56, 56] (mhistW k))), (32, .pure (normG (B []) [56, 56] (lhistS k fun _ => True))), (24, .pure (normG (B []) [22, 22] numsS)), (28, .pure (normG (B []) [47, 47, 3] (mexpX k))), (33, .pure (normG (B []) [47, 47] (lexpS k))), (15, .pure (normG (B []) [24] trimBS))]) G1 :=
    .cons _ first_ok (.cons _ fewH_ok (.cons _ few_ok (.cons _ roomNum_ok (.cons _ numW_ok (.cons _ lessN_ok (.cons _ mhistW_ok (.cons _ lhist_ok (.cons _ nums_ok (.cons _ mexpX_ok (.cons _ lexp_ok (.cons _ trimB_ok noneS)))))))))))
  refine okP hS Tryd.func9 rfl (by decide) fun K us hk => ?_
  unfold lawBackS at hk
  split at hk
  · split at hk
    · rename_i ln lm la lb lx ly _ _ _ _ _ _ n m a b x y hn hm ha hb hx hy
      rw [asNum_eq hn, asNum_eq hm, asHist_eq ha, asHist_eq hb, asExp_eq hx, asExp_eq hy]
      refine ⟨by show 6 ≤ _; decide, ?_⟩
      obtain ⟨⟨tN, tM, tA, tB, tX, tY, cX, cY, dM, dA, dB, dX, dY⟩, hk⟩ := hk
      conv => whnf
      refine ⟨⟨tA, tB⟩, ?_⟩
      conv => whnf
      intro f hf
      have hf : f = true → a.Small ∧ b.Small := hf
      cases f with
      | false =>
        conv => whnf
        exact hk
      | true =>
      obtain ⟨sA, sB⟩ := hf rfl
      conv => whnf
      refine ⟨⟨tX, tY⟩, ?_⟩
      conv => whnf
      intro f hf
      have hf : f = true → x.Small ∧ y.Small := hf
      cases f with
      | false =>
        conv => whnf
        exact hk
      | true =>
      obtain ⟨sX, sY⟩ := hf rfl
      conv => whnf
      refine ⟨⟨tN, by decide, by decide⟩, ?_⟩
      conv => whnf
      rintro z1 ⟨_, z1s⟩
      conv => whnf
      refine Ask.i (fun c => by conv => whnf
                                exact hk) (fun c => ?_)
      have c : ¬ z1 < 0 := of_decide_eq_false c
      conv => whnf
      refine ⟨⟨tM, by decide, by decide⟩, ?_⟩
      conv => whnf
      rintro z2 ⟨_, z2s⟩
      have z2s : 0 ≤ z2 → z2 ≤ 3980 ∧ m.Small := z2s
      conv => whnf
      refine Ask.i (fun c => by conv => whnf
                                exact hk) (fun c => ?_)
      have c : ¬ z2 < 0 := of_decide_eq_false c
      have sM := (z2s (by omega)).2
      have d1 := dM sM
      have d2 := dA sA
      have d3 := dB sB
      have d4 := dX sX
      have d5 := dY sY
      have gM : NGood k m := ⟨tM.attrs, d1.1, tM.ex, d1.2⟩
      have gB : HGood k b := ⟨tB.attrs, d3.1, tB.ex, d3.2, sB.lC, sB.lB⟩
      have gX : Good k x := ⟨tX, cX, sX, d4⟩
      have gY : Good k { y with scale := x.scale } := ⟨⟨tY.attrs, tY.ex, tY.lP, tY.lN, tX.sc, tY.oP, tY.oN, tY.rP, tY.rN⟩, ⟨cY.ct, cY.zr⟩, ⟨sY.attrs, sY.ex, sY.lP, sY.lN⟩, d5⟩
      have rA : HR a := ⟨tA.rC, tA.ct⟩
      have rB : HR b := ⟨tB.rC, tB.ct⟩
      have lbA := sA.lB
      have lcA := sA.lC
      have lbB := sB.lB
      have lcB := sB.lC
      have lyP := sY.lP
      have lyN := sY.lN
      conv => whnf
      refine ⟨gM, ?_⟩
      conv => whnf
      rintro ⟨o, er⟩ ho
      have ho : NRel n m o := ho
      cases o with
      | none =>
        conv => whnf
        refine ⟨⟨gB, lcA, lbA⟩, ?_⟩
        conv => whnf
        rintro ⟨o3, r3⟩ ⟨z3, h3⟩
        have h3 : o3 = bif histO a b then none else some (histE a b z3) := h3
        cases qh : histO a b with
        | true =>
          rw [qh] at h3
          obtain rfl : o3 = none := h3
          conv => whnf
          refine ⟨⟨gX, gY⟩, ?_⟩
          conv => whnf
          rintro ⟨o5, r5⟩ ⟨z5, h5⟩
          have h5 : o5 = expO x { y with scale := x.scale } 320 z5 := h5
          cases o5 with
          | none =>
            conv => whnf
            exact hk
          | some u =>
            conv => whnf
            refine Ask.i (fun c0 => by conv => whnf
                                       exact hk) (fun c0 => ?_)
            have c0 : (u.scale != x.scale) = false := c0
            have us : u.scale = x.scale := by simpa using c0
            obtain ⟨fU, bk⟩ := exp_back gX gY rfl h5.symm us
            have ua : u.attrs = y.attrs ∧ u.ex = y.ex := by have t := expO_attrs h5.symm; exact t
            have gU : Typ TB (.sl 40) u.attrs ∧ Dp k u.attrs ∧ Typ TB (.sl 44) u.ex ∧ Dp k u.ex := by rw [ua.1, ua.2]; exact ⟨tY.attrs, d5.1, tY.ex, d5.2⟩
            conv => whnf
            refine ⟨⟨fU, gX.fits, gU⟩, ?_⟩
            conv => whnf
            intro w hw
            have hw : (u.scale != x.scale || u.thr != x.thr) = w := hw
            rw [bk.like] at hw
            subst hw
            conv => whnf
            intro z hz
            conv => whnf
            intro cb hcb
            have hcb : lexBad u x = cb := hcb
            rw [bk.bad] at hcb
            have bP : bigS (rsP { y with scale := x.scale }).1 (rsP { y with scale := x.scale }).2 = (y.hasP && bigS (w64 y.offP) y.cP) := by show bigS (bif y.hasP then w64 y.offP else 0) (bif y.hasP then y.cP else []) = _; cases y.hasP <;> rfl
            have bN : bigS (rsN { y with scale := x.scale }).1 (rsN { y with scale := x.scale }).2 = (y.hasN && bigS (w64 y.offN) y.cN) := by show bigS (bif y.hasN then w64 y.offN else 0) (bif y.hasN then y.cN else []) = _; cases y.hasN <;> rfl
            rw [bP, bN] at hcb
            cases cb with
            | true =>
              conv => whnf
              refine ⟨by show y.cP.length ≤ 68719476736; omega, ?_⟩
              conv => whnf
              intro c1 h1
              have h1 : bigS (w64 y.offP) y.cP = c1 := h1
              cases c1 with
              | true =>
                conv => whnf
                refine ⟨by show y.cN.length ≤ 68719476736; omega, ?_⟩
                conv => whnf
                intro c2 h2
                have h2 : bigS (w64 y.offN) y.cN = c2 := h2
                rw [h1, h2] at hcb
                cases c2 with
                | true =>
                  conv => whnf
                  refine Ask.i (fun hp => ?_) (fun hp => ?_)
                  · have hp : y.hasP = true := hp
                    rw [hp] at hcb
                    conv => whnf
                    exact hk
                  · have hp : y.hasP = false := hp
                    rw [hp] at hcb
                    conv => whnf
                    refine Ask.i (fun hn => ?_) (fun hn => ?_)
                    · have hn : y.hasN = true := hn
                      rw [hn] at hcb
                      conv => whnf
                      exact hk
                    · have hn : y.hasN = false := hn
                      rw [hn] at hcb
                      cases hcb
                | false =>
                  conv => whnf
                  refine Ask.i (fun hp => ?_) (fun hp => ?_)
                  · have hp : y.hasP = true := hp
                    rw [hp] at hcb
                    conv => whnf
                    exact hk
                  · have hp : y.hasP = false := hp
                    rw [hp] at hcb
                    conv => whnf
                    refine Ask.i (fun hn => ?_) (fun hn => ?_)
                    · have hn : y.hasN = true := hn
                      rw [hn] at hcb
                      conv => whnf
                      cases hcb
                    · have hn : y.hasN = false := hn
                      rw [hn] at hcb
                      cases hcb
              | false =>
                conv => whnf
                refine ⟨by show y.cN.length ≤ 68719476736; omega, ?_⟩
                conv => whnf
                intro c2 h2
                have h2 : bigS (w64 y.offN) y.cN = c2 := h2
                rw [h1, h2] at hcb
                cases c2 with
                | true =>
                  conv => whnf
                  refine Ask.i (fun hp => ?_) (fun hp => ?_)
                  · have hp : y.hasP = true := hp
                    rw [hp] at hcb
                    conv => whnf
                    refine Ask.i (fun hn => ?_) (fun hn => ?_)
                    · have hn : y.hasN = true := hn
                      rw [hn] at hcb
                      conv => whnf
                      exact hk
                    · have hn : y.hasN = false := hn
                      rw [hn] at hcb
                      cases hcb
                  · have hp : y.hasP = false := hp
                    rw [hp] at hcb
                    conv => whnf
                    refine Ask.i (fun hn => ?_) (fun hn => ?_)
                    · have hn : y.hasN = true := hn
                      rw [hn] at hcb
                      conv => whnf
                      exact hk
                    · have hn : y.hasN = false := hn
                      rw [hn] at hcb
                      cases hcb
                | false =>
                  conv => whnf
                  refine Ask.i (fun hp => ?_) (fun hp => ?_)
                  · have hp : y.hasP = true := hp
                    rw [hp] at hcb
                    conv => whnf
                    refine Ask.i (fun hn => ?_) (fun hn => ?_)
                    · have hn : y.hasN = true := hn
                      rw [hn] at hcb
                      conv => whnf
                      cases hcb
                    · have hn : y.hasN = false := hn
                      rw [hn] at hcb
                      cases hcb
                  · have hp : y.hasP = false := hp
                    rw [hp] at hcb
                    conv => whnf
                    refine Ask.i (fun hn => ?_) (fun hn => ?_)
                    · have hn : y.hasN = true := hn
                      rw [hn] at hcb
                      conv => whnf
                      cases hcb
                    · have hn : y.hasN = false := hn
                      rw [hn] at hcb
                      cases hcb
            | false =>
              conv => whnf
              refine ⟨by show y.cP.length ≤ 68719476736; omega, ?_⟩
              conv => whnf
              intro c1 h1
              have h1 : bigS (w64 y.offP) y.cP = c1 := h1
              cases c1 with
              | true =>
                conv => whnf
                refine ⟨by show y.cN.length ≤ 68719476736; omega, ?_⟩
                conv => whnf
                intro c2 h2
                have h2 : bigS (w64 y.offN) y.cN = c2 := h2
                rw [h1, h2] at hcb
                cases c2 with
                | true =>
                  conv => whnf
                  refine Ask.i (fun _ => ?_) (fun c => by have c : (x64 (u.count - x.count) == y.count) = false := c; rw [bk.cnt] at c; simp at c)
                  conv => whnf
                  refine Ask.i (fun _ => ?_) (fun c => by have c : (x64 (u.zero - x.zero) == y.zero) = false := c; rw [bk.zer] at c; simp at c)
                  conv => whnf
                  exact hk
                | false =>
                  conv => whnf
                  refine Ask.i (fun _ => ?_) (fun c => by have c : (x64 (u.count - x.count) == y.count) = false := c; rw [bk.cnt] at c; simp at c)
                  conv => whnf
                  refine Ask.i (fun _ => ?_) (fun c => by have c : (x64 (u.zero - x.zero) == y.zero) = false := c; rw [bk.zer] at c; simp at c)
                  conv => whnf
                  exact hk
              | false =>
                conv => whnf
                refine ⟨by show y.cN.length ≤ 68719476736; omega, ?_⟩
                conv => whnf
                intro c2 h2
                have h2 : bigS (w64 y.offN) y.cN = c2 := h2
                rw [h1, h2] at hcb
                cases c2 with
                | true =>
                  conv => whnf
                  refine Ask.i (fun _ => ?_) (fun c => by have c : (x64 (u.count - x.count) == y.count) = false := c; rw [bk.cnt] at c; simp at c)
                  conv => whnf
                  refine Ask.i (fun _ => ?_) (fun c => by have c : (x64 (u.zero - x.zero) == y.zero) = false := c; rw [bk.zer] at c; simp at c)
                  conv => whnf
                  refine Ask.i (fun hp => ?_) (fun hp => ?_)
                  · conv => whnf
                    exact hk
                  · have hp : (!y.hasP) = false := hp
                    have hp : y.hasP = true := by simpa using hp
                    have pos : trim (rsP u).1 (lexP u x).1 = trim (w64 y.offP) y.cP := by
                      rw [bk.pos]
                      show trim (bif y.hasP then w64 y.offP else 0) (bif y.hasP then y.cP else []) = _
                      rw [hp]; rfl
                    have tl := trim_len (w64 y.offP) y.cP
                    conv => whnf
                    refine Ask.i (fun _ => ?_) (fun c => by have c : (w32 (trim (rsP u).1 (lexP u x).1).1 == w32 (trim (w64 y.offP) y.cP).1) = false := c; rw [pos] at c; simp at c)
                    conv => whnf
                    refine ⟨⟨by show (trim (rsP u).1 (lexP u x).1).2.length ≤ 68719476736; rw [pos]; omega, by show (trim (w64 y.offP) y.cP).2.length ≤ 68719476736; omega⟩, ?_⟩
                    conv => whnf
                    exact fin hk (congrArg (fun z : Bool => SV.u (.c (Bo z))) (decide_eq_true (congrArg Prod.snd pos)).symm)
                | false =>
                  conv => whnf
                  refine Ask.i (fun _ => ?_) (fun c => by have c : (x64 (u.count - x.count) == y.count) = false := c; rw [bk.cnt] at c; simp at c)
                  conv => whnf
                  refine Ask.i (fun _ => ?_) (fun c => by have c : (x64 (u.zero - x.zero) == y.zero) = false := c; rw [bk.zer] at c; simp at c)
                  conv => whnf
                  refine Ask.i (fun hp => ?_) (fun hp => ?_)
                  · conv => whnf
                    exact hk
                  · have hp : (!y.hasP) = false := hp
                    have hp : y.hasP = true := by simpa using hp
                    have pos : trim (rsP u).1 (lexP u x).1 = trim (w64 y.offP) y.cP := by
                      rw [bk.pos]
                      show trim (bif y.hasP then w64 y.offP else 0) (bif y.hasP then y.cP else []) = _
                      rw [hp]; rfl
                    have tl := trim_len (w64 y.offP) y.cP
                    conv => whnf
                    refine Ask.i (fun _ => ?_) (fun c => by have c : (w32 (trim (rsP u).1 (lexP u x).1).1 == w32 (trim (w64 y.offP) y.cP).1) = false := c; rw [pos] at c; simp at c)
                    conv => whnf
                    refine ⟨⟨by show (trim (rsP u).1 (lexP u x).1).2.length ≤ 68719476736; rw [pos]; omega, by show (trim (w64 y.offP) y.cP).2.length ≤ 68719476736; omega⟩, ?_⟩
                    conv => whnf
                    exact fin hk (congrArg (fun z : Bool => SV.u (.c (Bo z))) (decide_eq_true (congrArg Prod.snd pos)).symm)
        | false =>
          rw [qh] at h3
          obtain rfl : o3 = some (histE a b z3) := h3
          obtain ⟨b1, b2, b3, b4⟩ := hist_back (z := z3) rA rB qh
          have gR : HGood k (histE a b z3) := gB.add
          conv => whnf
          refine ⟨⟨gR, lcA, lbA, trivial⟩, ?_⟩
          conv => whnf
          intro w hw
          have hw : unlikeB (histE a b z3) a = w := hw
          rw [b1] at hw
          subst hw
          conv => whnf
          intro z4 hz4
          conv => whnf
          intro w hw
          have hw : lBad (histE a b z3) a = w := hw
          rw [b2] at hw
          subst hw
          conv => whnf
          refine Ask.i (fun c => by have c : (x64 ((histE a b z3).count - a.count) != b.count) = true := c; rw [b3] at c; simp [bne] at c) (fun _ => ?_)
          conv => whnf
          refine ⟨⟨by show (lZip (histE a b z3).cs a.cs).length ≤ 68719476736; rw [b4]; omega, by show b.cs.length ≤ 68719476736; omega⟩, ?_⟩
          conv => whnf
          refine Ask.i (fun c => by have c : (!(decide (lZip (histE a b z3).cs a.cs = b.cs))) = true := c; rw [decide_eq_true b4] at c; cases c) (fun _ => ?_)
          conv => whnf
          refine ⟨⟨gX, gY⟩, ?_⟩
          conv => whnf
          rintro ⟨o5, r5⟩ ⟨z5, h5⟩
          have h5 : o5 = expO x { y with scale := x.scale } 320 z5 := h5
          cases o5 with
          | none =>
            conv => whnf
            exact hk
          | some u =>
            conv => whnf
            refine Ask.i (fun c0 => by conv => whnf
                                       exact hk) (fun c0 => ?_)
            have c0 : (u.scale != x.scale) = false := c0
            have us : u.scale = x.scale := by simpa using c0
            obtain ⟨fU, bk⟩ := exp_back gX gY rfl h5.symm us
            have ua : u.attrs = y.attrs ∧ u.ex = y.ex := by have t := expO_attrs h5.symm; exact t
            have gU : Typ TB (.sl 40) u.attrs ∧ Dp k u.attrs ∧ Typ TB (.sl 44) u.ex ∧ Dp k u.ex := by rw [ua.1, ua.2]; exact ⟨tY.attrs, d5.1, tY.ex, d5.2⟩
            conv => whnf
            refine ⟨⟨fU, gX.fits, gU⟩, ?_⟩
            conv => whnf
            intro w hw
            have hw : (u.scale != x.scale || u.thr != x.thr) = w := hw
            rw [bk.like] at hw
            subst hw
            conv => whnf
            intro z hz
            conv => whnf
            intro cb hcb
            have hcb : lexBad u x = cb := hcb
            rw [bk.bad] at hcb
            have bP : bigS (rsP { y with scale := x.scale }).1 (rsP { y with scale := x.scale }).2 = (y.hasP && bigS (w64 y.offP) y.cP) := by show bigS (bif y.hasP then w64 y.offP else 0) (bif y.hasP then y.cP else []) = _; cases y.hasP <;> rfl
            have bN : bigS (rsN { y with scale := x.scale }).1 (rsN { y with scale := x.scale }).2 = (y.hasN && bigS (w64 y.offN) y.cN) := by show bigS (bif y.hasN then w64 y.offN else 0) (bif y.hasN then y.cN else []) = _; cases y.hasN <;> rfl
            rw [bP, bN] at hcb
            cases cb with
            | true =>
              conv => whnf
              refine ⟨by show y.cP.length ≤ 68719476736; omega, ?_⟩
              conv => whnf
              intro c1 h1
              have h1 : bigS (w64 y.offP) y.cP = c1 := h1
              cases c1 with
              | true =>
                conv => whnf
                refine ⟨by show y.cN.length ≤ 68719476736; omega, ?_⟩
                conv => whnf
                intro c2 h2
                have h2 : bigS (w64 y.offN) y.cN = c2 := h2
                rw [h1, h2] at hcb
                cases c2 with
                | true =>
                  conv => whnf
                  refine Ask.i (fun hp => ?_) (fun hp => ?_)
                  · have hp : y.hasP = true := hp
                    rw [hp] at hcb
                    conv => whnf
                    exact hk
                  · have hp : y.hasP = false := hp
                    rw [hp] at hcb
                    conv => whnf
                    refine Ask.i (fun hn => ?_) (fun hn => ?_)
                    · have hn : y.hasN = true := hn
                      rw [hn] at hcb
                      conv => whnf
                      exact hk
                    · have hn : y.hasN = false := hn
                      rw [hn] at hcb
                      cases hcb
                | false =>
                  conv => whnf
                  refine Ask.i (fun hp => ?_) (fun hp => ?_)
                  · have hp : y.hasP = true := hp
                    rw [hp] at hcb
                    conv => whnf
                    exact hk
                  · have hp : y.hasP = false := hp
                    rw [hp] at hcb
                    conv => whnf
                    refine Ask.i (fun hn => ?_) (fun hn => ?_)
                    · have hn : y.hasN = true := hn
                      rw [hn] at hcb
                      conv => whnf
                      cases hcb
                    · have hn : y.hasN = false := hn
                      rw [hn] at hcb
                      cases hcb
              | false =>
                conv => whnf
                refine ⟨by show y.cN.length ≤ 68719476736; omega, ?_⟩
                conv => whnf
                intro c2 h2
                have h2 : bigS (w64 y.offN) y.cN = c2 := h2
                rw [h1, h2] at hcb
                cases c2 with
                | true =>
                  conv => whnf
                  refine Ask.i (fun hp => ?_) (fun hp => ?_)
                  · have hp : y.hasP = true := hp
                    rw [hp] at hcb
                    conv => whnf
                    refine Ask.i (fun hn => ?_) (fun hn => ?_)
                    · have hn : y.hasN = true := hn
                      rw [hn] at hcb
                      conv => whnf
                      exact hk
                    · have hn : y.hasN = false := hn
                      rw [hn] at hcb
                      cases hcb
                  · have hp : y.hasP = false := hp
                    rw [hp] at hcb
                    conv => whnf
                    refine Ask.i (fun hn => ?_) (fun hn => ?_)
                    · have hn : y.hasN = true := hn
                      rw [hn] at hcb
                      conv => whnf
                      exact hk
                    · have hn : y.hasN = false := hn
                      rw [hn] at hcb
                      cases hcb
                | false =>
                  conv => whnf
                  refine Ask.i (fun hp => ?_) (fun hp => ?_)
                  · have hp : y.hasP = true := hp
                    rw [hp] at hcb
                    conv => whnf
                    refine Ask.i (fun hn => ?_) (fun hn => ?_)
                    · have hn : y.hasN = true := hn
                      rw [hn] at hcb
                      conv => whnf
                      cases hcb
                    · have hn : y.hasN = false := hn
                      rw [hn] at hcb
                      cases hcb
                  · have hp : y.hasP = false := hp
                    rw [hp] at hcb
                    conv => whnf
                    refine Ask.i (fun hn => ?_) (fun hn => ?_)
                    · have hn : y.hasN = true := hn
                      rw [hn] at hcb
                      conv => whnf
                      cases hcb
                    · have hn : y.hasN = false := hn
                      rw [hn] at hcb
                      cases hcb
            | false =>
              conv => whnf
              refine ⟨by show y.cP.length ≤ 68719476736; omega, ?_⟩
              conv => whnf
              intro c1 h1
              have h1 : bigS (w64 y.offP) y.cP = c1 := h1
              cases c1 with
              | true =>
                conv => whnf
                refine ⟨by show y.cN.length ≤ 68719476736; omega, ?_⟩
                conv => whnf
                intro c2 h2
                have h2 : bigS (w64 y.offN) y.cN = c2 := h2
                rw [h1, h2] at hcb
                cases c2 with
                | true =>
                  conv => whnf
                  refine Ask.i (fun _ => ?_) (fun c => by have c : (x64 (u.count - x.count) == y.count) = false := c; rw [bk.cnt] at c; simp at c)
                  conv => whnf
                  refine Ask.i (fun _ => ?_) (fun c => by have c : (x64 (u.zero - x.zero) == y.zero) = false := c; rw [bk.zer] at c; simp at c)
                  conv => whnf
                  exact hk
                | false =>
                  conv => whnf
                  refine Ask.i (fun _ => ?_) (fun c => by have c : (x64 (u.count - x.count) == y.count) = false := c; rw [bk.cnt] at c; simp at c)
                  conv => whnf
                  refine Ask.i (fun _ => ?_) (fun c => by have c : (x64 (u.zero - x.zero) == y.zero) = false := c; rw [bk.zer] at c; simp at c)
                  conv => whnf
                  exact hk
              | false =>
                conv => whnf
                refine ⟨by show y.cN.length ≤ 68719476736; omega, ?_⟩
                conv => whnf
                intro c2 h2
                have h2 : bigS (w64 y.offN) y.cN = c2 := h2
                rw [h1, h2] at hcb
                cases c2 with
                | true =>
                  conv => whnf
                  refine Ask.i (fun _ => ?_) (fun c => by have c : (x64 (u.count - x.count) == y.count) = false := c; rw [bk.cnt] at c; simp at c)
                  conv => whnf
                  refine Ask.i (fun _ => ?_) (fun c => by have c : (x64 (u.zero - x.zero) == y.zero) = false := c; rw [bk.zer] at c; simp at c)
                  conv => whnf
                  refine Ask.i (fun hp => ?_) (fun hp => ?_)
                  · conv => whnf
                    exact hk
                  · have hp : (!y.hasP) = false := hp
                    have hp : y.hasP = true := by simpa using hp
                    have pos : trim (rsP u).1 (lexP u x).1 = trim (w64 y.offP) y.cP := by
                      rw [bk.pos]
                      show trim (bif y.hasP then w64 y.offP else 0) (bif y.hasP then y.cP else []) = _
                      rw [hp]; rfl
                    have tl := trim_len (w64 y.offP) y.cP
                    conv => whnf
                    refine Ask.i (fun _ => ?_) (fun c => by have c : (w32 (trim (rsP u).1 (lexP u x).1).1 == w32 (trim (w64 y.offP) y.cP).1) = false := c; rw [pos] at c; simp at c)
                    conv => whnf
                    refine ⟨⟨by show (trim (rsP u).1 (lexP u x).1).2.length ≤ 68719476736; rw [pos]; omega, by show (trim (w64 y.offP) y.cP).2.length ≤ 68719476736; omega⟩, ?_⟩
                    conv => whnf
                    exact fin hk (congrArg (fun z : Bool => SV.u (.c (Bo z))) (decide_eq_true (congrArg Prod.snd pos)).symm)
                | false =>
                  conv => whnf
                  refine Ask.i (fun _ => ?_) (fun c => by have c : (x64 (u.count - x.count) == y.count) = false := c; rw [bk.cnt] at c; simp at c)
                  conv => whnf
                  refine Ask.i (fun _ => ?_) (fun c => by have c : (x64 (u.zero - x.zero) == y.zero) = false := c; rw [bk.zer] at c; simp at c)
                  conv => whnf
                  refine Ask.i (fun hp => ?_) (fun hp => ?_)
                  · conv => whnf
                    exact hk
                  · have hp : (!y.hasP) = false := hp
                    have hp : y.hasP = true := by simpa using hp
                    have pos : trim (rsP u).1 (lexP u x).1 = trim (w64 y.offP) y.cP := by
                      rw [bk.pos]
                      show trim (bif y.hasP then w64 y.offP else 0) (bif y.hasP then y.cP else []) = _
                      rw [hp]; rfl
                    have tl := trim_len (w64 y.offP) y.cP
                    conv => whnf
                    refine Ask.i (fun _ => ?_) (fun c => by have c : (w32 (trim (rsP u).1 (lexP u x).1).1 == w32 (trim (w64 y.offP) y.cP).1) = false := c; rw [pos] at c; simp at c)
                    conv => whnf
                    refine ⟨⟨by show (trim (rsP u).1 (lexP u x).1).2.length ≤ 68719476736; rw [pos]; omega, by show (trim (w64 y.offP) y.cP).2.length ≤ 68719476736; omega⟩, ?_⟩
                    conv => whnf
                    exact fin hk (congrArg (fun z : Bool => SV.u (.c (Bo z))) (decide_eq_true (congrArg Prod.snd pos)).symm)
      | some q =>
        obtain ⟨v, rfl, hq⟩ := ho q rfl
        conv => whnf
        refine Ask.i (fun kn => ?_) (fun kn => ?_)
        · have kn : (n.kind == 2) = true := kn
          have kn : n.kind = 2 := by simpa using kn
          obtain ⟨k1, k2, rfl⟩ := hq kn
          obtain ⟨nb1, nb2⟩ := num_back tN.rn tM.rn k2
          have mk : m.kind = 2 := by unfold kindsB at k1; simp only [Bool.and_eq_true, decide_eq_true_eq] at k1; omega
          have k3 : kindsB m.kind n.kind = true := by rw [mk, kn]; rfl
          have k4 : (m.kind == 1) = false := by rw [mk]; rfl
          conv => whnf
          refine ⟨gM, ?_⟩
          conv => whnf
          intro w hw
          have hw : kindsB m.kind n.kind = w := hw
          rw [k3] at hw
          subst hw
          conv => whnf
          intro w hw
          have hw : (m.kind == 1) = w := hw
          rw [k4] at hw
          subst hw
          conv => whnf
          intro w hw
          have hw : difBad (x64 (w64 (w64 n.n + w64 m.n))) n.n = w := hw
          rw [nb1] at hw
          subst hw
          conv => whnf
          refine Ask.i (fun c => by have c : (x64 (w64 (w64 (x64 (w64 (w64 n.n + w64 m.n))) - w64 n.n)) != m.n) = true := c; rw [nb2] at c; simp [bne] at c) (fun _ => ?_)
          conv => whnf
          refine Ask.i (fun c => nt n.time c) (fun _ => ?_)
          conv => whnf
          refine Ask.i (fun c => nt m.time c) (fun _ => ?_)
          conv => whnf
          refine ⟨⟨gB, lcA, lbA⟩, ?_⟩
          conv => whnf
          rintro ⟨o3, r3⟩ ⟨z3, h3⟩
          have h3 : o3 = bif histO a b then none else some (histE a b z3) := h3
          cases qh : histO a b with
          | true =>
            rw [qh] at h3
            obtain rfl : o3 = none := h3
            conv => whnf
            refine ⟨⟨gX, gY⟩, ?_⟩
            conv => whnf
            rintro ⟨o5, r5⟩ ⟨z5, h5⟩
            have h5 : o5 = expO x { y with scale := x.scale } 320 z5 := h5
            cases o5 with
            | none =>
              conv => whnf
              exact hk
            | some u =>
              conv => whnf
              refine Ask.i (fun c0 => by conv => whnf
                                         exact hk) (fun c0 => ?_)
              have c0 : (u.scale != x.scale) = false := c0
              have us : u.scale = x.scale := by simpa using c0
              obtain ⟨fU, bk⟩ := exp_back gX gY rfl h5.symm us
              have ua : u.attrs = y.attrs ∧ u.ex = y.ex := by have t := expO_attrs h5.symm; exact t
              have gU : Typ TB (.sl 40) u.attrs ∧ Dp k u.attrs ∧ Typ TB (.sl 44) u.ex ∧ Dp k u.ex := by rw [ua.1, ua.2]; exact ⟨tY.attrs, d5.1, tY.ex, d5.2⟩
              conv => whnf
              refine ⟨⟨fU, gX.fits, gU⟩, ?_⟩
              conv => whnf
              intro w hw
              have hw : (u.scale != x.scale || u.thr != x.thr) = w := hw
              rw [bk.like] at hw
              subst hw
              conv => whnf
              intro z hz
              conv => whnf
              intro cb hcb
              have hcb : lexBad u x = cb := hcb
              rw [bk.bad] at hcb
              have bP : bigS (rsP { y with scale := x.scale }).1 (rsP { y with scale := x.scale }).2 = (y.hasP && bigS (w64 y.offP) y.cP) := by show bigS (bif y.hasP then w64 y.offP else 0) (bif y.hasP then y.cP else []) = _; cases y.hasP <;> rfl
              have bN : bigS (rsN { y with scale := x.scale }).1 (rsN { y with scale := x.scale }).2 = (y.hasN && bigS (w64 y.offN) y.cN) := by show bigS (bif y.hasN then w64 y.offN else 0) (bif y.hasN then y.cN else []) = _; cases y.hasN <;> rfl
              rw [bP, bN] at hcb
              cases cb with
              | true =>
                conv => whnf
                refine ⟨by show y.cP.length ≤ 68719476736; omega, ?_⟩
                conv => whnf
                intro c1 h1
                have h1 : bigS (w64 y.offP) y.cP = c1 := h1
                cases c1 with
                | true =>
                  conv => whnf
                  refine ⟨by show y.cN.length ≤ 68719476736; omega, ?_⟩
                  conv => whnf
                  intro c2 h2
                  have h2 : bigS (w64 y.offN) y.cN = c2 := h2
                  rw [h1, h2] at hcb
                  cases c2 with
                  | true =>
                    conv => whnf
                    refine Ask.i (fun hp => ?_) (fun hp => ?_)
                    · have hp : y.hasP = true := hp
                      rw [hp] at hcb
                      conv => whnf
                      exact hk
                    · have hp : y.hasP = false := hp
                      rw [hp] at hcb
                      conv => whnf
                      refine Ask.i (fun hn => ?_) (fun hn => ?_)
                      · have hn : y.hasN = true := hn
                        rw [hn] at hcb
                        conv => whnf
                        exact hk
                      · have hn : y.hasN = false := hn
                        rw [hn] at hcb
                        cases hcb
                  | false =>
                    conv => whnf
                    refine Ask.i (fun hp => ?_) (fun hp => ?_)
                    · have hp : y.hasP = true := hp
                      rw [hp] at hcb
                      conv => whnf
                      exact hk
                    · have hp : y.hasP = false := hp
                      rw [hp] at hcb
                      conv => whnf
                      refine Ask.i (fun hn => ?_) (fun hn => ?_)
                      · have hn : y.hasN = true := hn
                        rw [hn] at hcb
                        conv => whnf
                        cases hcb
                      · have hn : y.hasN = false := hn
                        rw [hn] at hcb
                        cases hcb
                | false =>
                  conv => whnf
                  refine ⟨by show y.cN.length ≤ 68719476736; omega, ?_⟩
                  conv => whnf
                  intro c2 h2
                  have h2 : bigS (w64 y.offN) y.cN = c2 := h2
                  rw [h1, h2] at hcb
                  cases c2 with
                  | true =>
                    conv => whnf
                    refine Ask.i (fun hp => ?_) (fun hp => ?_)
                    · have hp : y.hasP = true := hp
                      rw [hp] at hcb
                      conv => whnf
                      refine Ask.i (fun hn => ?_) (fun hn => ?_)
                      · have hn : y.hasN = true := hn
                        rw [hn] at hcb
                        conv => whnf
                        exact hk
                      · have hn : y.hasN = false := hn
                        rw [hn] at hcb
                        cases hcb
                    · have hp : y.hasP = false := hp
                      rw [hp] at hcb
                      conv => whnf
                      refine Ask.i (fun hn => ?_) (fun hn => ?_)
                      · have hn : y.hasN = true := hn
                        rw [hn] at hcb
                        conv => whnf
                        exact hk
                      · have hn : y.hasN = false := hn
                        rw [hn] at hcb
                        cases hcb
                  | false =>
                    conv => whnf
                    refine Ask.i (fun hp => ?_) (fun hp => ?_)
                    · have hp : y.hasP = true := hp
                      rw [hp] at hcb
                      conv => whnf
                      refine Ask.i (fun hn => ?_) (fun hn => ?_)
                      · have hn : y.hasN = true := hn
                        rw [hn] at hcb
                        conv => whnf
                        cases hcb
                      · have hn : y.hasN = false := hn
                        rw [hn] at hcb
                        cases hcb
                    · have hp : y.hasP = false := hp
                      rw [hp] at hcb
                      conv => whnf
                      refine Ask.i (fun hn => ?_) (fun hn => ?_)
                      · have hn : y.hasN = true := hn
                        rw [hn] at hcb
                        conv => whnf
                        cases hcb
                      · have hn : y.hasN = false := hn
                        rw [hn] at hcb
                        cases hcb
              | false =>
                conv => whnf
                refine ⟨by show y.cP.length ≤ 68719476736; omega, ?_⟩
                conv => whnf
                intro c1 h1
                have h1 : bigS (w64 y.offP) y.cP = c1 := h1
                cases c1 with
                | true =>
                  conv => whnf
                  refine ⟨by show y.cN.length ≤ 68719476736; omega, ?_⟩
                  conv => whnf
                  intro c2 h2
                  have h2 : bigS (w64 y.offN) y.cN = c2 := h2
                  rw [h1, h2] at hcb
                  cases c2 with
                  | true =>
                    conv => whnf
                    refine Ask.i (fun _ => ?_) (fun c => by have c : (x64 (u.count - x.count) == y.count) = false := c; rw [bk.cnt] at c; simp at c)
                    conv => whnf
                    refine Ask.i (fun _ => ?_) (fun c => by have c : (x64 (u.zero - x.zero) == y.zero) = false := c; rw [bk.zer] at c; simp at c)
                    conv => whnf
                    exact hk
                  | false =>
                    conv => whnf
                    refine Ask.i (fun _ => ?_) (fun c => by have c : (x64 (u.count - x.count) == y.count) = false := c; rw [bk.cnt] at c; simp at c)
                    conv => whnf
                    refine Ask.i (fun _ => ?_) (fun c => by have c : (x64 (u.zero - x.zero) == y.zero) = false := c; rw [bk.zer] at c; simp at c)
                    conv => whnf
                    exact hk
                | false =>
                  conv => whnf
                  refine ⟨by show y.cN.length ≤ 68719476736; omega, ?_⟩
                  conv => whnf
                  intro c2 h2
                  have h2 : bigS (w64 y.offN) y.cN = c2 := h2
                  rw [h1, h2] at hcb
                  cases c2 with
                  | true =>
                    conv => whnf
                    refine Ask.i (fun _ => ?_) (fun c => by have c : (x64 (u.count - x.count) == y.count) = false := c; rw [bk.cnt] at c; simp at c)
                    conv => whnf
                    refine Ask.i (fun _ => ?_) (fun c => by have c : (x64 (u.zero - x.zero) == y.zero) = false := c; rw [bk.zer] at c; simp at c)
                    conv => whnf
                    refine Ask.i (fun hp => ?_) (fun hp => ?_)
                    · conv => whnf
                      exact hk
                    · have hp : (!y.hasP) = false := hp
                      have hp : y.hasP = true := by simpa using hp
                      have pos : trim (rsP u).1 (lexP u x).1 = trim (w64 y.offP) y.cP := by
                        rw [bk.pos]
                        show trim (bif y.hasP then w64 y.offP else 0) (bif y.hasP then y.cP else []) = _
                        rw [hp]; rfl
                      have tl := trim_len (w64 y.offP) y.cP
                      conv => whnf
                      refine Ask.i (fun _ => ?_) (fun c => by have c : (w32 (trim (rsP u).1 (lexP u x).1).1 == w32 (trim (w64 y.offP) y.cP).1) = false := c; rw [pos] at c; simp at c)
                      conv => whnf
                      refine ⟨⟨by show (trim (rsP u).1 (lexP u x).1).2.length ≤ 68719476736; rw [pos]; omega, by show (trim (w64 y.offP) y.cP).2.length ≤ 68719476736; omega⟩, ?_⟩
                      conv => whnf
                      exact fin hk (congrArg (fun z : Bool => SV.u (.c (Bo z))) (decide_eq_true (congrArg Prod.snd pos)).symm)
                  | false =>
                    conv => whnf
                    refine Ask.i (fun _ => ?_) (fun c => by have c : (x64 (u.count - x.count) == y.count) = false := c; rw [bk.cnt] at c; simp at c)
                    conv => whnf
                    refine Ask.i (fun _ => ?_) (fun c => by have c : (x64 (u.zero - x.zero) == y.zero) = false := c; rw [bk.zer] at c; simp at c)
                    conv => whnf
                    refine Ask.i (fun hp => ?_) (fun hp => ?_)
                    · conv => whnf
                      exact hk
                    · have hp : (!y.hasP) = false := hp
                      have hp : y.hasP = true := by simpa using hp
                      have pos : trim (rsP u).1 (lexP u x).1 = trim (w64 y.offP) y.cP := by
                        rw [bk.pos]
                        show trim (bif y.hasP then w64 y.offP else 0) (bif y.hasP then y.cP else []) = _
                        rw [hp]; rfl
                      have tl := trim_len (w64 y.offP) y.cP
                      conv => whnf
                      refine Ask.i (fun _ => ?_) (fun c => by have c : (w32 (trim (rsP u).1 (lexP u x).1).1 == w32 (trim (w64 y.offP) y.cP).1) = false := c; rw [pos] at c; simp at c)
                      conv => whnf
                      refine ⟨⟨by show (trim (rsP u).1 (lexP u x).1).2.length ≤ 68719476736; rw [pos]; omega, by show (trim (w64 y.offP) y.cP).2.length ≤ 68719476736; omega⟩, ?_⟩
                      conv => whnf
                      exact fin hk (congrArg (fun z : Bool => SV.u (.c (Bo z))) (decide_eq_true (congrArg Prod.snd pos)).symm)
          | false =>
            rw [qh] at h3
            obtain rfl : o3 = some (histE a b z3) := h3
            obtain ⟨b1, b2, b3, b4⟩ := hist_back (z := z3) rA rB qh
            have gR : HGood k (histE a b z3) := gB.add
            conv => whnf
            refine ⟨⟨gR, lcA, lbA, trivial⟩, ?_⟩
            conv => whnf
            intro w hw
            have hw : unlikeB (histE a b z3) a = w := hw
            rw [b1] at hw
            subst hw
            conv => whnf
            intro z4 hz4
            conv => whnf
            intro w hw
            have hw : lBad (histE a b z3) a = w := hw
            rw [b2] at hw
            subst hw
            conv => whnf
            refine Ask.i (fun c => by have c : (x64 ((histE a b z3).count - a.count) != b.count) = true := c; rw [b3] at c; simp [bne] at c) (fun _ => ?_)
            conv => whnf
            refine ⟨⟨by show (lZip (histE a b z3).cs a.cs).length ≤ 68719476736; rw [b4]; omega, by show b.cs.length ≤ 68719476736; omega⟩, ?_⟩
            conv => whnf
            refine Ask.i (fun c => by have c : (!(decide (lZip (histE a b z3).cs a.cs = b.cs))) = true := c; rw [decide_eq_true b4] at c; cases c) (fun _ => ?_)
            conv => whnf
            refine ⟨⟨gX, gY⟩, ?_⟩
            conv => whnf
            rintro ⟨o5, r5⟩ ⟨z5, h5⟩
            have h5 : o5 = expO x { y with scale := x.scale } 320 z5 := h5
            cases o5 with
            | none =>
              conv => whnf
              exact hk
            | some u =>
              conv => whnf
              refine Ask.i (fun c0 => by conv => whnf
                                         exact hk) (fun c0 => ?_)
              have c0 : (u.scale != x.scale) = false := c0
              have us : u.scale = x.scale := by simpa using c0
              obtain ⟨fU, bk⟩ := exp_back gX gY rfl h5.symm us
              have ua : u.attrs = y.attrs ∧ u.ex = y.ex := by have t := expO_attrs h5.symm; exact t
              have gU : Typ TB (.sl 40) u.attrs ∧ Dp k u.attrs ∧ Typ TB (.sl 44) u.ex ∧ Dp k u.ex := by rw [ua.1, ua.2]; exact ⟨tY.attrs, d5.1, tY.ex, d5.2⟩
              conv => whnf
              refine ⟨⟨fU, gX.fits, gU⟩, ?_⟩
              conv => whnf
              intro w hw
              have hw : (u.scale != x.scale || u.thr != x.thr) = w := hw
              rw [bk.like] at hw
              subst hw
              conv => whnf
              intro z hz
              conv => whnf
              intro cb hcb
              have hcb : lexBad u x = cb := hcb
              rw [bk.bad] at hcb
              have bP : bigS (rsP { y with scale := x.scale }).1 (rsP { y with scale := x.scale }).2 = (y.hasP && bigS (w64 y.offP) y.cP) := by show bigS (bif y.hasP then w64 y.offP else 0) (bif y.hasP then y.cP else []) = _; cases y.hasP <;> rfl
              have bN : bigS (rsN { y with scale := x.scale }).1 (rsN { y with scale := x.scale }).2 = (y.hasN && bigS (w64 y.offN) y.cN) := by show bigS (bif y.hasN then w64 y.offN else 0) (bif y.hasN then y.cN else []) = _; cases y.hasN <;> rfl
              rw [bP, bN] at hcb
              cases cb with
              | true =>
                conv => whnf
                refine ⟨by show y.cP.length ≤ 68719476736; omega, ?_⟩
                conv => whnf
                intro c1 h1
                have h1 : bigS (w64 y.offP) y.cP = c1 := h1
                cases c1 with
                | true =>
                  conv => whnf
                  refine ⟨by show y.cN.length ≤ 68719476736; omega, ?_⟩
                  conv => whnf
                  intro c2 h2
                  have h2 : bigS (w64 y.offN) y.cN = c2 := h2
                  rw [h1, h2] at hcb
                  cases c2 with
                  | true =>
                    conv => whnf
                    refine Ask.i (fun hp => ?_) (fun hp => ?_)
                    · have hp : y.hasP = true := hp
                      rw [hp] at hcb
                      conv => whnf
                      exact hk
                    · have hp : y.hasP = false := hp
                      rw [hp] at hcb
                      conv => whnf
                      refine Ask.i (fun hn => ?_) (fun hn => ?_)
                      · have hn : y.hasN = true := hn
                        rw [hn] at hcb
                        conv => whnf
                        exact hk
                      · have hn : y.hasN = false := hn
                        rw [hn] at hcb
                        cases hcb
                  | false =>
                    conv => whnf
                    refine Ask.i (fun hp => ?_) (fun hp => ?_)
                    · have hp : y.hasP = true := hp
                      rw [hp] at hcb
                      conv => whnf
                      exact hk
                    · have hp : y.hasP = false := hp
                      rw [hp] at hcb
                      conv => whnf
                      refine Ask.i (fun hn => ?_) (fun hn => ?_)
                      · have hn : y.hasN = true := hn
                        rw [hn] at hcb
                        conv => whnf
                        cases hcb
                      · have hn : y.hasN = false := hn
                        rw [hn] at hcb
                        cases hcb
                | false =>
                  conv => whnf
                  refine ⟨by show y.cN.length ≤ 68719476736; omega, ?_⟩
                  conv => whnf
                  intro c2 h2
                  have h2 : bigS (w64 y.offN) y.cN = c2 := h2
                  rw [h1, h2] at hcb
                  cases c2 with
                  | true =>
                    conv => whnf
                    refine Ask.i (fun hp => ?_) (fun hp => ?_)
                    · have hp : y.hasP = true := hp
                      rw [hp] at hcb
                      conv => whnf
                      refine Ask.i (fun hn => ?_) (fun hn => ?_)
                      · have hn : y.hasN = true := hn
                        rw [hn] at hcb
                        conv => whnf
                        exact hk
                      · have hn : y.hasN = false := hn
                        rw [hn] at hcb
                        cases hcb
                    · have hp : y.hasP = false := hp
                      rw [hp] at hcb
                      conv => whnf
                      refine Ask.i (fun hn => ?_) (fun hn => ?_)
                      · have hn : y.hasN = true := hn
                        rw [hn] at hcb
                        conv => whnf
                        exact hk
                      · have hn : y.hasN = false := hn
                        rw [hn] at hcb
                        cases hcb
                  | false =>
                    conv => whnf
                    refine Ask.i (fun hp => ?_) (fun hp => ?_)
                    · have hp : y.hasP = true := hp
                      rw [hp] at hcb
                      conv => whnf
                      refine Ask.i (fun hn => ?_) (fun hn => ?_)
                      · have hn : y.hasN = true := hn
                        rw [hn] at hcb
                        conv => whnf
                        cases hcb
                      · have hn : y.hasN = false := hn
                        rw [hn] at hcb
                        cases hcb
                    · have hp : y.hasP = false := hp
                      rw [hp] at hcb
                      conv => whnf
                      refine Ask.i (fun hn => ?_) (fun hn => ?_)
                      · have hn : y.hasN = true := hn
                        rw [hn] at hcb
                        conv => whnf
                        cases hcb
                      · have hn : y.hasN = false := hn
                        rw [hn] at hcb
                        cases hcb
              | false =>
                conv => whnf
                refine ⟨by show y.cP.length ≤ 68719476736; omega, ?_⟩
                conv => whnf
                intro c1 h1
                have h1 : bigS (w64 y.offP) y.cP = c1 := h1
                cases c1 with
                | true =>
                  conv => whnf
                  refine ⟨by show y.cN.length ≤ 68719476736; omega, ?_⟩
                  conv => whnf
                  intro c2 h2
                  have h2 : bigS (w64 y.offN) y.cN = c2 := h2
                  rw [h1, h2] at hcb
                  cases c2 with
                  | true =>
                    conv => whnf
                    refine Ask.i (fun _ => ?_) (fun c => by have c : (x64 (u.count - x.count) == y.count) = false := c; rw [bk.cnt] at c; simp at c)
                    conv => whnf
                    refine Ask.i (fun _ => ?_) (fun c => by have c : (x64 (u.zero - x.zero) == y.zero) = false := c; rw [bk.zer] at c; simp at c)
                    conv => whnf
                    exact hk
                  | false =>
                    conv => whnf
                    refine Ask.i (fun _ => ?_) (fun c => by have c : (x64 (u.count - x.count) == y.count) = false := c; rw [bk.cnt] at c; simp at c)
                    conv => whnf
                    refine Ask.i (fun _ => ?_) (fun c => by have c : (x64 (u.zero - x.zero) == y.zero) = false := c; rw [bk.zer] at c; simp at c)
                    conv => whnf
                    exact hk
                | false =>
                  conv => whnf
                  refine ⟨by show y.cN.length ≤ 68719476736; omega, ?_⟩
                  conv => whnf
                  intro c2 h2
                  have h2 : bigS (w64 y.offN) y.cN = c2 := h2
                  rw [h1, h2] at hcb
                  cases c2 with
                  | true =>
                    conv => whnf
                    refine Ask.i (fun _ => ?_) (fun c => by have c : (x64 (u.count - x.count) == y.count) = false := c; rw [bk.cnt] at c; simp at c)
                    conv => whnf
                    refine Ask.i (fun _ => ?_) (fun c => by have c : (x64 (u.zero - x.zero) == y.zero) = false := c; rw [bk.zer] at c; simp at c)
                    conv => whnf
                    refine Ask.i (fun hp => ?_) (fun hp => ?_)
                    · conv => whnf
                      exact hk
                    · have hp : (!y.hasP) = false := hp
                      have hp : y.hasP = true := by simpa using hp
                      have pos : trim (rsP u).1 (lexP u x).1 = trim (w64 y.offP) y.cP := by
                        rw [bk.pos]
                        show trim (bif y.hasP then w64 y.offP else 0) (bif y.hasP then y.cP else []) = _
                        rw [hp]; rfl
                      have tl := trim_len (w64 y.offP) y.cP
                      conv => whnf
                      refine Ask.i (fun _ => ?_) (fun c => by have c : (w32 (trim (rsP u).1 (lexP u x).1).1 == w32 (trim (w64 y.offP) y.cP).1) = false := c; rw [pos] at c; simp at c)
                      conv => whnf
                      refine ⟨⟨by show (trim (rsP u).1 (lexP u x).1).2.length ≤ 68719476736; rw [pos]; omega, by show (trim (w64 y.offP) y.cP).2.length ≤ 68719476736; omega⟩, ?_⟩
                      conv => whnf
                      exact fin hk (congrArg (fun z : Bool => SV.u (.c (Bo z))) (decide_eq_true (congrArg Prod.snd pos)).symm)
                  | false =>
                    conv => whnf
                    refine Ask.i (fun _ => ?_) (fun c => by have c : (x64 (u.count - x.count) == y.count) = false := c; rw [bk.cnt] at c; simp at c)
                    conv => whnf
                    refine Ask.i (fun _ => ?_) (fun c => by have c : (x64 (u.zero - x.zero) == y.zero) = false := c; rw [bk.zer] at c; simp at c)
                    conv => whnf
                    refine Ask.i (fun hp => ?_) (fun hp => ?_)
                    · conv => whnf
                      exact hk
                    · have hp : (!y.hasP) = false := hp
                      have hp : y.hasP = true := by simpa using hp
                      have pos : trim (rsP u).1 (lexP u x).1 = trim (w64 y.offP) y.cP := by
                        rw [bk.pos]
                        show trim (bif y.hasP then w64 y.offP else 0) (bif y.hasP then y.cP else []) = _
                        rw [hp]; rfl
                      have tl := trim_len (w64 y.offP) y.cP
                      conv => whnf
                      refine Ask.i (fun _ => ?_) (fun c => by have c : (w32 (trim (rsP u).1 (lexP u x).1).1 == w32 (trim (w64 y.offP) y.cP).1) = false := c; rw [pos] at c; simp at c)
                      conv => whnf
                      refine ⟨⟨by show (trim (rsP u).1 (lexP u x).1).2.length ≤ 68719476736; rw [pos]; omega, by show (trim (w64 y.offP) y.cP).2.length ≤ 68719476736; omega⟩, ?_⟩
                      conv => whnf
                      exact fin hk (congrArg (fun z : Bool => SV.u (.c (Bo z))) (decide_eq_true (congrArg Prod.snd pos)).symm)
        · skip
          conv => whnf
          refine ⟨⟨gB, lcA, lbA⟩, ?_⟩
          conv => whnf
          rintro ⟨o3, r3⟩ ⟨z3, h3⟩
          have h3 : o3 = bif histO a b then none else some (histE a b z3) := h3
          cases qh : histO a b with
          | true =>
            rw [qh] at h3
            obtain rfl : o3 = none := h3
            conv => whnf
            refine ⟨⟨gX, gY⟩, ?_⟩
            conv => whnf
            rintro ⟨o5, r5⟩ ⟨z5, h5⟩
            have h5 : o5 = expO x { y with scale := x.scale } 320 z5 := h5
            cases o5 with
            | none =>
              conv => whnf
              exact hk
            | some u =>
              conv => whnf
              refine Ask.i (fun c0 => by conv => whnf
                                         exact hk) (fun c0 => ?_)
              have c0 : (u.scale != x.scale) = false := c0
              have us : u.scale = x.scale := by simpa using c0
              obtain ⟨fU, bk⟩ := exp_back gX gY rfl h5.symm us
              have ua : u.attrs = y.attrs ∧ u.ex = y.ex := by have t := expO_attrs h5.symm; exact t
              have gU : Typ TB (.sl 40) u.attrs ∧ Dp k u.attrs ∧ Typ TB (.sl 44) u.ex ∧ Dp k u.ex := by rw [ua.1, ua.2]; exact ⟨tY.attrs, d5.1, tY.ex, d5.2⟩
              conv => whnf
              refine ⟨⟨fU, gX.fits, gU⟩, ?_⟩
              conv => whnf
              intro w hw
              have hw : (u.scale != x.scale || u.thr != x.thr) = w := hw
              rw [bk.like] at hw
              subst hw
              conv => whnf
              intro z hz
              conv => whnf
              intro cb hcb
              have hcb : lexBad u x = cb := hcb
              rw [bk.bad] at hcb
              have bP : bigS (rsP { y with scale := x.scale }).1 (rsP { y with scale := x.scale }).2 = (y.hasP && bigS (w64 y.offP) y.cP) := by show bigS (bif y.hasP then w64 y.offP else 0) (bif y.hasP then y.cP else []) = _; cases y.hasP <;> rfl
              have bN : bigS (rsN { y with scale := x.scale }).1 (rsN { y with scale := x.scale }).2 = (y.hasN && bigS (w64 y.offN) y.cN) := by show bigS (bif y.hasN then w64 y.offN else 0) (bif y.hasN then y.cN else []) = _; cases y.hasN <;> rfl
              rw [bP, bN] at hcb
              cases cb with
              | true =>
                conv => whnf
                refine ⟨by show y.cP.length ≤ 68719476736; omega, ?_⟩
                conv => whnf
                intro c1 h1
                have h1 : bigS (w64 y.offP) y.cP = c1 := h1
                cases c1 with
                | true =>
                  conv => whnf
                  refine ⟨by show y.cN.length ≤ 68719476736; omega, ?_⟩
                  conv => whnf
                  intro c2 h2
                  have h2 : bigS (w64 y.offN) y.cN = c2 := h2
                  rw [h1, h2] at hcb
                  cases c2 with
                  | true =>
                    conv => whnf
                    refine Ask.i (fun hp => ?_) (fun hp => ?_)
                    · have hp : y.hasP = true := hp
                      rw [hp] at hcb
                      conv => whnf
                      exact hk
                    · have hp : y.hasP = false := hp
                      rw [hp] at hcb
                      conv => whnf
                      refine Ask.i (fun hn => ?_) (fun hn => ?_)
                      · have hn : y.hasN = true := hn
                        rw [hn] at hcb
                        conv => whnf
                        exact hk
                      · have hn : y.hasN = false := hn
                        rw [hn] at hcb
                        cases hcb
                  | false =>
                    conv => whnf
                    refine Ask.i (fun hp => ?_) (fun hp => ?_)
                    · have hp : y.hasP = true := hp
                      rw [hp] at hcb
                      conv => whnf
                      exact hk
                    · have hp : y.hasP = false := hp
                      rw [hp] at hcb
                      conv => whnf
                      refine Ask.i (fun hn => ?_) (fun hn => ?_)
                      · have hn : y.hasN = true := hn
                        rw [hn] at hcb
                        conv => whnf
                        cases hcb
                      · have hn : y.hasN = false := hn
                        rw [hn] at hcb
                        cases hcb
                | false =>
                  conv => whnf
                  refine ⟨by show y.cN.length ≤ 68719476736; omega, ?_⟩
                  conv => whnf
                  intro c2 h2
                  have h2 : bigS (w64 y.offN) y.cN = c2 := h2
                  rw [h1, h2] at hcb
                  cases c2 with
                  | true =>
                    conv => whnf
                    refine Ask.i (fun hp => ?_) (fun hp => ?_)
                    · have hp : y.hasP = true := hp
                      rw [hp] at hcb
                      conv => whnf
                      refine Ask.i (fun hn => ?_) (fun hn => ?_)
                      · have hn : y.hasN = true := hn
                        rw [hn] at hcb
                        conv => whnf
                        exact hk
                      · have hn : y.hasN = false := hn
                        rw [hn] at hcb
                        cases hcb
                    · have hp : y.hasP = false := hp
                      rw [hp] at hcb
                      conv => whnf
                      refine Ask.i (fun hn => ?_) (fun hn => ?_)
                      · have hn : y.hasN = true := hn
                        rw [hn] at hcb
                        conv => whnf
                        exact hk
                      · have hn : y.hasN = false := hn
                        rw [hn] at hcb
                        cases hcb
                  | false =>
                    conv => whnf
                    refine Ask.i (fun hp => ?_) (fun hp => ?_)
                    · have hp : y.hasP = true := hp
                      rw [hp] at hcb
                      conv => whnf
                      refine Ask.i (fun hn => ?_) (fun hn => ?_)
                      · have hn : y.hasN = true := hn
                        rw [hn] at hcb
                        conv => whnf
                        cases hcb
                      · have hn : y.hasN = false := hn
                        rw [hn] at hcb
                        cases hcb
                    · have hp : y.hasP = false := hp
                      rw [hp] at hcb
                      conv => whnf
                      refine Ask.i (fun hn => ?_) (fun hn => ?_)
                      · have hn : y.hasN = true := hn
                        rw [hn] at hcb
                        conv => whnf
                        cases hcb
                      · have hn : y.hasN = false := hn
                        rw [hn] at hcb
                        cases hcb
              | false =>
                conv => whnf
                refine ⟨by show y.cP.length ≤ 68719476736; omega, ?_⟩
                conv => whnf
                intro c1 h1
                have h1 : bigS (w64 y.offP) y.cP = c1 := h1
                cases c1 with
                | true =>
                  conv => whnf
                  refine ⟨by show y.cN.length ≤ 68719476736; omega, ?_⟩
                  conv => whnf
                  intro c2 h2
                  have h2 : bigS (w64 y.offN) y.cN = c2 := h2
                  rw [h1, h2] at hcb
                  cases c2 with
                  | true =>
                    conv => whnf
                    refine Ask.i (fun _ => ?_) (fun c => by have c : (x64 (u.count - x.count) == y.count) = false := c; rw [bk.cnt] at c; simp at c)
                    conv => whnf
                    refine Ask.i (fun _ => ?_) (fun c => by have c : (x64 (u.zero - x.zero) == y.zero) = false := c; rw [bk.zer] at c; simp at c)
                    conv => whnf
                    exact hk
                  | false =>
                    conv => whnf
                    refine Ask.i (fun _ => ?_) (fun c => by have c : (x64 (u.count - x.count) == y.count) = false := c; rw [bk.cnt] at c; simp at c)
                    conv => whnf
                    refine Ask.i (fun _ => ?_) (fun c => by have c : (x64 (u.zero - x.zero) == y.zero) = false := c; rw [bk.zer] at c; simp at c)
                    conv => whnf
                    exact hk
                | false =>
                  conv => whnf
                  refine ⟨by show y.cN.length ≤ 68719476736; omega, ?_⟩
                  conv => whnf
                  intro c2 h2
                  have h2 : bigS (w64 y.offN) y.cN = c2 := h2
                  rw [h1, h2] at hcb
                  cases c2 with
                  | true =>
                    conv => whnf
                    refine Ask.i (fun _ => ?_) (fun c => by have c : (x64 (u.count - x.count) == y.count) = false := c; rw [bk.cnt] at c; simp at c)
                    conv => whnf
                    refine Ask.i (fun _ => ?_) (fun c => by have c : (x64 (u.zero - x.zero) == y.zero) = false := c; rw [bk.zer] at c; simp at c)
                    conv => whnf
                    refine Ask.i (fun hp => ?_) (fun hp => ?_)
                    · conv => whnf
                      exact hk
                    · have hp : (!y.hasP) = false := hp
                      have hp : y.hasP = true := by simpa using hp
                      have pos : trim (rsP u).1 (lexP u x).1 = trim (w64 y.offP) y.cP := by
                        rw [bk.pos]
                        show trim (bif y.hasP then w64 y.offP else 0) (bif y.hasP then y.cP else []) = _
                        rw [hp]; rfl
                      have tl := trim_len (w64 y.offP) y.cP
                      conv => whnf
                      refine Ask.i (fun _ => ?_) (fun c => by have c : (w32 (trim (rsP u).1 (lexP u x).1).1 == w32 (trim (w64 y.offP) y.cP).1) = false := c; rw [pos] at c; simp at c)
                      conv => whnf
                      refine ⟨⟨by show (trim (rsP u).1 (lexP u x).1).2.length ≤ 68719476736; rw [pos]; omega, by show (trim (w64 y.offP) y.cP).2.length ≤ 68719476736; omega⟩, ?_⟩
                      conv => whnf
                      exact fin hk (congrArg (fun z : Bool => SV.u (.c (Bo z))) (decide_eq_true (congrArg Prod.snd pos)).symm)
                  | false =>
                    conv => whnf
                    refine Ask.i (fun _ => ?_) (fun c => by have c : (x64 (u.count - x.count) == y.count) = false := c; rw [bk.cnt] at c; simp at c)
                    conv => whnf
                    refine Ask.i (fun _ => ?_) (fun c => by have c : (x64 (u.zero - x.zero) == y.zero) = false := c; rw [bk.zer] at c; simp at c)
                    conv => whnf
                    refine Ask.i (fun hp => ?_) (fun hp => ?_)
                    · conv => whnf
                      exact hk
                    · have hp : (!y.hasP) = false := hp
                      have hp : y.hasP = true := by simpa using hp
                      have pos : trim (rsP u).1 (lexP u x).1 = trim (w64 y.offP) y.cP := by
                        rw [bk.pos]
                        show trim (bif y.hasP then w64 y.offP else 0) (bif y.hasP then y.cP else []) = _
                        rw [hp]; rfl
                      have tl := trim_len (w64 y.offP) y.cP
                      conv => whnf
                      refine Ask.i (fun _ => ?_) (fun c => by have c : (w32 (trim (rsP u).1 (lexP u x).1).1 == w32 (trim (w64 y.offP) y.cP).1) = false := c; rw [pos] at c; simp at c)
                      conv => whnf
                      refine ⟨⟨by show (trim (rsP u).1 (lexP u x).1).2.length ≤ 68719476736; rw [pos]; omega, by show (trim (w64 y.offP) y.cP).2.length ≤ 68719476736; omega⟩, ?_⟩
                      conv => whnf
                      exact fin hk (congrArg (fun z : Bool => SV.u (.c (Bo z))) (decide_eq_true (congrArg Prod.snd pos)).symm)
          | false =>
            rw [qh] at h3
            obtain rfl : o3 = some (histE a b z3) := h3
            obtain ⟨b1, b2, b3, b4⟩ := hist_back (z := z3) rA rB qh
            have gR : HGood k (histE a b z3) := gB.add
            conv => whnf
            refine ⟨⟨gR, lcA, lbA, trivial⟩, ?_⟩
            conv => whnf
            intro w hw
            have hw : unlikeB (histE a b z3) a = w := hw
            rw [b1] at hw
            subst hw
            conv => whnf
            intro z4 hz4
            conv => whnf
            intro w hw
            have hw : lBad (histE a b z3) a = w := hw
            rw [b2] at hw
            subst hw
            conv => whnf
            refine Ask.i (fun c => by have c : (x64 ((histE a b z3).count - a.count) != b.count) = true := c; rw [b3] at c; simp [bne] at c) (fun _ => ?_)
            conv => whnf
            refine ⟨⟨by show (lZip (histE a b z3).cs a.cs).length ≤ 68719476736; rw [b4]; omega, by show b.cs.length ≤ 68719476736; omega⟩, ?_⟩
            conv => whnf
            refine Ask.i (fun c => by have c : (!(decide (lZip (histE a b z3).cs a.cs = b.cs))) = true := c; rw [decide_eq_true b4] at c; cases c) (fun _ => ?_)
            conv => whnf
            refine ⟨⟨gX, gY⟩, ?_⟩
            conv => whnf
            rintro ⟨o5, r5⟩ ⟨z5, h5⟩
            have h5 : o5 = expO x { y with scale := x.scale } 320 z5 := h5
            cases o5 with
            | none =>
              conv => whnf
              exact hk
            | some u =>
              conv => whnf
              refine Ask.i (fun c0 => by conv => whnf
                                         exact hk) (fun c0 => ?_)
              have c0 : (u.scale != x.scale) = false := c0
              have us : u.scale = x.scale := by simpa using c0
              obtain ⟨fU, bk⟩ := exp_back gX gY rfl h5.symm us
              have ua : u.attrs = y.attrs ∧ u.ex = y.ex := by have t := expO_attrs h5.symm; exact t
              have gU : Typ TB (.sl 40) u.attrs ∧ Dp k u.attrs ∧ Typ TB (.sl 44) u.ex ∧ Dp k u.ex := by rw [ua.1, ua.2]; exact ⟨tY.attrs, d5.1, tY.ex, d5.2⟩
              conv => whnf
              refine ⟨⟨fU, gX.fits, gU⟩, ?_⟩
              conv => whnf
              intro w hw
              have hw : (u.scale != x.scale || u.thr != x.thr) = w := hw
              rw [bk.like] at hw
              subst hw
              conv => whnf
              intro z hz
              conv => whnf
              intro cb hcb
              have hcb : lexBad u x = cb := hcb
              rw [bk.bad] at hcb
              have bP : bigS (rsP { y with scale := x.scale }).1 (rsP { y with scale := x.scale }).2 = (y.hasP && bigS (w64 y.offP) y.cP) := by show bigS (bif y.hasP then w64 y.offP else 0) (bif y.hasP then y.cP else []) = _; cases y.hasP <;> rfl
              have bN : bigS (rsN { y with scale := x.scale }).1 (rsN { y with scale := x.scale }).2 = (y.hasN && bigS (w64 y.offN) y.cN) := by show bigS (bif y.hasN then w64 y.offN else 0) (bif y.hasN then y.cN else []) = _; cases y.hasN <;> rfl
              rw [bP, bN] at hcb
              cases cb with
              | true =>
                conv => whnf
                refine ⟨by show y.cP.length ≤ 68719476736; omega, ?_⟩
                conv => whnf
                intro c1 h1
                have h1 : bigS (w64 y.offP) y.cP = c1 := h1
                cases c1 with
                | true =>
                  conv => whnf
                  refine ⟨by show y.cN.length ≤ 68719476736; omega, ?_⟩
                  conv => whnf
                  intro c2 h2
                  have h2 : bigS (w64 y.offN) y.cN = c2 := h2
                  rw [h1, h2] at hcb
                  cases c2 with
                  | true =>
                    conv => whnf
                    refine Ask.i (fun hp => ?_) (fun hp => ?_)
                    · have hp : y.hasP = true := hp
                      rw [hp] at hcb
                      conv => whnf
                      exact hk
                    · have hp : y.hasP = false := hp
                      rw [hp] at hcb
                      conv => whnf
                      refine Ask.i (fun hn => ?_) (fun hn => ?_)
                      · have hn : y.hasN = true := hn
                        rw [hn] at hcb
                        conv => whnf
                        exact hk
                      · have hn : y.hasN = false := hn
                        rw [hn] at hcb
                        cases hcb
                  | false =>
                    conv => whnf
                    refine Ask.i (fun hp => ?_) (fun hp => ?_)
                    · have hp : y.hasP = true := hp
                      rw [hp] at hcb
                      conv => whnf
                      exact hk
                    · have hp : y.hasP = false := hp
                      rw [hp] at hcb
                      conv => whnf
                      refine Ask.i (fun hn => ?_) (fun hn => ?_)
                      · have hn : y.hasN = true := hn
                        rw [hn] at hcb
                        conv => whnf
                        cases hcb
                      · have hn : y.hasN = false := hn
                        rw [hn] at hcb
                        cases hcb
                | false =>
                  conv => whnf
                  refine ⟨by show y.cN.length ≤ 68719476736; omega, ?_⟩
                  conv => whnf
                  intro c2 h2
                  have h2 : bigS (w64 y.offN) y.cN = c2 := h2
                  rw [h1, h2] at hcb
                  cases c2 with
                  | true =>
                    conv => whnf
                    refine Ask.i (fun hp => ?_) (fun hp => ?_)
                    · have hp : y.hasP = true := hp
                      rw [hp] at hcb
                      conv => whnf
                      refine Ask.i (fun hn => ?_) (fun hn => ?_)
                      · have hn : y.hasN = true := hn
                        rw [hn] at hcb
                        conv => whnf
                        exact hk
                      · have hn : y.hasN = false := hn
                        rw [hn] at hcb
                        cases hcb
                    · have hp : y.hasP = false := hp
                      rw [hp] at hcb
                      conv => whnf
                      refine Ask.i (fun hn => ?_) (fun hn => ?_)
                      · have hn : y.hasN = true := hn
                        rw [hn] at hcb
                        conv => whnf
                        exact hk
                      · have hn : y.hasN = false := hn
                        rw [hn] at hcb
                        cases hcb
                  | false =>
                    conv => whnf
                    refine Ask.i (fun hp => ?_) (fun hp => ?_)
                    · have hp : y.hasP = true := hp
                      rw [hp] at hcb
                      conv => whnf
                      refine Ask.i (fun hn => ?_) (fun hn => ?_)
                      · have hn : y.hasN = true := hn
                        rw [hn] at hcb
                        conv => whnf
                        cases hcb
                      · have hn : y.hasN = false := hn
                        rw [hn] at hcb
                        cases hcb
                    · have hp : y.hasP = false := hp
                      rw [hp] at hcb
                      conv => whnf
                      refine Ask.i (fun hn => ?_) (fun hn => ?_)
                      · have hn : y.hasN = true := hn
                        rw [hn] at hcb
                        conv => whnf
                        cases hcb
                      · have hn : y.hasN = false := hn
                        rw [hn] at hcb
                        cases hcb
              | false =>
                conv => whnf
                refine ⟨by show y.cP.length ≤ 68719476736; omega, ?_⟩
                conv => whnf
                intro c1 h1
                have h1 : bigS (w64 y.offP) y.cP = c1 := h1
                cases c1 with
                | true =>
                  conv => whnf
                  refine ⟨by show y.cN.length ≤ 68719476736; omega, ?_⟩
                  conv => whnf
                  intro c2 h2
                  have h2 : bigS (w64 y.offN) y.cN = c2 := h2
                  rw [h1, h2] at hcb
                  cases c2 with
                  | true =>
                    conv => whnf
                    refine Ask.i (fun _ => ?_) (fun c => by have c : (x64 (u.count - x.count) == y.count) = false := c; rw [bk.cnt] at c; simp at c)
                    conv => whnf
                    refine Ask.i (fun _ => ?_) (fun c => by have c : (x64 (u.zero - x.zero) == y.zero) = false := c; rw [bk.zer] at c; simp at c)
                    conv => whnf
                    exact hk
                  | false =>
                    conv => whnf
                    refine Ask.i (fun _ => ?_) (fun c => by have c : (x64 (u.count - x.count) == y.count) = false := c; rw [bk.cnt] at c; simp at c)
                    conv => whnf
                    refine Ask.i (fun _ => ?_) (fun c => by have c : (x64 (u.zero - x.zero) == y.zero) = false := c; rw [bk.zer] at c; simp at c)
                    conv => whnf
                    exact hk
                | false =>
                  conv => whnf
                  refine ⟨by show y.cN.length ≤ 68719476736; omega, ?_⟩
                  conv => whnf
                  intro c2 h2
                  have h2 : bigS (w64 y.offN) y.cN = c2 := h2
                  rw [h1, h2] at hcb
                  cases c2 with
                  | true =>
                    conv => whnf
                    refine Ask.i (fun _ => ?_) (fun c => by have c : (x64 (u.count - x.count) == y.count) = false := c; rw [bk.cnt] at c; simp at c)
                    conv => whnf
                    refine Ask.i (fun _ => ?_) (fun c => by have c : (x64 (u.zero - x.zero) == y.zero) = false := c; rw [bk.zer] at c; simp at c)
                    conv => whnf
                    refine Ask.i (fun hp => ?_) (fun hp => ?_)
                    · conv => whnf
                      exact hk
                    · have hp : (!y.hasP) = false := hp
                      have hp : y.hasP = true := by simpa using hp
                      have pos : trim (rsP u).1 (lexP u x).1 = trim (w64 y.offP) y.cP := by
                        rw [bk.pos]
                        show trim (bif y.hasP then w64 y.offP else 0) (bif y.hasP then y.cP else []) = _
                        rw [hp]; rfl
                      have tl := trim_len (w64 y.offP) y.cP
                      conv => whnf
                      refine Ask.i (fun _ => ?_) (fun c => by have c : (w32 (trim (rsP u).1 (lexP u x).1).1 == w32 (trim (w64 y.offP) y.cP).1) = false := c; rw [pos] at c; simp at c)
                      conv => whnf
                      refine ⟨⟨by show (trim (rsP u).1 (lexP u x).1).2.length ≤ 68719476736; rw [pos]; omega, by show (trim (w64 y.offP) y.cP).2.length ≤ 68719476736; omega⟩, ?_⟩
                      conv => whnf
                      exact fin hk (congrArg (fun z : Bool => SV.u (.c (Bo z))) (decide_eq_true (congrArg Prod.snd pos)).symm)
                  | false =>
                    conv => whnf
                    refine Ask.i (fun _ => ?_) (fun c => by have c : (x64 (u.count - x.count) == y.count) = false := c; rw [bk.cnt] at c; simp at c)
                    conv => whnf
                    refine Ask.i (fun _ => ?_) (fun c => by have c : (x64 (u.zero - x.zero) == y.zero) = false := c; rw [bk.zer] at c; simp at c)
                    conv => whnf
                    refine Ask.i (fun hp => ?_) (fun hp => ?_)
                    · conv => whnf
                      exact hk
                    · have hp : (!y.hasP) = false := hp
                      have hp : y.hasP = true := by simpa using hp
                      have pos : trim (rsP u).1 (lexP u x).1 = trim (w64 y.offP) y.cP := by
                        rw [bk.pos]
                        show trim (bif y.hasP then w64 y.offP else 0) (bif y.hasP then y.cP else []) = _
                        rw [hp]; rfl
                      have tl := trim_len (w64 y.offP) y.cP
                      conv => whnf
                      refine Ask.i (fun _ => ?_) (fun c => by have c : (w32 (trim (rsP u).1 (lexP u x).1).1 == w32 (trim (w64 y.offP) y.cP).1) = false := c; rw [pos] at c; simp at c)
                      conv => whnf
                      refine ⟨⟨by show (trim (rsP u).1 (lexP u x).1).2.length ≤ 68719476736; rw [pos]; omega, by show (trim (w64 y.offP) y.cP).2.length ≤ 68719476736; omega⟩, ?_⟩
                      conv => whnf
                      exact fin hk (congrArg (fun z : Bool => SV.u (.c (Bo z))) (decide_eq_true (congrArg Prod.snd pos)).symm)
    · exact hk.elim
  · exact hk.elim
end Sx
/-! MergeBack, at any input. -/
namespace Sx
open Go Go.Proofs Go.RowKit
set_option linter.unusedVariables false
set_option maxRecDepth 30000
theorem deepE (a : ExpD) : ∃ k, ∀ m, k ≤ m → a.Small → DpE m a := by
  by_cases h : a.Small
  · obtain ⟨k, hk⟩ := Small.dpE h; exact ⟨k, fun m hm _ => ⟨hk.1.mono hm, hk.2.mono hm⟩⟩
  · exact ⟨0, fun _ _ h' => absurd h' h⟩
theorem deepH (a : HistD) : ∃ k, ∀ m, k ≤ m → a.Small → DpH m a := by
  by_cases h : a.Small
  · obtain ⟨k, hk⟩ := h.dpH; exact ⟨k, fun m hm _ => ⟨hk.1.mono hm, hk.2.mono hm⟩⟩
  · exact ⟨0, fun _ _ h' => absurd h' h⟩
theorem deepN (a : NumD) : ∃ k, ∀ m, k ≤ m → a.Small → DpN m a := by
  by_cases h : a.Small
  · obtain ⟨k, hk⟩ := h.attrs.dp
    obtain ⟨j, hj⟩ := h.ex.dp
    exact ⟨k + j, fun m hm _ => ⟨hk.mono (by omega), hj.mono (by omega)⟩⟩
  · exact ⟨0, fun _ _ h' => absurd h' h⟩
theorem mergeBack_walk {H : Type} {enc : TypeId × Value → H} {W : World} {base : Nat} {spare : Nat → Bool} {held : Bool} {n0 n1 n2 n3 n4 n5 : Nat} {c0 c1 c2 c3 c4 c5 : List Value} {x0 x1 x2 x3 x4 x5 : DataW H × List MemPlace}
    (h0 : DataW.trod enc Tryd.prog W base spare held n0 71 c0 = some x0) (h1 : DataW.trod enc Tryd.prog W base spare held n1 71 c1 = some x1) (h2 : DataW.trod enc Tryd.prog W base spare held n2 56 c2 = some x2)
    (h3 : DataW.trod enc Tryd.prog W base spare held n3 56 c3 = some x3) (h4 : DataW.trod enc Tryd.prog W base spare held n4 47 c4 = some x4) (h5 : DataW.trod enc Tryd.prog W base spare held n5 47 c5 = some x5) (hg : YtcmghblegllmlaaDoor.Cd.Lays W) :
    Calls Tryd.prog 9 #[.agg c0.toArray, .agg c1.toArray, .agg c2.toArray, .agg c3.toArray, .agg c4.toArray, .agg c5.toArray] W fun e W' => e = .returned (.bool true) ∧ Below W.heap.size W W' := by
  obtain ⟨n, tN, dN⟩ := open_num h0
  obtain ⟨m, tM, dM⟩ := open_num h1
  obtain ⟨a, tA, dA⟩ := open_hist h2
  obtain ⟨b, tB, dB⟩ := open_hist h3
  obtain ⟨x, tX, cX, dX⟩ := open_exp h4
  obtain ⟨y, tY, cY, dY⟩ := open_exp h5
  obtain ⟨k1, e1⟩ := deepN m
  obtain ⟨k2, e2⟩ := deepH a
  obtain ⟨k3, e3⟩ := deepH b
  obtain ⟨k4, e4⟩ := deepE x
  obtain ⟨k5, e5⟩ := deepE y
  have := (lawBack_ok (k := k1 + k2 + k3 + k4 + k5)).2 (fun s => s = .u (.c (Bo true))) [.a n.cells, .a m.cells, .a a.cells, .a b.cells, .a x.cells, .a y.cells] (fun _ => False) W [.agg c0.toArray, .agg c1.toArray, .agg c2.toArray, .agg c3.toArray, .agg c4.toArray, .agg c5.toArray]
    ⟨⟨tN, tM, tA, tB, tX, tY, cX, cY, e1 _ (by omega), e2 _ (by omega), e3 _ (by omega), e4 _ (by omega), e5 _ (by omega)⟩, rfl⟩ (GOk1 hg) (fun b h => h.elim)
    ⟨⟨c0, rfl, dN⟩, ⟨c1, rfl, dM⟩, ⟨c2, rfl, dA⟩, ⟨c3, rfl, dB⟩, ⟨c4, rfl, dX⟩, ⟨c5, rfl, dY⟩, trivial⟩
  refine this.mono fun e' W' ⟨r, v, h1, h2, h3, h4⟩ => ?_
  subst h2
  obtain ⟨rfl, _⟩ := h3
  exact ⟨h1, h4.below⟩
end Sx
