/- Part of the proof: a machine of states for walks, and contracts of functions over it. Conditions: those that each theorem names. -/
import Derived.Test.YtcjdbimojffggaaGreatDoorVg
import Derived.Test.YtcjdbimojffggaaGreatDoorVf
set_option linter.unusedVariables false
set_option linter.unusedSimpArgs false
/-! Numbers: rooms, sums, differences. -/
namespace Sx
open Go Go.Proofs Go.RowKit
set_option linter.unusedVariables false
set_option maxRecDepth 30000
variable {G : Glob}
structure NumD where
  attrs : D
  start : Int
  time : Int
  kind : Int
  n : Int
  ex : D
  flags : Int
  unk : ByteArray
def NumD.cells (e : NumD) : List C := [.d 30 e.attrs, U64 e.start, U64 e.time, I64 e.kind, U64 e.n, .d 32 e.ex, U32 e.flags, St e.unk]
def asNum : List C → Option NumD
  | [.d 30 attrs, .v (.int .u64 start), .v (.int .u64 time), .v (.int .i64 kind), .v (.int .u64 n), .d 32 ex, .v (.int .u32 flags), .v (.string unk)] => some ⟨attrs, start, time, kind, n, ex, flags, unk⟩
  | _ => none
theorem asNum_eq {l : List C} {e : NumD} (h : asNum l = some e) : l = e.cells := by
  unfold asNum at h
  split at h
  · obtain rfl := Option.some.inj h; rfl
  · cases h
structure NumD.Typ (e : NumD) : Prop where
  attrs : Sx.Typ TB (.sl 30) e.attrs
  ex : Sx.Typ TB (.sl 32) e.ex
  rn : 0 ≤ e.n ∧ e.n < 18446744073709551616
structure NumD.Small (e : NumD) : Prop where
  attrs : Sx.Small e.attrs
  ex : Sx.Small e.ex
def rnS : List U → Out SV
  | [.a l, .c (.v (.int .i64 r))] => match asNum l with
    | some e => .need (e.Typ ∧ -1 ≤ r ∧ r ≤ 30000) (left (r - 20) e.Small)
    | none => .fail
  | _ => .fail
theorem roomNum_ok : Ok G 32 rnS := by
  have hS : AllSound (B [(58, .pure (normG (B []) [3, 3] takeS)), (57, .pure (normG (B []) [30, 3, 3] (rkS 100))), (56, .pure (normG (B []) [32, 3] reS))]) G := .cons _ take_ok (.cons _ roomKeys_ok' (.cons _ roomExemplars_ok noneS))
  refine okP hS Tryz.func32 rfl (by decide) fun K us hk => ?_
  unfold rnS at hk
  split at hk
  · rename_i l r
    split at hk
    · rename_i e he
      rw [asNum_eq he]
      refine ⟨by show 2 ≤ _; decide, ?_⟩
      obtain ⟨⟨hT, hr1, hr2⟩, hk⟩ := hk
      have hk : ∀ z : Int, (-1 ≤ z ∧ (0 ≤ z → z ≤ r - 20 ∧ e.Small)) → K (.u (.c (I64 z))) := hk
      have t1 := tk_spec (r := r) (n := (e.unk.size : Nat)) hr1 (Int.natCast_nonneg _)
      conv => whnf
      refine ⟨mixed, [], [], [], by kernel_rfl, ?_⟩
      conv => whnf
      refine ⟨⟨hr1, by omega, Int.natCast_nonneg _⟩, ?_⟩
      conv => whnf
      refine ⟨⟨hT.attrs, by decide, by decide, by decide, t1.1, by show tk r (e.unk.size : Nat) ≤ 30000; omega⟩, ?_⟩
      conv => whnf
      rintro z ⟨z1, z2⟩
      have z2 : 0 ≤ z → z ≤ tk r (e.unk.size : Nat) ∧ Small e.attrs := z2
      conv => whnf
      refine ⟨⟨hT.ex, z1, ?_⟩, ?_⟩
      · by_cases h0 : 0 ≤ z
        · have := z2 h0; omega
        · omega
      conv => whnf
      rintro v ⟨v1, v2⟩
      have v2 : 0 ≤ v → v ≤ z ∧ Small e.ex := v2
      conv => whnf
      refine hk v ⟨v1, fun h0 => ?_⟩
      obtain ⟨a1, a2⟩ := v2 h0
      obtain ⟨b1, b2⟩ := z2 (by omega)
      have q1 := t1.2.2 (by omega)
      exact ⟨by omega, b2, a2⟩
    · exact hk.elim
  · exact hk.elim
def NGood (k : Nat) (e : NumD) : Prop := Typ TB (.sl 30) e.attrs ∧ Dp k e.attrs ∧ Typ TB (.sl 32) e.ex ∧ Dp k e.ex
def twNS (k : Nat) : List U → Out SV
  | [.a l] => match asNum l with
    | some e => .need (NGood k e) (agg e.cells)
    | none => .fail
  | _ => .fail
theorem twNum_ok {k : Nat} : Ok G 62 (twNS k) := by
  have hS : AllSound (B [(97, .pure (normG (B []) [30] (keysS k))), (98, .pure (normG (B []) [32, 176] (eachXS k)))]) G := .cons _ (keys_all k) (.cons _ (eachX_ok k fun m _ => ex_ok) noneS)
  refine okP hS Tryz.func62 rfl (by decide) fun K us hk => ?_
  unfold twNS at hk
  split at hk
  · rename_i l
    split at hk
    · rename_i e he
      rw [asNum_eq he]
      refine ⟨by show 1 ≤ _; decide, ?_⟩
      obtain ⟨⟨h1, h2, h3, h4⟩, hk⟩ := hk
      conv => whnf
      refine ⟨mixed, [(7, [1]), (9, [1])], [(1, []), (2, []), (4, []), (5, [])], [], by kernel_rfl, ?_⟩
      conv => whnf
      refine ⟨⟨h1, h2⟩, ?_⟩
      conv => whnf
      refine ⟨⟨h3, h4⟩, ?_⟩
      conv => whnf
      exact hk
    · exact hk.elim
  · exact hk.elim
def noNum : NumD := ⟨.rows [], 0, 0, 0, 0, .rows [], 0, nos⟩
def sumBad (x y : Int) : Bool := decide (w64 (w64 x + w64 y) > w64 x) != decide (w64 y > 0)
def numS (k : Nat) : List U → Out SV
  | [.a la, .a lb] => match asNum la, asNum lb with
    | some a, some b => .need (NGood k b) (wp1 (kindsB a.kind b.kind) fun c => bif c then wp1 (b.kind == 1) fun c => bif c then .all Int (fun _ => True) ⟨0, trivial⟩ (fun z => .ret (.t [.a ({ b with start := a.start, n := z } : NumD).cells, .c nilV]))
        else wp1 (sumBad a.n b.n) fun c => bif c then .ret (.t [.a noNum.cells, .c (errV 9)]) else .ret (.t [.a ({ b with start := a.start, n := x64 (w64 (w64 a.n + w64 b.n)) } : NumD).cells, .c nilV])
      else .ret (.t [.a noNum.cells, .c (errV 13)]))
    | _, _ => .fail
  | _ => .fail
theorem num_ok {k : Nat} : Ok G 66 (numS k) := by
  have hS : AllSound (B [(105, .pure (normG (B []) [35, 35] kindsS)), (62, .pure (normG (B []) [35] (twNS k))), (106, .pure (normG (B []) [31, 31] addFS))]) G := .cons _ kinds_ok (.cons _ twNum_ok (.cons _ addF_ok noneS))
  refine okP hS Tryz.func66 rfl (by decide) fun K us hk => ?_
  unfold numS at hk
  split at hk
  · split at hk
    · rename_i la lb _ _ a b ha hb
      rw [asNum_eq ha, asNum_eq hb]
      refine ⟨by show 2 ≤ _; decide, ?_⟩
      obtain ⟨hB, hk⟩ := hk
      have hk := hk _ rfl
      conv => whnf
      refine Ask.i (fun c1 => ?_) (fun c1 => ?_)
      · have c1 : (!(kindsB a.kind b.kind)) = true := c1
        rw [show kindsB a.kind b.kind = false by simpa using c1] at hk
        conv => whnf
        exact hk
      · have c1 : (!(kindsB a.kind b.kind)) = false := c1
        rw [show kindsB a.kind b.kind = true by simpa using c1] at hk
        have hk := hk _ rfl
        conv => whnf
        refine ⟨hB, ?_⟩
        conv => whnf
        refine Ask.i (fun c2 => ?_) (fun c2 => ?_)
        · have c2 : (b.kind == 1) = true := c2
          rw [c2] at hk
          conv => whnf
          intro z hz
          conv => whnf
          exact hk z trivial
        · have c2 : (b.kind == 1) = false := c2
          rw [c2] at hk
          have hk := hk _ rfl
          conv => whnf
          refine ⟨mixed, [], [], [], by kernel_rfl, ?_⟩
          conv => whnf
          refine Ask.i (fun c3 => ?_) (fun c3 => ?_)
          · have c3 : sumBad a.n b.n = true := c3
            rw [c3] at hk
            conv => whnf
            exact hk
          · have c3 : sumBad a.n b.n = false := c3
            rw [c3] at hk
            conv => whnf
            exact hk
    · exact hk.elim
  · exact hk.elim
def difBad (x y : Int) : Bool := decide (w64 (w64 x - w64 y) < w64 x) != decide (w64 y > 0)
def lessNS (k : Nat) : List U → Out SV
  | [.a la, .a lb, .c (.v (.bool false))] => match asNum la, asNum lb with
    | some a, some b => .need (NGood k a) (wp1 (kindsB a.kind b.kind) fun c => bif c then wp1 (a.kind == 1) fun c => bif c then .all Int (fun _ => True) ⟨0, trivial⟩ (fun z => .ret (.t [.a ({ a with start := b.time, n := z } : NumD).cells, .c nilV]))
        else wp1 (difBad a.n b.n) fun c => bif c then .ret (.t [.a noNum.cells, .c (errV 9)]) else .ret (.t [.a ({ a with start := b.time, n := x64 (w64 (w64 a.n - w64 b.n)) } : NumD).cells, .c nilV])
      else .ret (.t [.a noNum.cells, .c (errV 13)]))
    | _, _ => .fail
  | _ => .fail
theorem w64_mod (n : Int) : w64 n = (n + 9223372036854775808) % 18446744073709551616 - 9223372036854775808 := IntKind.wrap_i64 n
/-- the sum less the first is the second -/
theorem num_back {x y : Int} (hx : 0 ≤ x ∧ x < 18446744073709551616) (hy : 0 ≤ y ∧ y < 18446744073709551616) (h : sumBad x y = false) :
    difBad (x64 (w64 (w64 x + w64 y))) x = false ∧ x64 (w64 (w64 (x64 (w64 (w64 x + w64 y))) - w64 x)) = y := by
  unfold sumBad at h
  unfold difBad
  have ex : ∀ n, x64 n = n % 18446744073709551616 := fun n => by
    show IntKind.u64.wrap n = _
    rw [IntKind.wrap_u64]
  simp only [bne_eq_false_iff_eq, decide_eq_decide] at h ⊢
  simp only [w64_mod, ex] at h ⊢
  omega
end Sx
/-! Points of kind number, exactly: what the chapter's examples need. -/
namespace Sx.Nu
open Go Go.Proofs
set_option linter.unusedVariables false
set_option maxRecDepth 30000
variable {G : Glob}
/-- what lies in a point behind its number: nothing of the other kinds -/
def restW : List C := [.d 30 (.rows []), U64 0, U64 0, U64 0, Bo false, U64 0, Bo false, U64 0, Bo false, U64 0, .d 38 (.ints []), .d 38 (.ints []), .d 32 (.rows []), U32 0, St nos,
  .d 30 (.rows []), U64 0, U64 0, U64 0, Bo false, U64 0, Bo false, U64 0, Bo false, U64 0, I32 0, U64 0, Bo false, I32 0, .d 38 (.ints []), St nos, Bo false, I32 0, .d 38 (.ints []), St nos, .d 32 (.rows []), U32 0, U64 0, St nos]
def ptW (n : NumD) : List C := I64 2 :: .d 30 n.attrs :: U64 n.start :: U64 n.time :: I64 n.kind :: U64 n.n :: .d 32 n.ex :: U32 n.flags :: St n.unk :: restW
/-- no point -/
def ptZ : List C := I64 0 :: .d 30 (.rows []) :: U64 0 :: U64 0 :: I64 0 :: U64 0 :: .d 32 (.rows []) :: U32 0 :: St nos :: restW
def asPt : List C → Option (Int × NumD × List C)
  | .v (.int .i64 kd) :: .d 30 attrs :: .v (.int .u64 start) :: .v (.int .u64 time) :: .v (.int .i64 kind) :: .v (.int .u64 n) :: .d 32 ex :: .v (.int .u32 flags) :: .v (.string unk) :: rest => some (kd, ⟨attrs, start, time, kind, n, ex, flags, unk⟩, rest)
  | _ => none
theorem asPt_eq {l : List C} {kd : Int} {n : NumD} {r : List C} (h : asPt l = some (kd, n, r)) : l = I64 kd :: .d 30 n.attrs :: U64 n.start :: U64 n.time :: I64 n.kind :: U64 n.n :: .d 32 n.ex :: U32 n.flags :: St n.unk :: r := by
  unfold asPt at h
  split at h
  · obtain ⟨rfl, rfl, rfl⟩ := h; rfl
  · cases h
def PGood (k : Nat) (kd : Int) (n : NumD) (r : List C) : Prop := kd = 2 ∧ r = restW ∧ NGood k n
def startS : List U → Out SV
  | [.a l] => match asPt l with
    | some (kd, n, r) => .need (kd = 2 ∧ r = restW) (one (U64 n.start))
    | none => .fail
  | _ => .fail
theorem start_ok : Ok G 28 startS := by
  refine okP noneS Tryz.func28 rfl (by decide) fun K us hk => ?_
  unfold startS at hk
  split at hk
  · split at hk
    · rename_i l _ kd n r hl
      rw [asPt_eq hl]
      refine ⟨by show 1 ≤ _; decide, ?_⟩
      obtain ⟨⟨rfl, rfl⟩, hk⟩ := hk
      conv => whnf
      exact hk
    · exact hk.elim
  · exact hk.elim
def timeS : List U → Out SV
  | [.a l] => match asPt l with
    | some (kd, n, r) => .need (kd = 2 ∧ r = restW) (one (U64 n.time))
    | none => .fail
  | _ => .fail
theorem time_ok : Ok G 30 timeS := by
  refine okP noneS Tryz.func30 rfl (by decide) fun K us hk => ?_
  unfold timeS at hk
  split at hk
  · split at hk
    · rename_i l _ kd n r hl
      rw [asPt_eq hl]
      refine ⟨by show 1 ≤ _; decide, ?_⟩
      obtain ⟨⟨rfl, rfl⟩, hk⟩ := hk
      conv => whnf
      exact hk
    · exact hk.elim
  · exact hk.elim
def aloneS (k : Nat) : List U → Out SV
  | [.a l] => match asPt l with
    | some (kd, n, r) => .need (PGood k kd n r) (agg (ptW n))
    | none => .fail
  | _ => .fail
theorem alone_ok {k : Nat} : Ok G 36 (aloneS k) := by
  have hS : AllSound (B [(62, .pure (normG (B []) [35] (twNS k)))]) G := .cons _ twNum_ok noneS
  refine okP hS Tryz.func36 rfl (by decide) fun K us hk => ?_
  unfold aloneS at hk
  split at hk
  · split at hk
    · rename_i l _ kd n r hl
      rw [asPt_eq hl]
      refine ⟨by show 1 ≤ _; decide, ?_⟩
      obtain ⟨⟨rfl, rfl, hg⟩, hk⟩ := hk
      conv => whnf
      refine ⟨hg, ?_⟩
      conv => whnf
      exact hk
    · exact hk.elim
  · exact hk.elim
def fullS : List U → List Blk → Out RF
  | [.c (.p 50000 0), .c (.v (.string s))], [.cells 81 [.v (.int .i64 st), .v (.int .i64 bu), .v (.int .i64 ti), .v (.int .i64 nw), .m 50001 79], .map 79 l] =>
    wp1 ((findM s l).isNone && decide ((l.length : Int) ≥ st)) fun c => .ret (.u (.c (Bo c)), [some (.cells 81 [I64 st, I64 bu, I64 ti, I64 nw, .m 50001 79]), some (.map 79 l)], [])
  | _, _ => .fail
theorem full_ok : OkF G 38 fullS := by
  refine okF false noneS Tryz.func38 rfl (by decide) fun K us lent hk => ?_
  unfold fullS at hk
  split at hk
  · rename_i s st bu ti nw l
    refine ⟨by show 2 ≤ _; decide, ?_⟩
    have hk := hk _ rfl
    conv => whnf
    intro o ho
    rw [ho] at hk
    cases o with
    | none =>
      conv => whnf
      refine ⟨mixed, [], [], [], by kernel_rfl, ?_⟩
      conv => whnf
      exact hk
    | some row =>
      conv => whnf
      refine ⟨mixed, [], [], [], by kernel_rfl, ?_⟩
      conv => whnf
      exact hk
  · exact hk.elim
/-- a table's two blocks -/
def tbB (st bu ti nw : Int) : Blk := .cells 81 [I64 st, I64 bu, I64 ti, I64 nw, .m 50001 79]
/-- a stream: its state, when it was seen -/
def rowS (n : NumD) (seen : Int) : List D := [.int 2, n.attrs, .int n.start, .int n.time, .int n.kind, .int n.n, n.ex, .int n.flags, .str n.unk,
  .rows [], .int 0, .int 0, .int 0, .bool false, .int 0, .bool false, .int 0, .bool false, .int 0, .ints [], .ints [], .rows [], .int 0, .str nos,
  .rows [], .int 0, .int 0, .int 0, .bool false, .int 0, .bool false, .int 0, .bool false, .int 0, .int 0, .int 0, .bool false, .int 0, .ints [], .str nos, .bool false, .int 0, .ints [], .str nos, .rows [], .int 0, .int 0, .str nos, .int seen]
def laysS (k : Nat) : List U → List Blk → Out RF
  | [.c (.p 50000 0), .c (.v (.string s)), .a q], [.cells 81 [.v (.int .i64 st), .v (.int .i64 bu), .v (.int .i64 ti), .v (.int .i64 nw), .m 50001 79], .map 79 l] => match asPt q with
    | some (kd, n, r) => .need (PGood k kd n r) (.ret (.t [], [some (tbB st bu ti nw), some (.map 79 (putM s (rowS n nw) l))], []))
    | none => .fail
  | _, _ => .fail
theorem lays_ok {k : Nat} : OkF G 39 (laysS k) := by
  have hS : AllSound (B [(36, .pure (normG (B []) [46] (aloneS k)))]) G := .cons _ alone_ok noneS
  refine okF false hS Tryz.func39 rfl (by decide) fun K us lent hk => ?_
  unfold laysS at hk
  split at hk
  · split at hk
    · rename_i s _ st bu ti nw l _ kd n r hl
      rw [asPt_eq hl]
      refine ⟨by show 3 ≤ _; decide, ?_⟩
      obtain ⟨⟨rfl, rfl, hg⟩, hk⟩ := hk
      conv => whnf
      refine ⟨mixed, [], [(3, []), (5, []), (6, []), (10, [])], [200012], by kernel_rfl, ?_⟩
      conv => whnf
      refine ⟨⟨rfl, rfl, hg⟩, ?_⟩
      conv => whnf
      exact hk
    · exact hk.elim
  · exact hk.elim
/-- a sum of two points, if there is one -/
abbrev Adds := NumD → NumD → Option NumD
def numP (Pre : NumD → NumD → Prop) (ad : Adds) (k : Nat) : List U → Out SV
  | [.a la, .a lb] => match asNum la, asNum lb with
    | some a, some b => .need (Pre a b ∧ NGood k b) (.all (Option NumD) (fun o => ad a b = o) ⟨_, rfl⟩ fun o => match o with
      | some m => .ret (.t [.a m.cells, .c nilV])
      | none => .all Int (fun _ => True) ⟨9, trivial⟩ fun e => .ret (.t [.a noNum.cells, .c (errV e)]))
    | _, _ => .fail
  | _ => .fail
def addI (a b : NumD) : Option NumD := bif sumBad a.n b.n then none else some { b with start := a.start, n := x64 (w64 (w64 a.n + w64 b.n)) }
def Whole (a b : NumD) : Prop := a.kind = 2 ∧ b.kind = 2
theorem numI_ok {k : Nat} : Ok G 66 (numP Whole addI k) := by
  have hS : AllSound (B [(105, .pure (normG (B []) [35, 35] kindsS)), (62, .pure (normG (B []) [35] (twNS k)))]) G := .cons _ kinds_ok (.cons _ twNum_ok noneS)
  refine okP hS Tryz.func66 rfl (by decide) fun K us hk => ?_
  unfold numP at hk
  split at hk
  · split at hk
    · rename_i la lb _ _ a b ha hb
      rw [asNum_eq ha, asNum_eq hb]
      refine ⟨by show 2 ≤ _; decide, ?_⟩
      obtain ⟨⟨hP, hB⟩, hk⟩ := hk
      have hk := hk _ rfl
      obtain ⟨a1, a2, a3, a4, a5, a6, a7, a8⟩ := a
      obtain ⟨b1, b2, b3, b4, b5, b6, b7, b8⟩ := b
      obtain ⟨h1, h2⟩ := hP
      have h1 : a4 = 2 := h1
      have h2 : b4 = 2 := h2
      subst h1 h2
      conv => whnf
      refine ⟨hB, ?_⟩
      conv => whnf
      refine ⟨mixed, [], [], [], by kernel_rfl, ?_⟩
      conv => whnf
      refine Ask.i (fun c3 => ?_) (fun c3 => ?_)
      · have c3 : sumBad a5 b5 = true := c3
        unfold addI at hk
        simp only [c3] at hk
        conv => whnf
        exact hk 9 trivial
      · have c3 : sumBad a5 b5 = false := c3
        unfold addI at hk
        simp only [c3] at hk
        conv => whnf
        exact hk
    · exact hk.elim
  · exact hk.elim
variable {Pre : NumD → NumD → Prop} {ad : Adds}
def fitS (k : Nat) : List U → List Blk → Out RF
  | [.c (.p 50000 0), .a q], [.cells 81 [.v (.int .i64 st), .v (.int .i64 bu), .v (.int .i64 ti), .v (.int .i64 nw), .m 50001 79], .map 79 l] => match asPt q with
    | some (kd, n, r) => .need (PGood k kd n r) (.ret (.t [.a (ptW n), .c (Bo true)], [some (tbB st bu ti nw), some (.map 79 l)], []))
    | none => .fail
  | _, _ => .fail
theorem fit_ok {k : Nat} : OkF G 37 (fitS k) := by
  have hS : AllSound (B [(36, .pure (normG (B []) [46] (aloneS k)))]) G := .cons _ alone_ok noneS
  refine okF false hS Tryz.func37 rfl (by decide) fun K us lent hk => ?_
  unfold fitS at hk
  split at hk
  · split at hk
    · rename_i q st bu ti nw l _ kd n r hl
      rw [asPt_eq hl]
      refine ⟨by show 2 ≤ _; decide, ?_⟩
      obtain ⟨⟨rfl, rfl, hg⟩, hk⟩ := hk
      conv => whnf
      refine ⟨⟨rfl, rfl, hg⟩, ?_⟩
      conv => whnf
      refine ⟨mixed, [(4, [4])], [(0, []), (2, [4])], [], by kernel_rfl, ?_⟩
      conv => whnf
      exact hk
    · exact hk.elim
  · exact hk.elim
def plusS (Pre : NumD → NumD → Prop) (ad : Adds) (k : Nat) : List U → List Blk → Out RF
  | [.c (.p 50000 0), .a q1, .a q2], [.cells 81 [.v (.int .i64 st), .v (.int .i64 bu), .v (.int .i64 ti), .v (.int .i64 nw), .m 50001 79], .map 79 l] => match asPt q1, asPt q2 with
    | some (k1, a, r1), some (k2, b, r2) => .need (PGood k k1 a r1 ∧ PGood k k2 b r2 ∧ Pre a b) (.all (Option NumD) (fun o => ad a b = o) ⟨_, rfl⟩ fun o => match o with
      | some m => .ret (.t [.a (ptW m), .c (Bo true)], [some (tbB st bu ti nw), some (.map 79 l)], [])
      | none => .ret (.t [.a (ptW noNum), .c (Bo false)], [some (tbB st bu ti nw), some (.map 79 l)], []))
    | _, _ => .fail
  | _, _ => .fail
theorem plus_ok {k : Nat} (hN : Ok G 66 (numP Pre ad k)) : OkF G 40 (plusS Pre ad k) := by
  have hS : AllSound (B [(66, .pure (normG (B []) [35, 35] (numP Pre ad k)))]) G := .cons _ hN noneS
  refine okF false hS Tryz.func40 rfl (by decide) fun K us lent hk => ?_
  unfold plusS at hk
  split at hk
  · split at hk
    · rename_i q1 q2 st bu ti nw l _ _ k1 a r1 k2 b r2 h1 h2
      rw [asPt_eq h1, asPt_eq h2]
      refine ⟨by show 3 ≤ _; decide, ?_⟩
      obtain ⟨⟨⟨rfl, rfl, hg1⟩, ⟨rfl, rfl, hg2⟩, hP⟩, hk⟩ := hk
      conv => whnf
      refine ⟨⟨hP, hg2⟩, ?_⟩
      conv => whnf
      intro o ho
      have hk := hk o ho
      cases o with
      | some m =>
        conv => whnf
        refine ⟨mixed, [(3, [6])], [(0, [])], [], by kernel_rfl, ?_⟩
        conv => whnf
        exact hk
      | none =>
        conv => whnf
        intro e he
        conv => whnf
        refine ⟨mixed, [(3, [6])], [(0, [])], [], by kernel_rfl, ?_⟩
        conv => whnf
        exact hk
    · exact hk.elim
  · exact hk.elim
def badN (st bu ti : Int) : Bool := decide (st < 1) || (decide (st > 1000) || (decide (bu < 1) || (decide (bu > 320) || (decide (ti < 1) || decide (ti > 1000000)))))
def newS : List U → List Blk → Out RF
  | [.c (.v (.int .i64 st)), .c (.v (.int .i64 bu)), .c (.v (.int .i64 ti))], [] => wp1 (badN st bu ti) fun c => bif c then .ret (.t [.c (.v (.pointer none)), .c (errV 9)], [], [])
    else .ret (.t [.c (.p 60000 0), .c nilV], [], [.cells 81 [I64 st, I64 bu, I64 ti, I64 0, .m 60001 79], .map 79 []])
  | _, _ => .fail
theorem new_ok : OkF G 7 newS := by
  refine okF false noneS Tryz.func7 rfl (by decide) fun K us lent hk => ?_
  unfold newS at hk
  split at hk
  · rename_i st bu ti
    refine ⟨by show 3 ≤ _; decide, ?_⟩
    have hk := hk _ rfl
    conv => whnf
    refine Ask.i (fun c1 => ?_) (fun c1 => ?_)
    · have c1 : decide (st < 1) = true := c1
      rw [show badN st bu ti = true by simp [badN, c1]] at hk
      conv => whnf
      exact hk
    have c1 : decide (st < 1) = false := c1
    conv => whnf
    refine Ask.i (fun c2 => ?_) (fun c2 => ?_)
    · have c2 : decide (st > 1000) = true := c2
      rw [show badN st bu ti = true by simp [badN, c2]] at hk
      conv => whnf
      exact hk
    have c2 : decide (st > 1000) = false := c2
    conv => whnf
    refine Ask.i (fun c3 => ?_) (fun c3 => ?_)
    · have c3 : decide (bu < 1) = true := c3
      rw [show badN st bu ti = true by simp [badN, c3]] at hk
      conv => whnf
      exact hk
    have c3 : decide (bu < 1) = false := c3
    conv => whnf
    refine Ask.i (fun c4 => ?_) (fun c4 => ?_)
    · have c4 : decide (bu > 320) = true := c4
      rw [show badN st bu ti = true by simp [badN, c4]] at hk
      conv => whnf
      exact hk
    have c4 : decide (bu > 320) = false := c4
    conv => whnf
    refine Ask.i (fun c5 => ?_) (fun c5 => ?_)
    · have c5 : decide (ti < 1) = true := c5
      rw [show badN st bu ti = true by simp [badN, c5]] at hk
      conv => whnf
      exact hk
    have c5 : decide (ti < 1) = false := c5
    conv => whnf
    refine Ask.i (fun c6 => ?_) (fun c6 => ?_)
    · have c6 : decide (ti > 1000000) = true := c6
      rw [show badN st bu ti = true by simp [badN, c6]] at hk
      conv => whnf
      exact hk
    have c6 : decide (ti > 1000000) = false := c6
    rw [show badN st bu ti = false by rw [badN, c1, c2, c3, c4, c5, c6]; rfl] at hk
    conv => whnf
    exact hk
  · exact hk.elim
def lenTS : List U → List Blk → Out RF
  | [.c (.p 50000 0)], [.cells 81 [.v (.int .i64 st), .v (.int .i64 bu), .v (.int .i64 ti), .v (.int .i64 nw), .m 50001 79], .map 79 l] => .ret (.u (.c (I64 (l.length : Nat))), [some (tbB st bu ti nw), some (.map 79 l)], [])
  | _, _ => .fail
theorem lenT_ok : OkF G 10 lenTS := by
  refine okF false noneS Tryz.func10 rfl (by decide) fun K us lent hk => ?_
  unfold lenTS at hk
  split at hk
  · rename_i st bu ti nw l
    refine ⟨by show 1 ≤ _; decide, ?_⟩
    conv => whnf
    exact hk
  · exact hk.elim
def nameS : List U → Out SV
  | [.c (.v (.int .i64 1))] => one (St ⟨#[115, 116, 97, 114, 116, 101, 100]⟩)
  | _ => .fail
theorem name_ok : Ok G 19 nameS := by
  refine okP noneS Tryz.func19 rfl (by decide) fun K us hk => ?_
  unfold nameS at hk
  split at hk
  · refine ⟨by show 1 ≤ _; decide, ?_⟩
    conv => whnf
    refine ⟨by decide, ?_⟩
    conv => whnf
    exact hk
  · exact hk.elim
/-- the stream of a row -/
def asRow (r : List D) : NumD × Int := (⟨cellD r 1, (cellD r 2).toInt, (cellD r 3).toInt, (cellD r 4).toInt, (cellD r 5).toInt, cellD r 6, (cellD r 7).toInt, (cellD r 8).toStr⟩, (cellD r 48).toInt)
def lookN (s : ByteArray) (l : List (ByteArray × List D)) : Option (NumD × Int) := (findM s l).map asRow
/-- what lies under a key is a stream -/
def RowOk (k : Nat) (s : ByteArray) (l : List (ByteArray × List D)) : Prop := ∀ r, findM s l = some r → ∃ m i, r = rowS m i ∧ NGood k m
def upS (Pre : NumD → NumD → Prop) (ad : Adds) (k : Nat) : List U → List Blk → Out RF
  | [.c (.p 50000 0), .c (.v (.string s)), .a q], [.cells 81 [.v (.int .i64 st), .v (.int .i64 bu), .v (.int .i64 ti), .v (.int .i64 nw), .m 50001 79], .map 79 l] => match asPt q with
    | some (kd, n, r) => .need (PGood k kd n r ∧ RowOk k s l) (.all (Option (NumD × Int)) (fun o => lookN s l = o) ⟨_, rfl⟩ fun o => match o with
      | none => wp1 (decide ((l.length : Int) ≥ st)) fun c => bif c then .ret (.t [.a ptZ, .c (I64 4)], [some (tbB st bu ti nw), some (.map 79 l)], [])
        else .ret (.t [.a (ptW n), .c (I64 1)], [some (tbB st bu ti nw), some (.map 79 (putM s (rowS n nw) l))], [])
      | some (m, i) => wp1 (decide (n.start < m.time) || decide (n.time < m.time)) fun c => bif c then .ret (.t [.a ptZ, .c (I64 3)], [some (tbB st bu ti nw), some (.map 79 l)], [])
        else .need (Pre m n) (.all (Option NumD) (fun o => ad m n = o) ⟨_, rfl⟩ fun o => match o with
          | some q => .ret (.t [.a (ptW q), .c (I64 0)], [some (tbB st bu ti nw), some (.map 79 (putM s (rowS q nw) l))], [])
          | none => .ret (.t [.a (ptW n), .c (I64 2)], [some (tbB st bu ti nw), some (.map 79 (putM s (rowS n nw) l))], [])))
    | none => .fail
  | _, _ => .fail
theorem up_ok {k : Nat} (hN : Ok G 66 (numP Pre ad k)) (hA : ∀ m n q, ad m n = some q → q.attrs = n.attrs ∧ q.ex = n.ex) : OkF G 11 (upS Pre ad k) := by
  have hS : AllSound (B [(37, .full (normF (B []) [24, 46] (fitS k))), (38, .full (normF (B []) [24, 9] fullS)), (39, .full (normF (B []) [24, 9, 46] (laysS k))), (28, .pure (normG (B []) [46] startS)), (30, .pure (normG (B []) [46] timeS)), (36, .pure (normG (B []) [46] (aloneS k))), (40, .full (normF (B []) [24, 46, 46] (plusS Pre ad k)))]) G :=
    .consF _ fit_ok (.consF _ full_ok (.consF _ lays_ok (.cons _ start_ok (.cons _ time_ok (.cons _ alone_ok (.consF _ (plus_ok hN) noneS))))))
  refine okF false hS Tryz.func11 rfl (by decide) fun K us lent hk => ?_
  unfold upS at hk
  split at hk
  · split at hk
    · rename_i s q st bu ti nw l _ kd n r hl
      rw [asPt_eq hl]
      refine ⟨by show 3 ≤ _; decide, ?_⟩
      obtain ⟨⟨⟨rfl, rfl, hg⟩, hrow⟩, hk⟩ := hk
      have hk := hk _ rfl
      conv => whnf
      refine ⟨⟨rfl, rfl, hg⟩, ?_⟩
      conv => whnf
      intro o ho
      cases o with
      | none =>
        rw [show lookN s l = none by rw [lookN, ho]; rfl] at hk
        have hk := hk _ rfl
        conv => whnf
        intro c hc
        rw [ho] at hc
        cases c with
        | true =>
          rw [show decide ((l.length : Int) ≥ st) = true from hc] at hk
          conv => whnf
          exact hk
        | false =>
          rw [show decide ((l.length : Int) ≥ st) = false from hc] at hk
          conv => whnf
          refine ⟨⟨rfl, rfl, hg⟩, ?_⟩
          conv => whnf
          exact hk
      | some row =>
        obtain ⟨m, i, rfl, hm⟩ := hrow _ ho
        rw [show lookN s l = some (m, i) by rw [lookN, ho]; rfl] at hk
        have hk := hk _ rfl
        conv => whnf
        intro c hc
        rw [ho] at hc
        obtain rfl : false = c := hc
        conv => whnf
        refine ⟨mixed, [], [(0, []), (1, []), (3, []), (4, []), (7, []), (8, []), (10, []), (11, [])], [], by kernel_rfl, ?_⟩
        conv => whnf
        refine ⟨⟨rfl, rfl⟩, ?_⟩
        conv => whnf
        refine ⟨⟨rfl, rfl⟩, ?_⟩
        conv => whnf
        refine Ask.i (fun c1 => ?_) (fun c1 => ?_)
        · have c1 : decide (n.start < m.time) = true := c1
          rw [c1] at hk
          conv => whnf
          exact hk
        have c1 : decide (n.start < m.time) = false := c1
        rw [c1] at hk
        conv => whnf
        refine ⟨⟨rfl, rfl⟩, ?_⟩
        conv => whnf
        refine ⟨⟨rfl, rfl⟩, ?_⟩
        conv => whnf
        refine Ask.i (fun c2 => ?_) (fun c2 => ?_)
        · have c2 : decide (n.time < m.time) = true := c2
          rw [c2] at hk
          conv => whnf
          exact hk
        have c2 : decide (n.time < m.time) = false := c2
        rw [c2] at hk
        obtain ⟨hP, hk⟩ := hk
        conv => whnf
        refine ⟨mixed, [(5, [50000, 50001]), (10, [12])], [(2, []), (3, []), (4, []), (5, [50000, 50001])], [], by kernel_rfl, ?_⟩
        conv => whnf
        refine ⟨⟨rfl, rfl, hg⟩, ?_⟩
        conv => whnf
        refine ⟨⟨⟨rfl, rfl, hm⟩, ⟨rfl, rfl, hg⟩, hP⟩, ?_⟩
        conv => whnf
        intro o2 ho2
        have hk := hk o2 ho2
        cases o2 with
        | some q2 =>
          have hq : NGood k q2 := by
            obtain ⟨e1, e2⟩ := hA _ _ _ ho2
            unfold NGood
            rw [e1, e2]
            exact hg
          conv => whnf
          refine ⟨⟨rfl, rfl, hq⟩, ?_⟩
          conv => whnf
          exact hk
        | none =>
          conv => whnf
          refine ⟨⟨rfl, rfl, hg⟩, ?_⟩
          conv => whnf
          exact hk
    · exact hk.elim
  · exact hk.elim
theorem good0 {n : NumD} (h1 : n.attrs = .rows []) (h2 : n.ex = .rows []) : NGood 1 n := by
  unfold NGood
  rw [h1, h2]
  exact ⟨.rows rfl (by decide) (by simp) (by simp), .rows (by decide) (by simp), .rows rfl (by decide) (by simp) (by simp), .rows (by decide) (by simp)⟩
theorem addI_same (m n q : NumD) (h : addI m n = some q) : q.attrs = n.attrs ∧ q.ex = n.ex := by
  unfold addI at h
  cases hb : sumBad m.n n.n with
  | true => rw [hb] at h; cases h
  | false => rw [hb] at h; obtain rfl := Option.some.inj h; exact ⟨rfl, rfl⟩
def firstS : List U → Out SV
  | [] => one (Bo true)
  | _ => .fail
theorem first_ok : Ok G1 6 firstS := by
  have hS : AllSound (B [(7, .full (normF (B []) [3, 3, 3] newS)), (11, .full (normF (B []) [24, 9, 46] (upS Whole addI 1))), (10, .full (normF (B []) [24] lenTS)), (17, .pure (normG (B []) [26] codeS)), (19, .pure (normG (B []) [3] nameS))]) G1 :=
    .consF _ new_ok (.consF _ (up_ok numI_ok addI_same) (.consF _ lenT_ok (.cons _ code_ok (.cons _ name_ok noneS))))
  refine okP hS Tryz.func6 rfl (by decide) fun K us hk => ?_
  unfold firstS at hk
  split at hk
  · refine ⟨by show 0 ≤ _; decide, ?_⟩
    conv => whnf
    intro c hc
    obtain rfl : false = c := hc
    conv => whnf
    refine ⟨⟨⟨rfl, rfl, good0 rfl rfl⟩, fun r h => by cases h⟩, ?_⟩
    conv => whnf
    intro o ho
    obtain rfl : none = o := ho
    conv => whnf
    intro c hc
    obtain rfl : false = c := hc
    conv => whnf
    refine ⟨⟨⟨rfl, rfl, good0 rfl rfl⟩, fun r h => by cases h⟩, ?_⟩
    conv => whnf
    intro o ho
    obtain rfl : none = o := ho
    conv => whnf
    intro c hc
    obtain rfl : true = c := hc
    conv => whnf
    intro c hc
    obtain rfl : true = c := hc
    conv => whnf
    exact fin hk (by simp)
  · exact hk.elim
end Sx.Nu
