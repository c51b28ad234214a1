/- Part of the proof: a machine of states for walks, and contracts of functions over it. Conditions: those that each theorem names. -/
import Derived.Test.YtcjdbimojffggaaGreatDoorCon3
set_option linter.unusedVariables false
set_option linter.unusedSimpArgs false
/-! Contracts: doubles compared. -/
namespace Sx
open Go Go.Proofs
set_option linter.unusedVariables false
set_option maxRecDepth 30000
variable {G : Glob}
theorem x64_r (n : Int) : 0 ≤ x64 n ∧ x64 n < 18446744073709551616 := by
  show 0 ≤ IntKind.u64.wrap n ∧ IntKind.u64.wrap n < 18446744073709551616
  rw [IntKind.wrap_u64]; omega
theorem x64_eq {n : Int} (h : 0 ≤ n ∧ n < 18446744073709551616) : x64 n = n := by
  show IntKind.u64.wrap n = n
  rw [IntKind.wrap_u64]; omega
theorem w32_eq {n : Int} (h : -2147483648 ≤ n ∧ n < 2147483648) : w32 n = n := by
  show IntKind.i32.wrap n = n
  rw [IntKind.wrap_i32]; omega
def anU (a b : Int) : Int := x64 (((BitVec.ofInt 64 a &&& ~~~ BitVec.ofInt 64 b).toNat : Nat) : Int)
def andU (a b : Int) : Int := x64 (((BitVec.ofInt 64 a &&& BitVec.ofInt 64 b).toNat : Nat) : Int)
def orU (a b : Int) : Int := x64 (((BitVec.ofInt 64 a ||| BitVec.ofInt 64 b).toNat : Nat) : Int)
def xorU (a b : Int) : Int := x64 (((BitVec.ofInt 64 a ^^^ BitVec.ofInt 64 b).toNat : Nat) : Int)
def szV (x : Int) : Int := anU x 9223372036854775808
def nanV (x : Int) : Bool := decide (szV x > 9218868437227405312)
def rankV (x : Int) : Int := bif decide (andU x 9223372036854775808 > 0) then xorU 18446744073709551615 x else orU x 9223372036854775808
def cmpV (a b : Int) : Int := bif decide (a < b) then -1 else bif decide (a > b) then 1 else 0
def eqV (a b : Int) : Bool := !(nanV a) && (!(nanV b) && (a == b || szV (orU a b) == 0))
def lessV (a b : Int) : Bool := !(nanV a) && (!(nanV b) && (!(eqV a b) && decide (cmpV (rankV a) (rankV b) < 0)))
def otherV (a b : Int) : Bool := nanV a && !(nanV b)
def minV (a b : Int) : Int := bif lessV b a || otherV a b then b else a
def maxV (a b : Int) : Int := bif lessV a b || otherV a b then b else a
def szS : List U → Out SV
  | [.c (.v (.int .u64 x))] => one (U64 (szV x))
  | _ => .fail
theorem sz_ok : Ok G 172 szS := by
  refine okP noneS Tryz.func172 rfl (by decide) fun K us hk => ?_
  unfold szS at hk
  split at hk
  · refine ⟨by show 1 ≤ _; decide, ?_⟩
    conv => whnf
    exact hk
  · exact hk.elim
def nanS : List U → Out SV
  | [.c (.v (.int .u64 x))] => one (Bo (nanV x))
  | _ => .fail
theorem nan_ok : Ok G 167 nanS := by
  have hS : AllSound (B [(172, .pure (normG (B []) [31] szS))]) G := .cons _ sz_ok noneS
  refine okP hS Tryz.func167 rfl (by decide) fun K us hk => ?_
  unfold nanS at hk
  split at hk
  · refine ⟨by show 1 ≤ _; decide, ?_⟩
    conv => whnf
    exact hk
  · exact hk.elim
def rankS : List U → Out SV
  | [.c (.v (.int .u64 x))] => one (U64 (rankV x))
  | _ => .fail
theorem rank_ok : Ok G 185 rankS := by
  refine okP noneS Tryz.func185 rfl (by decide) fun K us hk => ?_
  unfold rankS at hk
  split at hk
  · rename_i x
    refine ⟨by show 1 ≤ _; decide, ?_⟩
    conv => whnf
    refine Ask.i (fun c => ?_) (fun c => ?_)
    · have c : decide (andU x 9223372036854775808 > 0) = true := c
      conv => whnf
      refine fin hk ?_
      unfold rankV; rw [c]; rfl
    · have c : decide (andU x 9223372036854775808 > 0) = false := c
      conv => whnf
      refine fin hk ?_
      unfold rankV; rw [c]; rfl
  · exact hk.elim
def inanS : List U → Out SV
  | [.c (.v (.int .u64 x))] => one (Bo false)
  | _ => .fail
theorem inan_ok : Ok G 188 inanS := by
  refine okP noneS Tryz.func188 rfl (by decide) fun K us hk => ?_
  unfold inanS at hk
  split at hk
  · rename_i x
    refine ⟨by show 1 ≤ _; decide, ?_⟩
    conv => whnf
    refine fin hk ?_
    have e : (x != x) = false := by simp [bne]
    exact congrArg (fun b : Bool => SV.u (.c (Bo b))) e.symm
  · exact hk.elim
def cmpS : List U → Out SV
  | [.c (.v (.int .u64 a)), .c (.v (.int .u64 b))] => one (I64 (cmpV a b))
  | _ => .fail
theorem cmp_ok : Ok G 184 cmpS := by
  have hS : AllSound (B [(188, .pure (normG (B []) [31] inanS))]) G := .cons _ inan_ok noneS
  refine okP hS Tryz.func184 rfl (by decide) fun K us hk => ?_
  unfold cmpS at hk
  split at hk
  · rename_i a b
    refine ⟨by show 2 ≤ _; decide, ?_⟩
    conv => whnf
    refine Ask.i (fun c => ?_) (fun c => ?_)
    · have c : decide (a < b) = true := c
      conv => whnf
      refine fin hk ?_
      unfold cmpV; rw [c]; rfl
    · have c : decide (a < b) = false := c
      conv => whnf
      refine Ask.i (fun d => ?_) (fun d => ?_)
      · have d : decide (a > b) = true := d
        conv => whnf
        refine fin hk ?_
        unfold cmpV; rw [c, d]; rfl
      · have d : decide (a > b) = false := d
        conv => whnf
        refine fin hk ?_
        unfold cmpV; rw [c, d]; rfl
  · exact hk.elim
def ordS : List U → Out SV
  | [.c (.v (.int .u64 a)), .c (.v (.int .u64 b))] => one (I64 (cmpV (rankV a) (rankV b)))
  | _ => .fail
theorem ord_ok : Ok G 169 ordS := by
  have hS : AllSound (B [(185, .pure (normG (B []) [31] rankS)), (184, .pure (normG (B []) [31, 31] cmpS))]) G := .cons _ rank_ok (.cons _ cmp_ok noneS)
  refine okP hS Tryz.func169 rfl (by decide) fun K us hk => ?_
  unfold ordS at hk
  split at hk
  · refine ⟨by show 2 ≤ _; decide, ?_⟩
    conv => whnf
    exact hk
  · exact hk.elim
def eqS : List U → Out SV
  | [.c (.v (.int .u64 a)), .c (.v (.int .u64 b))] => one (Bo (eqV a b))
  | _ => .fail
theorem eq_ok : Ok G 168 eqS := by
  have hS : AllSound (B [(167, .pure (normG (B []) [31] nanS)), (172, .pure (normG (B []) [31] szS))]) G := .cons _ nan_ok (.cons _ sz_ok noneS)
  refine okP hS Tryz.func168 rfl (by decide) fun K us hk => ?_
  unfold eqS at hk
  split at hk
  · rename_i a b
    refine ⟨by show 2 ≤ _; decide, ?_⟩
    conv => whnf
    refine Ask.i (fun c1 => ?_) (fun c1 => ?_)
    · have c1 : (!(nanV a)) = true := c1
      conv => whnf
      refine Ask.i (fun c2 => ?_) (fun c2 => ?_)
      · have c2 : (!(nanV b)) = true := c2
        conv => whnf
        refine Ask.i (fun c3 => ?_) (fun c3 => ?_)
        · have c3 : (a == b) = true := c3
          conv => whnf
          exact fin hk (congrArg (fun z : Bool => SV.u (.c (Bo z))) (by unfold eqV; rw [c1, c2, c3]; rfl))
        · have c3 : (a == b) = false := c3
          conv => whnf
          exact fin hk (congrArg (fun z : Bool => SV.u (.c (Bo z))) (by unfold eqV; rw [c1, c2, c3]; rfl))
      · have c2 : (!(nanV b)) = false := c2
        conv => whnf
        exact fin hk (congrArg (fun z : Bool => SV.u (.c (Bo z))) (by unfold eqV; rw [c1, c2]; rfl))
    · have c1 : (!(nanV a)) = false := c1
      conv => whnf
      exact fin hk (congrArg (fun z : Bool => SV.u (.c (Bo z))) (by unfold eqV; rw [c1]; rfl))
  · exact hk.elim
def lessFS : List U → Out SV
  | [.c (.v (.int .u64 a)), .c (.v (.int .u64 b))] => one (Bo (lessV a b))
  | _ => .fail
theorem lessF_ok : Ok G 129 lessFS := by
  have hS : AllSound (B [(167, .pure (normG (B []) [31] nanS)), (168, .pure (normG (B []) [31, 31] eqS)), (169, .pure (normG (B []) [31, 31] ordS))]) G := .cons _ nan_ok (.cons _ eq_ok (.cons _ ord_ok noneS))
  refine okP hS Tryz.func129 rfl (by decide) fun K us hk => ?_
  unfold lessFS at hk
  split at hk
  · rename_i a b
    refine ⟨by show 2 ≤ _; decide, ?_⟩
    conv => whnf
    refine Ask.i (fun c1 => ?_) (fun c1 => ?_)
    · have c1 : (!(nanV a)) = true := c1
      conv => whnf
      refine Ask.i (fun c2 => ?_) (fun c2 => ?_)
      · have c2 : (!(nanV b)) = true := c2
        conv => whnf
        refine Ask.i (fun c3 => ?_) (fun c3 => ?_)
        · have c3 : (!(eqV a b)) = true := c3
          conv => whnf
          exact fin hk (congrArg (fun z : Bool => SV.u (.c (Bo z))) (by unfold lessV; rw [c1, c2, c3]; rfl))
        · have c3 : (!(eqV a b)) = false := c3
          conv => whnf
          exact fin hk (congrArg (fun z : Bool => SV.u (.c (Bo z))) (by unfold lessV; rw [c1, c2, c3]; rfl))
      · have c2 : (!(nanV b)) = false := c2
        conv => whnf
        exact fin hk (congrArg (fun z : Bool => SV.u (.c (Bo z))) (by unfold lessV; rw [c1, c2]; rfl))
    · have c1 : (!(nanV a)) = false := c1
      conv => whnf
      exact fin hk (congrArg (fun z : Bool => SV.u (.c (Bo z))) (by unfold lessV; rw [c1]; rfl))
  · exact hk.elim
def otherS : List U → Out SV
  | [.c (.v (.int .u64 a)), .c (.v (.int .u64 b))] => one (Bo (otherV a b))
  | _ => .fail
theorem other_ok : Ok G 147 otherS := by
  have hS : AllSound (B [(167, .pure (normG (B []) [31] nanS))]) G := .cons _ nan_ok noneS
  refine okP hS Tryz.func147 rfl (by decide) fun K us hk => ?_
  unfold otherS at hk
  split at hk
  · rename_i a b
    refine ⟨by show 2 ≤ _; decide, ?_⟩
    conv => whnf
    refine Ask.i (fun c1 => ?_) (fun c1 => ?_)
    · have c1 : nanV a = true := c1
      conv => whnf
      exact fin hk (congrArg (fun z : Bool => SV.u (.c (Bo z))) (by unfold otherV; rw [c1]; rfl))
    · have c1 : nanV a = false := c1
      conv => whnf
      exact fin hk (congrArg (fun z : Bool => SV.u (.c (Bo z))) (by unfold otherV; rw [c1]; rfl))
  · exact hk.elim
def minS : List U → Out SV
  | [.c (.v (.int .u64 a)), .c (.v (.int .u64 b))] => one (U64 (minV a b))
  | _ => .fail
def maxS : List U → Out SV
  | [.c (.v (.int .u64 a)), .c (.v (.int .u64 b))] => one (U64 (maxV a b))
  | _ => .fail
theorem minF_ok : Ok G 110 minS := by
  have hS : AllSound (B [(129, .pure (normG (B []) [31, 31] lessFS)), (147, .pure (normG (B []) [31, 31] otherS))]) G := .cons _ lessF_ok (.cons _ other_ok noneS)
  refine okP hS Tryz.func110 rfl (by decide) fun K us hk => ?_
  unfold minS at hk
  split at hk
  · rename_i a b
    refine ⟨by show 2 ≤ _; decide, ?_⟩
    conv => whnf
    refine Ask.i (fun c1 => ?_) (fun c1 => ?_)
    · have c1 : lessV b a = true := c1
      conv => whnf
      exact fin hk (congrArg (fun z : Int => SV.u (.c (U64 z))) (by unfold minV; rw [c1]; rfl))
    · have c1 : lessV b a = false := c1
      conv => whnf
      refine Ask.i (fun c2 => ?_) (fun c2 => ?_)
      · have c2 : otherV a b = true := c2
        conv => whnf
        exact fin hk (congrArg (fun z : Int => SV.u (.c (U64 z))) (by unfold minV; rw [c1, c2]; rfl))
      · have c2 : otherV a b = false := c2
        conv => whnf
        exact fin hk (congrArg (fun z : Int => SV.u (.c (U64 z))) (by unfold minV; rw [c1, c2]; rfl))
  · exact hk.elim
theorem maxF_ok : Ok G 111 maxS := by
  have hS : AllSound (B [(129, .pure (normG (B []) [31, 31] lessFS)), (147, .pure (normG (B []) [31, 31] otherS))]) G := .cons _ lessF_ok (.cons _ other_ok noneS)
  refine okP hS Tryz.func111 rfl (by decide) fun K us hk => ?_
  unfold maxS at hk
  split at hk
  · rename_i a b
    refine ⟨by show 2 ≤ _; decide, ?_⟩
    conv => whnf
    refine Ask.i (fun c1 => ?_) (fun c1 => ?_)
    · have c1 : lessV a b = true := c1
      conv => whnf
      exact fin hk (congrArg (fun z : Int => SV.u (.c (U64 z))) (by unfold maxV; rw [c1]; rfl))
    · have c1 : lessV a b = false := c1
      conv => whnf
      refine Ask.i (fun c2 => ?_) (fun c2 => ?_)
      · have c2 : otherV a b = true := c2
        conv => whnf
        exact fin hk (congrArg (fun z : Int => SV.u (.c (U64 z))) (by unfold maxV; rw [c1, c2]; rfl))
      · have c2 : otherV a b = false := c2
        conv => whnf
        exact fin hk (congrArg (fun z : Int => SV.u (.c (U64 z))) (by unfold maxV; rw [c1, c2]; rfl))
  · exact hk.elim
end Sx
/-! Contracts: doubles added: some double comes of it. -/
namespace Sx
open Go Go.Proofs
set_option linter.unusedVariables false
set_option maxRecDepth 30000
variable {G : Glob}
def classV (x : Int) : Int := bif decide (szV x > 9218868437227405312) then 4 else bif szV x == 9218868437227405312 then 3 else bif decide (szV x ≥ 4503599627370496) then 2 else bif decide (szV x > 0) then 1 else 0
def classS : List U → Out SV
  | [.c (.v (.int .u64 x))] => one (I64 (classV x))
  | _ => .fail
theorem class_ok : Ok G 143 classS := by
  have hS : AllSound (B [(172, .pure (normG (B []) [31] szS))]) G := .cons _ sz_ok noneS
  refine okP hS Tryz.func143 rfl (by decide) fun K us hk => ?_
  unfold classS at hk
  split at hk
  · rename_i x
    refine ⟨by show 1 ≤ _; decide, ?_⟩
    conv => whnf
    refine Ask.i (fun c1 => ?_) (fun c1 => ?_)
    · have c1 : decide (szV x > 9218868437227405312) = true := c1
      conv => whnf
      exact fin hk (congrArg (fun z : Int => SV.u (.c (I64 z))) (by unfold classV; rw [c1]; rfl))
    · have c1 : decide (szV x > 9218868437227405312) = false := c1
      conv => whnf
      refine Ask.i (fun c2 => ?_) (fun c2 => ?_)
      · have c2 : (szV x == 9218868437227405312) = true := c2
        conv => whnf
        exact fin hk (congrArg (fun z : Int => SV.u (.c (I64 z))) (by unfold classV; rw [c1, c2]; rfl))
      · have c2 : (szV x == 9218868437227405312) = false := c2
        conv => whnf
        refine Ask.i (fun c3 => ?_) (fun c3 => ?_)
        · have c3 : decide (szV x ≥ 4503599627370496) = true := c3
          conv => whnf
          exact fin hk (congrArg (fun z : Int => SV.u (.c (I64 z))) (by unfold classV; rw [c1, c2, c3]; rfl))
        · have c3 : decide (szV x ≥ 4503599627370496) = false := c3
          conv => whnf
          refine Ask.i (fun c4 => ?_) (fun c4 => ?_)
          · have c4 : decide (szV x > 0) = true := c4
            conv => whnf
            exact fin hk (congrArg (fun z : Int => SV.u (.c (I64 z))) (by unfold classV; rw [c1, c2, c3, c4]; rfl))
          · have c4 : decide (szV x > 0) = false := c4
            conv => whnf
            exact fin hk (congrArg (fun z : Int => SV.u (.c (I64 z))) (by unfold classV; rw [c1, c2, c3, c4]; rfl))
  · exact hk.elim
/-- some double -/
def anyU : Out SV := .all Int (fun _ => True) ⟨0, trivial⟩ fun n => one (U64 n)
def anyP (P : Int → Prop) (h : ∃ p : Int × Int, P p.1) : Out SV := .all (Int × Int) (fun p => P p.1) h fun p => agg [I64 p.1, U64 p.2]
def R63 (n : Int) : Prop := -9223372036854775808 ≤ n ∧ n < 9223372036854775808
theorem w64_r (n : Int) : R63 (w64 n) := by
  show -9223372036854775808 ≤ IntKind.i64.wrap n ∧ IntKind.i64.wrap n < 9223372036854775808
  rw [IntKind.wrap_i64]; omega
def quietS : List U → Out SV
  | [.c (.v (.int .u64 x))] => anyU
  | _ => .fail
theorem quiet_ok : Ok G 144 quietS := by
  refine okP noneS Tryz.func144 rfl (by decide) fun K us hk => ?_
  unfold quietS at hk
  split at hk
  · refine ⟨by show 1 ≤ _; decide, ?_⟩
    conv => whnf
    exact hk _ trivial
  · exact hk.elim
def exV (s : Int) : Int := if s.fdiv 4503599627370496 > 1 then s.fdiv 4503599627370496 else 1
def partedS : List U → Out SV
  | [.c (.v (.int .u64 x))] => anyP (fun e => e = exV (szV x)) ⟨(_, 0), rfl⟩
  | _ => .fail
theorem parted_ok : Ok G 173 partedS := by
  refine okP noneS Tryz.func173 rfl (by decide) fun K us hk => ?_
  unfold partedS at hk
  split at hk
  · rename_i x
    refine ⟨by show 1 ≤ _; decide, ?_⟩
    have hs := x64_r (((BitVec.ofInt 64 x &&& ~~~ BitVec.ofInt 64 9223372036854775808).toNat : Nat) : Int)
    change 0 ≤ szV x ∧ szV x < 18446744073709551616 at hs
    have he : w64 ((szV x).fdiv (2 ^ 52)) = (szV x).fdiv (2 ^ 52) := by
      have : (szV x).fdiv (2 ^ 52) = szV x / 4503599627370496 := Int.fdiv_eq_ediv_of_nonneg _ (by decide)
      rw [this]
      exact w64_eq (by omega)
    have key : ∀ b : Int, K (.u (.a [I64 (if w64 ((szV x).fdiv (2 ^ 52)) < 1 then 1 else w64 ((szV x).fdiv (2 ^ 52))), U64 b])) := fun b => by
      refine hk (_, b) ?_
      show (if w64 ((szV x).fdiv (2 ^ 52)) < 1 then 1 else w64 ((szV x).fdiv (2 ^ 52))) = exV (szV x)
      rw [he, show (szV x).fdiv (2 ^ 52) = (szV x).fdiv 4503599627370496 from rfl]
      unfold exV
      split <;> split <;> omega
    conv => whnf
    refine ⟨by decide, ?_⟩
    conv => whnf
    refine Ask.i (fun c1 => ?_) (fun c1 => ?_)
    · conv => whnf
      refine ⟨by decide, ?_⟩
      conv => whnf
      exact key _
    · conv => whnf
      refine ⟨by decide, ?_⟩
      conv => whnf
      exact key _
  · exact hk.elim
def lowerS : List U → Out SV
  | [.a [.v (.int .i64 e), .v (.int .u64 b)], .c (.v (.int .i64 n))] => .need (0 ≤ n) (anyP R63 ⟨(0, 0), by unfold R63; decide⟩)
  | _ => .fail
theorem lower_ok : Ok G 174 lowerS := by
  refine okP noneS Tryz.func174 rfl (by decide) fun K us hk => ?_
  unfold lowerS at hk
  split at hk
  · rename_i e b n
    refine ⟨by show 2 ≤ _; decide, ?_⟩
    obtain ⟨hn, hk⟩ := hk
    conv => whnf
    have rest : ∀ m : Int, 0 ≤ m → ∀ x y : Int, 0 ≤ m := fun m h _ _ => h
    refine Ask.i (fun c1 => ?_) (fun c1 => ?_)
    · conv => whnf
      refine ⟨mixed, [], [], [], by kernel_rfl, ?_⟩
      conv => whnf
      refine ⟨by decide, ?_⟩
      conv => whnf
      refine ⟨by decide, ?_⟩
      conv => whnf
      refine Ask.i (fun c2 => ?_) (fun c2 => ?_)
      · conv => whnf
        exact hk (_, _) (w64_r _)
      · conv => whnf
        exact hk (_, _) (w64_r _)
    · conv => whnf
      refine ⟨mixed, [], [], [], by kernel_rfl, ?_⟩
      conv => whnf
      refine ⟨hn, ?_⟩
      conv => whnf
      refine ⟨hn, ?_⟩
      conv => whnf
      refine Ask.i (fun c2 => ?_) (fun c2 => ?_)
      · conv => whnf
        exact hk (_, _) (w64_r _)
      · conv => whnf
        exact hk (_, _) (w64_r _)
  · exact hk.elim
def raiseS : List U → Out SV
  | [.a [.v (.int .i64 e), .v (.int .u64 b)]] => .need (R63 e) (anyP R63 ⟨(0, 0), by unfold R63; decide⟩)
  | _ => .fail
theorem raise_ok : Ok G 176 raiseS := by
  refine okP noneS Tryz.func176 rfl (by decide) fun K us hk => ?_
  unfold raiseS at hk
  split at hk
  · rename_i e b
    refine ⟨by show 1 ≤ _; decide, ?_⟩
    obtain ⟨he, hk⟩ := hk
    conv => whnf
    refine ⟨[], _, _, rfl, Int × Int, (fun y => ([(1, .u (.c (.p 1 0))), (2, .u (.c (.p 2 0)))], [(1, .cells 254 [I64 y.1, U64 y.2]), (2, .cells 254 [I64 0, U64 0])])),
      (fun y => R63 y.1), (fun y => y.1.toNat), fun x _ => rfl, ⟨(e, b), he, ⟨rfl, rfl, trivial⟩, ⟨rfl, rfl, trivial⟩⟩, ?_⟩
    rintro ⟨e, b⟩ he
    conv => whnf
    refine Ask.i (fun c1 => ?_) (fun c1 => ?_)
    · conv => whnf
      refine Ask.i (fun c2 => ?_) (fun c2 => ?_)
      · have c2 : e > 1 := of_decide_eq_true c2
        have he : R63 e := he
        unfold R63 at he
        have hw : w64 (e - 1) = e - 1 := w64_eq (by omega)
        conv => whnf
        refine ⟨by decide, ?_⟩
        conv => whnf
        exact ⟨(w64 (e - 1), _), w64_r _, by show (w64 (e - 1)).toNat < e.toNat; rw [hw]; omega, ⟨rfl, rfl, trivial⟩, ⟨rfl, rfl, trivial⟩⟩
      · conv => whnf
        exact hk (_, _) he
    · conv => whnf
      exact hk (_, _) he
  · exact hk.elim
def roundS : List U → Out SV
  | [.a [.v (.int .i64 e), .v (.int .u64 b)]] => anyU
  | _ => .fail
theorem round_ok : Ok G 175 roundS := by
  refine okP noneS Tryz.func175 rfl (by decide) fun K us hk => ?_
  unfold roundS at hk
  split at hk
  · rename_i e b
    refine ⟨by show 1 ≤ _; decide, ?_⟩
    conv => whnf
    refine ⟨by decide, ?_⟩
    conv => whnf
    refine ⟨by decide, ?_⟩
    conv => whnf
    refine Ask.i (fun c1 => ?_) (fun c1 => ?_)
    · conv => whnf
      exact hk _ trivial
    · conv => whnf
      refine Ask.i (fun c2 => ?_) (fun c2 => ?_)
      · conv => whnf
        refine Ask.i (fun c3 => ?_) (fun c3 => ?_)
        · conv => whnf
          exact hk _ trivial
        · conv => whnf
          exact hk _ trivial
      · conv => whnf
        exact hk _ trivial
  · exact hk.elim
def addFS : List U → Out SV
  | [.c (.v (.int .u64 a)), .c (.v (.int .u64 b))] => anyU
  | _ => .fail
theorem exV_mono {s t : Int} (h0 : 0 ≤ s) (h : s ≤ t) (ht : t < 18446744073709551616) : 1 ≤ exV s ∧ exV s ≤ exV t ∧ exV t ≤ 4096 := by
  have e1 : s.fdiv 4503599627370496 = s / 4503599627370496 := Int.fdiv_eq_ediv_of_nonneg _ (by decide)
  have e2 : t.fdiv 4503599627370496 = t / 4503599627370496 := Int.fdiv_eq_ediv_of_nonneg _ (by decide)
  unfold exV
  rw [e1, e2]
  split <;> split <;> omega
theorem sz_r (x : Int) : 0 ≤ szV x ∧ szV x < 18446744073709551616 := x64_r _
theorem finite_ok : Ok G 145 addFS := by
  have hS : AllSound (B [(173, .pure (normG (B []) [31] partedS)), (174, .pure (normG (B []) [254, 3] lowerS)), (175, .pure (normG (B []) [254] roundS)), (176, .pure (normG (B []) [254] raiseS))]) G := .cons _ parted_ok (.cons _ lower_ok (.cons _ round_ok (.cons _ raise_ok noneS)))
  refine okP hS Tryz.func145 rfl (by decide) fun K us hk => ?_
  unfold addFS at hk
  split at hk
  · rename_i a b
    refine ⟨by show 2 ≤ _; decide, ?_⟩
    conv => whnf
    have ra := sz_r a
    have rb := sz_r b
    refine Ask.i (fun c1 => ?_) (fun c1 => ?_)
    · have c1 : szV a < szV b := of_decide_eq_true c1
      have mo := exV_mono (s := szV a) (t := szV b) ra.1 (by omega) rb.2
      conv => whnf
      rintro ⟨e, m⟩ he
      have he : e = exV (szV b) := he
      conv => whnf
      rintro ⟨f, n⟩ hf
      have hf : f = exV (szV a) := hf
      conv => whnf
      refine ⟨by show 0 ≤ w64 (e - f); rw [w64_eq (by omega)]; omega, ?_⟩
      conv => whnf
      rintro ⟨g, o⟩ hg
      conv => whnf
      refine Ask.i (fun c2 => ?_) (fun c2 => ?_)
      · conv => whnf
        refine Ask.i (fun c3 => ?_) (fun c3 => ?_)
        · conv => whnf
          refine ⟨by decide, ?_⟩
          conv => whnf
          rintro ⟨g, o⟩ hg
          conv => whnf
          intro z hz
          conv => whnf
          exact hk _ trivial
        · conv => whnf
          intro z hz
          conv => whnf
          exact hk _ trivial
      · conv => whnf
        refine Ask.i (fun c3 => ?_) (fun c3 => ?_)
        · conv => whnf
          exact hk _ trivial
        · conv => whnf
          refine ⟨by show R63 e; unfold R63; omega, ?_⟩
          conv => whnf
          rintro ⟨g, o⟩ hg
          conv => whnf
          intro z hz
          conv => whnf
          exact hk _ trivial
    · have c1 : ¬ szV a < szV b := of_decide_eq_false c1
      have mo := exV_mono (s := szV b) (t := szV a) rb.1 (by omega) ra.2
      conv => whnf
      rintro ⟨e, m⟩ he
      have he : e = exV (szV a) := he
      conv => whnf
      rintro ⟨f, n⟩ hf
      have hf : f = exV (szV b) := hf
      conv => whnf
      refine ⟨by show 0 ≤ w64 (e - f); rw [w64_eq (by omega)]; omega, ?_⟩
      conv => whnf
      rintro ⟨g, o⟩ hg
      conv => whnf
      refine Ask.i (fun c2 => ?_) (fun c2 => ?_)
      · conv => whnf
        refine Ask.i (fun c3 => ?_) (fun c3 => ?_)
        · conv => whnf
          refine ⟨by decide, ?_⟩
          conv => whnf
          rintro ⟨g, o⟩ hg
          conv => whnf
          intro z hz
          conv => whnf
          exact hk _ trivial
        · conv => whnf
          intro z hz
          conv => whnf
          exact hk _ trivial
      · conv => whnf
        refine Ask.i (fun c3 => ?_) (fun c3 => ?_)
        · conv => whnf
          exact hk _ trivial
        · conv => whnf
          refine ⟨by show R63 e; unfold R63; omega, ?_⟩
          conv => whnf
          rintro ⟨g, o⟩ hg
          conv => whnf
          intro z hz
          conv => whnf
          exact hk _ trivial
  · exact hk.elim
theorem addF_ok : Ok G 106 addFS := by
  have hS : AllSound (B [(143, .pure (normG (B []) [31] classS)), (144, .pure (normG (B []) [31] quietS)), (145, .pure (normG (B []) [31, 31] addFS))]) G := .cons _ class_ok (.cons _ quiet_ok (.cons _ finite_ok noneS))
  refine okP hS Tryz.func106 rfl (by decide) fun K us hk => ?_
  unfold addFS at hk
  split at hk
  · rename_i a b
    refine ⟨by show 2 ≤ _; decide, ?_⟩
    conv => whnf
    repeat' first
      | exact hk _ trivial
      | (refine Ask.i (fun _ => ?_) (fun _ => ?_) <;> conv => whnf)
      | (intro z hz; conv => whnf)
  · exact hk.elim
def negFS : List U → Out SV
  | [.c (.v (.int .u64 a))] => anyU
  | _ => .fail
theorem negF_ok : Ok G 166 negFS := by
  refine okP noneS Tryz.func166 rfl (by decide) fun K us hk => ?_
  unfold negFS at hk
  split at hk
  · refine ⟨by show 1 ≤ _; decide, ?_⟩
    conv => whnf
    exact hk _ trivial
  · exact hk.elim
theorem subF_ok : Ok G 128 addFS := by
  have hS : AllSound (B [(143, .pure (normG (B []) [31] classS)), (106, .pure (normG (B []) [31, 31] addFS)), (166, .pure (normG (B []) [31] negFS))]) G := .cons _ class_ok (.cons _ addF_ok (.cons _ negF_ok noneS))
  refine okP hS Tryz.func128 rfl (by decide) fun K us hk => ?_
  unfold addFS at hk
  split at hk
  · rename_i a b
    refine ⟨by show 2 ≤ _; decide, ?_⟩
    conv => whnf
    repeat' first
      | exact hk _ trivial
      | (refine Ask.i (fun _ => ?_) (fun _ => ?_) <;> conv => whnf)
      | (intro z hz; conv => whnf)
  · exact hk.elim
end Sx
