/- Part of the proof: a machine of states for walks, and contracts of functions over it. Conditions: those that each theorem names. -/
import Derived.Test.YtcjdbimojffggaaDoorCon2
set_option linter.unusedVariables false
set_option linter.unusedSimpArgs false
/-! Up. -/
namespace Sx
open Go Go.Proofs
set_option linter.unusedVariables false
set_option maxRecDepth 30000
variable {G : Glob} {Pre : NumD → NumD → Prop} {ad : Adds} {le : Bool → Adds}
/-- the stream of a row -/
def asRow (r : List D) : NumD × Int := (⟨cellD r 1, (cellD r 2).toInt, (cellD r 3).toInt, (cellD r 4).toInt, (cellD r 5).toInt, cellD r 6, (cellD r 7).toInt, (cellD r 8).toStr⟩, (cellD r 48).toInt)
def lookN (s : ByteArray) (l : List (ByteArray × List D)) : Option (NumD × Int) := (findM s l).map asRow
/-- what lies under a key is a stream -/
def RowOk (k : Nat) (s : ByteArray) (l : List (ByteArray × List D)) : Prop := ∀ r, findM s l = some r → ∃ m i, r = rowS m i ∧ NGood k m
def upS (Pre : NumD → NumD → Prop) (ad : Adds) (k : Nat) : List U → List Blk → Out RF
  | [.c (.p 50000 0), .c (.v (.string s)), .a q], [.cells 59 [.v (.int .i64 st), .v (.int .i64 bu), .v (.int .i64 ti), .v (.int .i64 nw), .m 50001 57], .map 57 l] => match asPt q with
    | some (kd, n, r) => .need (PGood k kd n r ∧ RowOk k s l) (.all (Option (NumD × Int)) (fun o => lookN s l = o) ⟨_, rfl⟩ fun o => match o with
      | none => wp1 (decide ((l.length : Int) ≥ st)) fun c => bif c then .ret (.t [.a ptZ, .c (I64 4)], [some (tbB st bu ti nw), some (.map 57 l)], [])
        else .ret (.t [.a (ptW n), .c (I64 1)], [some (tbB st bu ti nw), some (.map 57 (putM s (rowS n nw) l))], [])
      | some (m, i) => wp1 (decide (n.start < m.time) || decide (n.time < m.time)) fun c => bif c then .ret (.t [.a ptZ, .c (I64 3)], [some (tbB st bu ti nw), some (.map 57 l)], [])
        else .need (Pre m n) (.all (Option NumD) (fun o => ad m n = o) ⟨_, rfl⟩ fun o => match o with
          | some q => .ret (.t [.a (ptW q), .c (I64 0)], [some (tbB st bu ti nw), some (.map 57 (putM s (rowS q nw) l))], [])
          | none => .ret (.t [.a (ptW n), .c (I64 2)], [some (tbB st bu ti nw), some (.map 57 (putM s (rowS n nw) l))], [])))
    | none => .fail
  | _, _ => .fail
theorem up_ok {k : Nat} (hN : Ok G 26 (numP Pre ad k)) (hA : ∀ m n q, ad m n = some q → q.attrs = n.attrs ∧ q.ex = n.ex) : OkF G 7 (upS Pre ad k) := by
  have hS : AllSound (B [(14, .full (normF (B []) [23, 44] (fitS k))), (15, .full (normF (B []) [23, 9] fullS)), (16, .full (normF (B []) [23, 9, 44] (laysS k))), (17, .pure (normG (B []) [44] startS)), (18, .pure (normG (B []) [44] timeS)), (20, .pure (normG (B []) [44] (aloneS k))), (19, .full (normF (B []) [23, 44, 44] (plusS Pre ad k)))]) G :=
    .consF _ fit_ok (.consF _ full_ok (.consF _ lays_ok (.cons _ start_ok (.cons _ time_ok (.cons _ alone_ok (.consF _ (plus_ok hN) noneS))))))
  refine okF false hS Tryd.func7 rfl (by decide) fun K us lent hk => ?_
  unfold upS at hk
  split at hk
  · split at hk
    · rename_i s q st bu ti nw l _ kd n r hl
      rw [asPt_eq hl]
      refine ⟨by show 3 ≤ _; decide, ?_⟩
      obtain ⟨⟨⟨rfl, rfl, hg⟩, hrow⟩, hk⟩ := hk
      have hk := hk _ rfl
      conv => whnf
      refine ⟨⟨rfl, rfl, hg⟩, ?_⟩
      conv => whnf
      intro o ho
      cases o with
      | none =>
        rw [show lookN s l = none by rw [lookN, ho]; rfl] at hk
        have hk := hk _ rfl
        conv => whnf
        intro c hc
        rw [ho] at hc
        cases c with
        | true =>
          rw [show decide ((l.length : Int) ≥ st) = true from hc] at hk
          conv => whnf
          exact hk
        | false =>
          rw [show decide ((l.length : Int) ≥ st) = false from hc] at hk
          conv => whnf
          refine ⟨⟨rfl, rfl, hg⟩, ?_⟩
          conv => whnf
          exact hk
      | some row =>
        obtain ⟨m, i, rfl, hm⟩ := hrow _ ho
        rw [show lookN s l = some (m, i) by rw [lookN, ho]; rfl] at hk
        have hk := hk _ rfl
        conv => whnf
        intro c hc
        rw [ho] at hc
        obtain rfl : false = c := hc
        conv => whnf
        refine ⟨mixed, [], [(0, []), (1, []), (3, []), (4, []), (7, []), (8, []), (10, []), (11, [])], [], by kernel_rfl, ?_⟩
        conv => whnf
        refine ⟨⟨rfl, rfl⟩, ?_⟩
        conv => whnf
        refine ⟨⟨rfl, rfl⟩, ?_⟩
        conv => whnf
        refine Ask.i (fun c1 => ?_) (fun c1 => ?_)
        · have c1 : decide (n.start < m.time) = true := c1
          rw [c1] at hk
          conv => whnf
          exact hk
        have c1 : decide (n.start < m.time) = false := c1
        rw [c1] at hk
        conv => whnf
        refine ⟨⟨rfl, rfl⟩, ?_⟩
        conv => whnf
        refine ⟨⟨rfl, rfl⟩, ?_⟩
        conv => whnf
        refine Ask.i (fun c2 => ?_) (fun c2 => ?_)
        · have c2 : decide (n.time < m.time) = true := c2
          rw [c2] at hk
          conv => whnf
          exact hk
        have c2 : decide (n.time < m.time) = false := c2
        rw [c2] at hk
        obtain ⟨hP, hk⟩ := hk
        conv => whnf
        refine ⟨mixed, [(5, [50000, 50001]), (10, [12])], [(2, []), (3, []), (4, []), (5, [50000, 50001])], [], by kernel_rfl, ?_⟩
        conv => whnf
        refine ⟨⟨rfl, rfl, hg⟩, ?_⟩
        conv => whnf
        refine ⟨⟨⟨rfl, rfl, hm⟩, ⟨rfl, rfl, hg⟩, hP⟩, ?_⟩
        conv => whnf
        intro o2 ho2
        have hk := hk o2 ho2
        cases o2 with
        | some q2 =>
          have hq : NGood k q2 := by
            obtain ⟨e1, e2⟩ := hA _ _ _ ho2
            unfold NGood
            rw [e1, e2]
            exact hg
          conv => whnf
          refine ⟨⟨rfl, rfl, hq⟩, ?_⟩
          conv => whnf
          exact hk
        | none =>
          conv => whnf
          refine ⟨⟨rfl, rfl, hg⟩, ?_⟩
          conv => whnf
          exact hk
    · exact hk.elim
  · exact hk.elim
end Sx
/-! Down. -/
namespace Sx
open Go Go.Proofs
set_option linter.unusedVariables false
set_option maxRecDepth 30000
variable {G : Glob} {Pre : NumD → NumD → Prop} {ad : Adds} {le : Bool → Adds}
def downS (Pre : NumD → NumD → Prop) (le : Bool → Adds) (k : Nat) : List U → List Blk → Out RF
  | [.c (.p 50000 0), .c (.v (.string s)), .c (.v (.bool mono)), .a q], [.cells 59 [.v (.int .i64 st), .v (.int .i64 bu), .v (.int .i64 ti), .v (.int .i64 nw), .m 50001 57], .map 57 l] => match asPt q with
    | some (kd, n, r) => .need (PGood k kd n r ∧ RowOk k s l) (.all (Option (NumD × Int)) (fun o => lookN s l = o) ⟨_, rfl⟩ fun o => match o with
      | none => wp1 (decide ((l.length : Int) ≥ st)) fun c => bif c then .ret (.t [.a ptZ, .c (I64 4)], [some (tbB st bu ti nw), some (.map 57 l)], [])
        else .ret (.t [.a (ptW n), .c (I64 1)], [some (tbB st bu ti nw), some (.map 57 (putM s (rowS n nw) l))], [])
      | some (m, i) => wp1 (decide (n.time ≤ m.time)) fun c => bif c then .ret (.t [.a ptZ, .c (I64 3)], [some (tbB st bu ti nw), some (.map 57 l)], [])
        else .need (Pre n m) (wp1 (decide (n.start ≠ m.start)) fun c => bif c then .ret (.t [.a (ptW n), .c (I64 2)], [some (tbB st bu ti nw), some (.map 57 (putM s (rowS n nw) l))], [])
          else .all (Option NumD) (fun o => le mono n m = o) ⟨_, rfl⟩ fun o => match o with
            | some q => .ret (.t [.a (ptW q), .c (I64 0)], [some (tbB st bu ti nw), some (.map 57 (putM s (rowS n nw) l))], [])
            | none => .ret (.t [.a (ptW n), .c (I64 2)], [some (tbB st bu ti nw), some (.map 57 (putM s (rowS n nw) l))], [])))
    | none => .fail
  | _, _ => .fail
theorem down_ok {k : Nat} (hN : Ok G 32 (lessP Pre le k)) : OkF G 10 (downS Pre le k) := by
  have hS : AllSound (B [(20, .pure (normG (B []) [44] (aloneS k))), (15, .full (normF (B []) [23, 9] fullS)), (16, .full (normF (B []) [23, 9, 44] (laysS k))), (18, .pure (normG (B []) [44] timeS)), (23, .pure (normG (B []) [44, 44, 4] (lessS Pre le k)))]) G :=
    .cons _ alone_ok (.consF _ full_ok (.consF _ lays_ok (.cons _ time_ok (.cons _ (less_ok hN) noneS))))
  refine okF false hS Tryd.func10 rfl (by decide) fun K us lent hk => ?_
  unfold downS at hk
  split at hk
  · split at hk
    · rename_i s mono q st bu ti nw l _ kd n r hl
      rw [asPt_eq hl]
      refine ⟨by show 4 ≤ _; decide, ?_⟩
      obtain ⟨⟨⟨rfl, rfl, hg⟩, hrow⟩, hk⟩ := hk
      have hk := hk _ rfl
      conv => whnf
      refine ⟨⟨rfl, rfl, hg⟩, ?_⟩
      conv => whnf
      intro o ho
      cases o with
      | none =>
        rw [show lookN s l = none by rw [lookN, ho]; rfl] at hk
        have hk := hk _ rfl
        conv => whnf
        intro c hc
        rw [ho] at hc
        cases c with
        | true =>
          rw [show decide ((l.length : Int) ≥ st) = true from hc] at hk
          conv => whnf
          exact hk
        | false =>
          rw [show decide ((l.length : Int) ≥ st) = false from hc] at hk
          conv => whnf
          refine ⟨mixed, [], [(2, []), (3, []), (5, []), (6, [])], [], by kernel_rfl, ?_⟩
          conv => whnf
          refine ⟨⟨rfl, rfl, hg⟩, ?_⟩
          conv => whnf
          exact hk
      | some row =>
        obtain ⟨m, i, rfl, hm⟩ := hrow _ ho
        rw [show lookN s l = some (m, i) by rw [lookN, ho]; rfl] at hk
        have hk := hk _ rfl
        conv => whnf
        intro c hc
        rw [ho] at hc
        obtain rfl : false = c := hc
        conv => whnf
        refine ⟨mixed, [], [(2, []), (3, []), (5, []), (6, [])], [], by kernel_rfl, ?_⟩
        conv => whnf
        refine ⟨⟨rfl, rfl⟩, ?_⟩
        conv => whnf
        refine ⟨⟨rfl, rfl⟩, ?_⟩
        conv => whnf
        refine Ask.i (fun c1 => ?_) (fun c1 => ?_)
        · have c1 : decide (n.time ≤ m.time) = true := c1
          rw [c1] at hk
          conv => whnf
          exact hk
        have c1 : decide (n.time ≤ m.time) = false := c1
        rw [c1] at hk
        obtain ⟨hP, hk⟩ := hk
        have hk := hk _ rfl
        conv => whnf
        refine ⟨⟨rfl, rfl, hg⟩, ?_⟩
        conv => whnf
        refine ⟨⟨⟨rfl, rfl, hg⟩, ⟨rfl, rfl, hm⟩, hP⟩, ?_⟩
        conv => whnf
        intro c2 hc2
        cases c2 with
        | true =>
          rw [show decide (n.start ≠ m.start) = true from hc2] at hk
          conv => whnf
          exact hk
        | false =>
          rw [show decide (n.start ≠ m.start) = false from hc2] at hk
          conv => whnf
          intro o2 ho2
          have hk := hk o2 ho2
          cases o2 with
          | some q2 =>
            conv => whnf
            exact hk
          | none =>
            conv => whnf
            exact hk
    · exact hk.elim
  · exact hk.elim
end Sx
/-! The chapter's examples. -/
namespace Sx
open Go Go.Proofs
set_option linter.unusedVariables false
set_option maxRecDepth 30000
theorem good0 {n : NumD} (h1 : n.attrs = .rows []) (h2 : n.ex = .rows []) : NGood 1 n := by
  unfold NGood
  rw [h1, h2]
  exact ⟨.rows rfl (by decide) (by simp) (by simp), .rows (by decide) (by simp), .rows rfl (by decide) (by simp) (by simp), .rows (by decide) (by simp)⟩
theorem addI_same (m n q : NumD) (h : addI m n = some q) : q.attrs = n.attrs ∧ q.ex = n.ex := by
  unfold addI at h
  cases hb : sumBad m.n n.n with
  | true => rw [hb] at h; cases h
  | false => rw [hb] at h; obtain rfl := Option.some.inj h; exact ⟨rfl, rfl⟩
def firstS : List U → Out SV
  | [] => one (Bo true)
  | _ => .fail
theorem first_ok : Ok G1 5 firstS := by
  have hS : AllSound (B [(6, .full (normF (B []) [3, 3, 3] newS)), (7, .full (normF (B []) [23, 9, 44] (upS Whole addI 1))), (11, .full (normF (B []) [23] lenTS)), (12, .pure (normG (B []) [25] codeS)), (13, .pure (normG (B []) [3] nameS))]) G1 :=
    .consF _ new_ok (.consF _ (up_ok numI_ok addI_same) (.consF _ lenT_ok (.cons _ code_ok (.cons _ name_ok noneS))))
  refine okP hS Tryd.func5 rfl (by decide) fun K us hk => ?_
  unfold firstS at hk
  split at hk
  · refine ⟨by show 0 ≤ _; decide, ?_⟩
    conv => whnf
    intro c hc
    obtain rfl : false = c := hc
    conv => whnf
    refine ⟨⟨⟨rfl, rfl, good0 rfl rfl⟩, fun r h => by cases h⟩, ?_⟩
    conv => whnf
    intro o ho
    obtain rfl : none = o := ho
    conv => whnf
    intro c hc
    obtain rfl : false = c := hc
    conv => whnf
    refine ⟨⟨⟨rfl, rfl, good0 rfl rfl⟩, fun r h => by cases h⟩, ?_⟩
    conv => whnf
    intro o ho
    obtain rfl : none = o := ho
    conv => whnf
    intro c hc
    obtain rfl : true = c := hc
    conv => whnf
    intro c hc
    obtain rfl : true = c := hc
    conv => whnf
    exact fin hk (by simp)
  · exact hk.elim
end Sx
