/- The law MergeExps answers true at any input. Conditions: the input reads as data of the row's types, and errors.errorType is laid as the program's text lays it. -/
import Derived.Test.YtcmghblegllmlaaGreatDoorCon6
import Derived.Test.YtcmghblegllmlaaGreatDoorHists
import Derived.Test.YtcmghblegllmlaaGreatDoorPlC
import Derived.Test.YtcmghblegllmlaaGreatDoorPlD
import Derived.Test.YtcmghblegllmlaaGreatDoorCon4
set_option linter.unusedVariables false
set_option linter.unusedSimpArgs false
/-! Contracts: two points added, exactly. -/
namespace Sx
open Go Go.Proofs
open Go.Proofs.SxPu (addV subV)
set_option linter.unusedVariables false
set_option maxRecDepth 30000
variable {G : Glob}
def mexpT (k : Nat) : List U → Out SV
  | [.a la, .a lb, .c (.v (.int .i64 most))] => match asExp la, asExp lb with
    | some a, some b => .need (UU a.sum ∧ UU b.sum ∧ Fits a ∧ Fits b ∧ Typ TB (.sl 22) b.attrs ∧ Dp k b.attrs ∧ Typ TB (.sl 27) b.ex ∧ Dp k b.ex) (wp1 (a.thr != b.thr) fun c => bif c then .ret (.t [.a (noE 0).cells, .c (errV 13)]) else
      .all (Option (Int × Int × Int)) (fun o => shV a b most = o) ⟨_, rfl⟩ fun o => match o with
      | none => .ret (.t [.a (noE 0).cells, .c (errV 9)])
      | some r => .need (0 ≤ r.1 ∧ r.1 ≤ 31 ∧ 0 ≤ r.2.1 ∧ r.2.1 ≤ 31) (wp1 (addBad a b r.1.toNat r.2.1.toNat) fun c => bif c then .ret (.t [.a (noE 0).cells, .c (errV 9)]) else .ret (.t [.a (addE a b r.1.toNat r.2.1.toNat r.2.2 (zE a b)).cells, .c nilV])))
    | _, _ => .fail
  | _ => .fail
set_option maxHeartbeats 2000000 in
theorem mexp_ex {k : Nat} : Ok G 16 (mexpT k) := by
  have hS : AllSound (B [(44, .pure (normG (B []) [48, 48, 3] shiftsS)), (45, .pure (normG (B []) [48] (twS k))), (28, .full (normF (B []) [117, 23, 23] plusS)), (29, .pure (normG (B []) [25, 25, 71] bothT)), (46, .pure (normG (B []) [48, 48] pairsS)), (49, .full (normF (B []) [117, 89, 3] downS)), (48, .full (normF (B []) [117, 89, 89] addS)), (47, .full (normF (B []) [117, 95, 89, 89] laysS))]) G :=
    .cons _ shifts_ok (.cons _ twExp_ok (.consF _ plus_ok (.cons _ both_ex (.cons _ pairs_ok (.consF _ down_ok (.consF _ add_ok (.consF _ lays_ok noneS)))))))
  refine okP hS Tryz.func16 rfl (by decide) fun K us hk => ?_
  unfold mexpT at hk
  split at hk
  · rename_i la lb most
    split at hk
    · rename_i a b ha hb
      rw [asExp_eq ha, asExp_eq hb]
      refine ⟨by show 3 ≤ _; decide, ?_⟩
      obtain ⟨⟨us, ut, hA, hB, h1, h2, h3, h4⟩, hk⟩ := hk
      have hk := hk _ rfl
      conv => whnf
      refine Ask.i (fun c1 => ?_) (fun c1 => ?_)
      · have c1 : (a.thr != b.thr) = true := c1
        rw [c1] at hk
        conv => whnf
        exact hk
      have c1 : (a.thr != b.thr) = false := c1
      rw [c1] at hk
      have hk := hk _ rfl
      conv => whnf
      refine ⟨⟨hA, hB⟩, ?_⟩
      conv => whnf
      intro o ho
      have ho : shV a b most = o := ho
      rw [ho] at hk
      cases o with
      | none =>
        conv => whnf
        exact hk
      | some r =>
        obtain ⟨⟨hr1, hr2, hr3, hr4⟩, hk⟩ := hk
        conv => whnf
        refine ⟨⟨h1, h2, h3, h4, hB.1, hB.2.1⟩, ?_⟩
        conv => whnf
        refine ⟨mixed, [(4, [12]), (9, [12]), (11, [13]), (13, [13])], [], [], by kernel_rfl, ?_⟩
        conv => whnf
        refine ⟨mixed, [(16, [13]), (18, [13]), (20, [13])], [], [], by kernel_rfl, ?_⟩
        conv => whnf
        refine ⟨⟨us, ut⟩, ?_⟩
        conv => whnf
        have hk := hk _ rfl
        have pa := sd_near (h := a.hasP) (l := a.cP) ⟨hA.2.2.1, hA.2.2.2.1⟩ hA.1
        have pb := sd_near (h := b.hasP) (l := b.cP) ⟨hB.2.2.1, hB.2.2.2.1⟩ hB.1
        have na := sd_near (h := a.hasN) (l := a.cN) ⟨hA.2.2.2.2.1, hA.2.2.2.2.2.1⟩ hA.2.1
        have nb := sd_near (h := b.hasN) (l := b.cN) ⟨hB.2.2.2.2.1, hB.2.2.2.2.2.1⟩ hB.2.1
        change -8589934592 ≤ (sdP a).1 ∧ (sdP a).1 ≤ 8589934592 ∧ (sdP a).2.length ≤ 1500 at pa
        change -8589934592 ≤ (sdP b).1 ∧ (sdP b).1 ≤ 8589934592 ∧ (sdP b).2.length ≤ 1500 at pb
        change -8589934592 ≤ (sdN a).1 ∧ (sdN a).1 ≤ 8589934592 ∧ (sdN a).2.length ≤ 1500 at na
        change -8589934592 ≤ (sdN b).1 ∧ (sdN b).1 ≤ 8589934592 ∧ (sdN b).2.length ≤ 1500 at nb
        have far : ∀ {s : Int × List Int} {x : Int}, -8589934592 ≤ s.1 ∧ s.1 ≤ 8589934592 ∧ s.2.length ≤ 1500 → 0 ≤ x → x ≤ 31 → s.2.length ≤ 68719476736 ∧ -1099511627776 ≤ s.1 ∧ s.1 ≤ 1099511627776 ∧ 0 ≤ x ∧ x ≤ 31 := by
          intro s x h h1 h2; omega
        have nr : ∀ {s : Int × List Int} (n : Nat) (bad : Bool), -8589934592 ≤ s.1 ∧ s.1 ≤ 8589934592 ∧ s.2.length ≤ 1500 → -8589936092 ≤ (downL s.1 s.2 n bad).1 ∧ (downL s.1 s.2 n bad).1 ≤ 8589936092 ∧ (downL s.1 s.2 n bad).2.1.length ≤ 1500 := by
          intro s n bad h; exact downL_near ⟨h.1, h.2.1⟩ h.2.2
        conv => whnf
        refine ⟨mixed, [(13, [13]), (15, [13])], [], [], by kernel_rfl, ?_⟩
        conv => whnf
        refine Ask.i (fun c2 => ?_) (fun c2 => ?_)
        · have c2 : a.hasP = true := c2
          conv => whnf
          refine Ask.i (fun c3 => ?_) (fun c3 => ?_)
          · have c3 : a.hasN = true := c3
            conv => whnf
            refine ⟨⟨hA, hB⟩, ?_⟩
            conv => whnf
            refine ⟨mixed, [(3, [12]), (7, [12]), (8, [12]), (12, [12]), (16, [12]), (17, [12]), (18, [12, 13])], [], [], by kernel_rfl, ?_⟩
            conv => whnf
            refine ⟨far pa hr1 hr2, ?_⟩
            conv => whnf
            refine ⟨far pb hr3 hr4, ?_⟩
            conv => whnf
            refine ⟨addN_near (nr _ _ pa) (nr _ _ pb), ?_⟩
            conv => whnf
            refine ⟨far na hr1 hr2, ?_⟩
            conv => whnf
            refine ⟨far nb hr3 hr4, ?_⟩
            conv => whnf
            refine ⟨addN_near (nr _ _ na) (nr _ _ nb), ?_⟩
            conv => whnf
            refine ⟨⟨addN_len (nr _ _ pa) (nr _ _ pb), addN_len (nr _ _ na) (nr _ _ nb)⟩, ?_⟩
            conv => whnf
            intro c hc
            have hc : addBad a b r.1.toNat r.2.1.toNat = c := hc
            rw [hc] at hk
            cases c with
            | true =>
              conv => whnf
              exact hk
            | false =>
              conv => whnf
              refine fin hk (congrArg (fun h : Bool × Bool => SV.t [.a ({ addE a b r.1.toNat r.2.1.toNat r.2.2 (zE a b) with hasP := h.1, hasN := h.2 }).cells, .c nilV]) (?_ : (a.hasP || b.hasP, a.hasN || b.hasN) = (true, true)))
              rw [c2, c3]; rfl
          · have c3 : a.hasN = false := c3
            conv => whnf
            refine ⟨⟨hA, hB⟩, ?_⟩
            conv => whnf
            refine ⟨mixed, [(3, [12]), (7, [12]), (8, [12]), (12, [12]), (16, [12]), (17, [12]), (18, [12, 13])], [], [], by kernel_rfl, ?_⟩
            conv => whnf
            refine ⟨far pa hr1 hr2, ?_⟩
            conv => whnf
            refine ⟨far pb hr3 hr4, ?_⟩
            conv => whnf
            refine ⟨addN_near (nr _ _ pa) (nr _ _ pb), ?_⟩
            conv => whnf
            refine ⟨far na hr1 hr2, ?_⟩
            conv => whnf
            refine ⟨far nb hr3 hr4, ?_⟩
            conv => whnf
            refine ⟨addN_near (nr _ _ na) (nr _ _ nb), ?_⟩
            conv => whnf
            refine ⟨⟨addN_len (nr _ _ pa) (nr _ _ pb), addN_len (nr _ _ na) (nr _ _ nb)⟩, ?_⟩
            conv => whnf
            intro c hc
            have hc : addBad a b r.1.toNat r.2.1.toNat = c := hc
            rw [hc] at hk
            cases c with
            | true =>
              conv => whnf
              exact hk
            | false =>
              conv => whnf
              refine fin hk (congrArg (fun h : Bool × Bool => SV.t [.a ({ addE a b r.1.toNat r.2.1.toNat r.2.2 (zE a b) with hasP := h.1, hasN := h.2 }).cells, .c nilV]) (?_ : (a.hasP || b.hasP, a.hasN || b.hasN) = (true, b.hasN)))
              rw [c2, c3]; rfl
        · have c2 : a.hasP = false := c2
          conv => whnf
          refine Ask.i (fun c3 => ?_) (fun c3 => ?_)
          · have c3 : a.hasN = true := c3
            conv => whnf
            refine ⟨⟨hA, hB⟩, ?_⟩
            conv => whnf
            refine ⟨mixed, [(3, [12]), (7, [12]), (8, [12]), (12, [12]), (16, [12]), (17, [12]), (18, [12, 13])], [], [], by kernel_rfl, ?_⟩
            conv => whnf
            refine ⟨far pa hr1 hr2, ?_⟩
            conv => whnf
            refine ⟨far pb hr3 hr4, ?_⟩
            conv => whnf
            refine ⟨addN_near (nr _ _ pa) (nr _ _ pb), ?_⟩
            conv => whnf
            refine ⟨far na hr1 hr2, ?_⟩
            conv => whnf
            refine ⟨far nb hr3 hr4, ?_⟩
            conv => whnf
            refine ⟨addN_near (nr _ _ na) (nr _ _ nb), ?_⟩
            conv => whnf
            refine ⟨⟨addN_len (nr _ _ pa) (nr _ _ pb), addN_len (nr _ _ na) (nr _ _ nb)⟩, ?_⟩
            conv => whnf
            intro c hc
            have hc : addBad a b r.1.toNat r.2.1.toNat = c := hc
            rw [hc] at hk
            cases c with
            | true =>
              conv => whnf
              exact hk
            | false =>
              conv => whnf
              refine fin hk (congrArg (fun h : Bool × Bool => SV.t [.a ({ addE a b r.1.toNat r.2.1.toNat r.2.2 (zE a b) with hasP := h.1, hasN := h.2 }).cells, .c nilV]) (?_ : (a.hasP || b.hasP, a.hasN || b.hasN) = (b.hasP, true)))
              rw [c2, c3]; rfl
          · have c3 : a.hasN = false := c3
            conv => whnf
            refine ⟨⟨hA, hB⟩, ?_⟩
            conv => whnf
            refine ⟨mixed, [(3, [12]), (7, [12]), (8, [12]), (12, [12]), (16, [12]), (17, [12]), (18, [12, 13])], [], [], by kernel_rfl, ?_⟩
            conv => whnf
            refine ⟨far pa hr1 hr2, ?_⟩
            conv => whnf
            refine ⟨far pb hr3 hr4, ?_⟩
            conv => whnf
            refine ⟨addN_near (nr _ _ pa) (nr _ _ pb), ?_⟩
            conv => whnf
            refine ⟨far na hr1 hr2, ?_⟩
            conv => whnf
            refine ⟨far nb hr3 hr4, ?_⟩
            conv => whnf
            refine ⟨addN_near (nr _ _ na) (nr _ _ nb), ?_⟩
            conv => whnf
            refine ⟨⟨addN_len (nr _ _ pa) (nr _ _ pb), addN_len (nr _ _ na) (nr _ _ nb)⟩, ?_⟩
            conv => whnf
            intro c hc
            have hc : addBad a b r.1.toNat r.2.1.toNat = c := hc
            rw [hc] at hk
            cases c with
            | true =>
              conv => whnf
              exact hk
            | false =>
              conv => whnf
              refine fin hk (congrArg (fun h : Bool × Bool => SV.t [.a ({ addE a b r.1.toNat r.2.1.toNat r.2.2 (zE a b) with hasP := h.1, hasN := h.2 }).cells, .c nilV]) (?_ : (a.hasP || b.hasP, a.hasN || b.hasN) = (b.hasP, b.hasN)))
              rw [c2, c3]; rfl
    · exact hk.elim
  · exact hk.elim
end Sx
/-! Contracts: what points give, told once for both. -/
namespace Sx
open Go Go.Proofs
open Go.Proofs.SxPu (addV subV)
set_option linter.unusedVariables false
set_option linter.unusedSimpArgs false
set_option maxRecDepth 30000
variable {G : Glob}
def expR (a b : ExpD) (most : Int) : Option ExpD × Int := bif a.thr != b.thr then (none, 13) else match shV a b most with
  | none => (none, 9)
  | some r => bif addBad a b r.1.toNat r.2.1.toNat then (none, 9) else (some (addE a b r.1.toNat r.2.1.toNat r.2.2 (zE a b)), 0)
def fitR (e : ExpD) (most : Int) : Option ExpD × Int := match shV e (noE e.scale) most with
  | none => (none, 9)
  | some r => bif fitBad e r.1.toNat then (none, 9) else (some (fitE e r.1.toNat r.2.2), 0)
def lexR (a b : ExpD) : Option ExpD × Int := bif a.scale != b.scale || a.thr != b.thr then (none, 13) else bif lexBad a b then (none, 9) else (some (lexE a b (zL a b)), 0)
def outQ (p : Option ExpD × Int) : Out SV := match p.1 with
  | none => .ret (.t [.a (noE 0).cells, .c (errV p.2)])
  | some u => .ret (.t [.a u.cells, .c nilV])
def outRQ (p : Option ExpD × Int) : Out SV := match p.1 with
  | none => .ret (.t [.a (noE 0).cells, .c (I64 p.2)])
  | some u => .ret (.t [.a u.cells, .c (I64 0)])
structure DOk (k : Nat) (e : ExpD) : Prop where
  t1 : Typ TB (.sl 22) e.attrs
  d1 : Dp k e.attrs
  t2 : Typ TB (.sl 27) e.ex
  d2 : Dp k e.ex
def mexpU (k : Nat) : List U → Out SV
  | [.a la, .a lb, .c (.v (.int .i64 most))] => match asExp la, asExp lb with
    | some a, some b => .need (EOk a ∧ EOk b ∧ DOk k b) (.all (Option ExpD × Int) (fun p => expR a b most = p) ⟨_, rfl⟩ outQ)
    | _, _ => .fail
  | _ => .fail
theorem mexpU_ex {k : Nat} : Ok G 16 (mexpU k) := (mexp_ex (k := k)).mono fun us K hk => by
  unfold mexpU at hk
  split at hk
  · rename_i la lb most
    split at hk
    · rename_i a b ha hb
      obtain ⟨⟨hA, hB, hD⟩, hk⟩ := hk
      have hk := hk _ rfl
      unfold expR at hk
      unfold mexpT
      simp only [ha, hb]
      refine ⟨⟨hA.u.sm, hB.u.sm, hA.f, hB.f, hD.t1, hD.d1, hD.t2, hD.d2⟩, fun c hc => ?_⟩
      have hc : (a.thr != b.thr) = c := hc
      rw [hc] at hk
      cases c with
      | true => exact hk
      | false =>
        refine fun o ho => ?_
        have ho : shV a b most = o := ho
        rw [ho] at hk
        cases o with
        | none => exact hk
        | some r =>
          obtain ⟨_, _, _, sx, sy, _⟩ := sh_facts hA.f hB.f ho
          refine ⟨⟨sx.1, sx.2, sy.1, sy.2⟩, fun c hc => ?_⟩
          have hc : addBad a b r.1.toNat r.2.1.toNat = c := hc
          simp only [cond_false, hc] at hk
          cases c with
          | true => exact hk
          | false => exact hk
    · exact hk.elim
  · exact hk.elim
def rexpU : List U → Out SV
  | [.a la, .a lb, .c (.v (.int .i64 most))] => match asExp la, asExp lb with
    | some a, some b => .need (EOk a ∧ EOk b) (.all (Option ExpD × Int) (fun p => expR a b most = p) ⟨_, rfl⟩ outRQ)
    | _, _ => .fail
  | _ => .fail
theorem rexpU_ex : Ok G 17 rexpU := rexp_ex.mono fun us K hk => by
  unfold rexpU at hk
  split at hk
  · rename_i la lb most
    split at hk
    · rename_i a b ha hb
      obtain ⟨⟨hA, hB⟩, hk⟩ := hk
      have hk := hk _ rfl
      unfold expR at hk
      unfold rexpT
      simp only [ha, hb]
      refine ⟨⟨hA, hB⟩, fun c hc => ?_⟩
      have hc : (a.thr != b.thr) = c := hc
      rw [hc] at hk
      cases c with
      | true => exact hk
      | false =>
        refine fun o ho => ?_
        have ho : shV a b most = o := ho
        rw [ho] at hk
        cases o with
        | none => exact hk
        | some r =>
          refine fun c hc => ?_
          have hc : addBad a b r.1.toNat r.2.1.toNat = c := hc
          simp only [cond_false, hc] at hk
          cases c with
          | true => exact hk
          | false => exact hk
    · exact hk.elim
  · exact hk.elim
def mfitU (k : Nat) : List U → Out SV
  | [.a l, .c (.v (.int .i64 most))] => match asExp l with
    | some e => .need (EOk e ∧ DOk k e) (.all (Option ExpD × Int) (fun p => fitR e most = p) ⟨_, rfl⟩ outQ)
    | none => .fail
  | _ => .fail
theorem mfitU_ex {k : Nat} : Ok G 18 (mfitU k) := (fit_ok (k := k)).mono fun us K hk => by
  unfold mfitU at hk
  split at hk
  · rename_i l most
    split at hk
    · rename_i e he
      obtain ⟨⟨hA, hD⟩, hk⟩ := hk
      have hk := hk _ rfl
      unfold fitR at hk
      unfold fitS
      simp only [he]
      refine ⟨⟨hA.f, hD.t1, hD.d1, hD.t2, hD.d2⟩, fun o ho => ?_⟩
      have ho : shV e (noE e.scale) most = o := ho
      rw [ho] at hk
      cases o with
      | none => exact hk
      | some r =>
        obtain ⟨_, sx, _⟩ := fit_facts hA.f ho
        refine ⟨⟨sx.1, sx.2⟩, fun c hc => ?_⟩
        have hc : fitBad e r.1.toNat = c := hc
        simp only [hc] at hk
        cases c with
        | true => exact hk
        | false => exact hk
    · exact hk.elim
  · exact hk.elim
def rfitU : List U → Out SV
  | [.a l, .c (.v (.int .i64 most))] => match asExp l with
    | some e => .need (EOk e) (.all (Option ExpD × Int) (fun p => fitR e most = p) ⟨_, rfl⟩ outRQ)
    | none => .fail
  | _ => .fail
theorem rfitU_ex : Ok G 19 rfitU := rfit_ex.mono fun us K hk => by
  unfold rfitU at hk
  split at hk
  · rename_i l most
    split at hk
    · rename_i e he
      obtain ⟨hA, hk⟩ := hk
      have hk := hk _ rfl
      unfold fitR at hk
      unfold rfitT
      simp only [he]
      refine ⟨hA, fun o ho => ?_⟩
      have ho : shV e (noE e.scale) most = o := ho
      rw [ho] at hk
      cases o with
      | none => exact hk
      | some r =>
        refine fun c hc => ?_
        have hc : fitBad e r.1.toNat = c := hc
        simp only [hc] at hk
        cases c with
        | true => exact hk
        | false => exact hk
    · exact hk.elim
  · exact hk.elim
def mlexU (k : Nat) : List U → Out SV
  | [.a la, .a lb] => match asExp la, asExp lb with
    | some a, some b => .need (EOk a ∧ EOk b ∧ DOk k a) (.all (Option ExpD × Int) (fun p => lexR a b = p) ⟨_, rfl⟩ outQ)
    | _, _ => .fail
  | _ => .fail
theorem mlexU_ex {k : Nat} : Ok G 20 (mlexU k) := (lexp_ex (k := k)).mono fun us K hk => by
  unfold mlexU at hk
  split at hk
  · split at hk
    · rename_i la lb _ _ a b ha hb
      obtain ⟨⟨hA, hB, hD⟩, hk⟩ := hk
      have hk := hk _ rfl
      unfold lexR at hk
      unfold lexpT
      simp only [ha, hb]
      refine ⟨⟨hA.u.sm, hB.u.sm, hA.f, hB.f, hD.t1, hD.d1, hD.t2, hD.d2⟩, fun c hc => ?_⟩
      have hc : (a.scale != b.scale || a.thr != b.thr) = c := hc
      rw [hc] at hk
      cases c with
      | true => exact hk
      | false =>
        refine fun c hc => ?_
        have hc : lexBad a b = c := hc
        simp only [cond_false, hc] at hk
        cases c with
        | true => exact hk
        | false => exact hk
    · exact hk.elim
  · exact hk.elim
def rlexU : List U → Out SV
  | [.a la, .a lb] => match asExp la, asExp lb with
    | some a, some b => .need (EOk a ∧ EOk b) (.all (Option ExpD × Int) (fun p => lexR a b = p) ⟨_, rfl⟩ outRQ)
    | _, _ => .fail
  | _ => .fail
theorem rlexU_ex : Ok G 21 rlexU := rlexp_ex.mono fun us K hk => by
  unfold rlexU at hk
  split at hk
  · split at hk
    · rename_i la lb _ _ a b ha hb
      obtain ⟨⟨hA, hB⟩, hk⟩ := hk
      have hk := hk _ rfl
      unfold lexR at hk
      unfold rlexpT
      simp only [ha, hb]
      refine ⟨⟨hA, hB⟩, fun c hc => ?_⟩
      have hc : (a.scale != b.scale || a.thr != b.thr) = c := hc
      rw [hc] at hk
      cases c with
      | true => exact hk
      | false =>
        refine fun c hc => ?_
        have hc : lexBad a b = c := hc
        simp only [cond_false, hc] at hk
        cases c with
        | true => exact hk
        | false => exact hk
    · exact hk.elim
  · exact hk.elim
end Sx
/-! The law MergeExps: true. -/
namespace Sx
open Go Go.Proofs
open Go.Proofs.SxPu (addV subV)
set_option linter.unusedVariables false
set_option maxRecDepth 30000
variable {G : Glob}
theorem typ_nilx {t : TypeId} {c : List Ct} (h : TB t = some (.rows c)) : Typ TB (.sl t) (.rows []) := .rows h (by simp) (fun r hr => by cases hr) (fun r hr => by cases hr)
theorem noE_ok {k : Nat} : DOk (k + 1) (noE 0) := ⟨typ_nilx (t := 22) (c := [.str, .bool, .int .i64, .str, .bool, .int .u64, .sl 122, .sl 22, .str, .str, .str]) rfl, .rows (by simp) (by simp), typ_nilx (t := 27) (c := [.sl 22, .int .u64, .int .i64, .int .u64, .str, .str, .str]) rfl, .rows (by simp) (by simp)⟩
theorem trim_short {f : Int} {l : List Int} {n : Nat} (h : l.length ≤ n) : (trim f l).2.length ≤ n := Nat.le_trans (trim_len f l) h
theorem sdP_nr {e : ExpD} (h : Fits e) : -8589934592 ≤ (sdP e).1 ∧ (sdP e).1 ≤ 8589934592 ∧ (sdP e).2.length ≤ 1500 := sd_near (h := e.hasP) (l := e.cP) ⟨h.2.2.1, h.2.2.2.1⟩ h.1
theorem sdN_nr {e : ExpD} (h : Fits e) : -8589934592 ≤ (sdN e).1 ∧ (sdN e).1 ≤ 8589934592 ∧ (sdN e).2.length ≤ 1500 := sd_near (h := e.hasN) (l := e.cN) ⟨h.2.2.2.2.1, h.2.2.2.2.2.1⟩ h.2.1
theorem one_short {s t : Int × List Int} {x y : Nat} {bad : Bool} (h1 : -8589934592 ≤ s.1 ∧ s.1 ≤ 8589934592 ∧ s.2.length ≤ 1500) (h2 : -8589934592 ≤ t.1 ∧ t.1 ≤ 8589934592 ∧ t.2.length ≤ 1500) : (oneSide s t x y bad).2.1.length ≤ 68719476736 :=
  addN_len (downL_near ⟨h1.1, h1.2.1⟩ h1.2.2) (downL_near ⟨h2.1, h2.2.1⟩ h2.2.2)
theorem expR_ok {k : Nat} {a b u : ExpD} {most n : Int} (hA : Fits a) (hB : Fits b) (hD : DOk k b) (h : expR a b most = (some u, n)) : DOk k u ∧ u.cP.length ≤ 68719476736 ∧ u.cN.length ≤ 68719476736 := by
  unfold expR at h
  cases h1 : (a.thr != b.thr) with
  | true => rw [h1] at h; cases h
  | false =>
    rw [h1] at h
    cases h2 : shV a b most with
    | none => rw [h2] at h; cases h
    | some r =>
      rw [h2] at h
      simp only [cond_false] at h
      cases h3 : addBad a b r.1.toNat r.2.1.toNat with
      | true => rw [h3] at h; cases h
      | false =>
        rw [h3] at h
        simp only [cond_false, Prod.mk.injEq, Option.some.injEq] at h
        obtain ⟨rfl, _⟩ := h
        exact ⟨⟨hD.t1, hD.d1, hD.t2, hD.d2⟩, trim_short (one_short (sdP_nr hA) (sdP_nr hB)), trim_short (one_short (sdN_nr hA) (sdN_nr hB))⟩
theorem fitR_ok {k : Nat} {e u : ExpD} {most n : Int} (hA : Fits e) (hD : DOk k e) (h : fitR e most = (some u, n)) : DOk k u ∧ u.cP.length ≤ 68719476736 ∧ u.cN.length ≤ 68719476736 := by
  unfold fitR at h
  cases h2 : shV e (noE e.scale) most with
  | none => rw [h2] at h; cases h
  | some r =>
    rw [h2] at h
    simp only at h
    cases h3 : fitBad e r.1.toNat with
    | true => rw [h3] at h; cases h
    | false =>
      rw [h3] at h
      simp only [cond_false, Prod.mk.injEq, Option.some.injEq] at h
      obtain ⟨rfl, _⟩ := h
      refine ⟨⟨hD.t1, hD.d1, hD.t2, hD.d2⟩, trim_short (Nat.le_trans (downL_len _ _ _ _) (Nat.le_trans (side_len e.hasP e.cP) (Nat.le_trans hA.1 (by decide)))), trim_short (Nat.le_trans (downL_len _ _ _ _) (Nat.le_trans (side_len e.hasN e.cN) (Nat.le_trans hA.2.1 (by decide))))⟩
theorem lexR_ok {k : Nat} {a b u : ExpD} {n : Int} (hA : Fits a) (hD : DOk k a) (h : lexR a b = (some u, n)) : DOk k u ∧ u.cP.length ≤ 68719476736 ∧ u.cN.length ≤ 68719476736 := by
  unfold lexR at h
  cases h1 : (a.scale != b.scale || a.thr != b.thr) with
  | true => rw [h1] at h; cases h
  | false =>
    rw [h1] at h
    simp only [cond_false] at h
    cases h3 : lexBad a b with
    | true => rw [h3] at h; cases h
    | false =>
      rw [h3] at h
      simp only [cond_false, Prod.mk.injEq, Option.some.injEq] at h
      obtain ⟨rfl, _⟩ := h
      refine ⟨⟨hD.t1, hD.d1, hD.t2, hD.d2⟩, trim_short ?_, trim_short ?_⟩
      · show (takeL (rsP a) (rsP b) (lexCnt a b)).1.length ≤ _
        unfold takeL; rw [takeGo_len]
        exact Nat.le_trans (side_len a.hasP a.cP) (Nat.le_trans hA.1 (by decide))
      · show (takeL (rsN a) (rsN b) _).1.length ≤ _
        unfold takeL; rw [takeGo_len]
        exact Nat.le_trans (side_len a.hasN a.cN) (Nat.le_trans hA.2.1 (by decide))
def lawExpsS (k : Nat) : List U → Out SV
  | [.a la, .a lb, .c (.v (.int .i64 most))] => match asExp la, asExp lb with
    | some a, some b => .need (a.Typ ∧ b.Typ ∧ a.UE ∧ b.UE ∧ (a.Small → b.Small → DpE (k + 1) a ∧ DpE (k + 1) b)) (one (Bo true))
    | _, _ => .fail
  | _ => .fail
set_option maxHeartbeats 8000000 in
theorem lawExps_ok {k : Nat} : Ok G1 4 (lawExpsS k) := by
  have hS : AllSound (B [(5, .pure (normG (B []) [] firstS)), (15, .pure (normG (B []) [50] fewS)), (16, .pure (normG (B []) [48, 48, 3] (mexpU (k + 1)))), (17, .pure (normG (B []) [48, 48, 3] rexpU)), (18, .pure (normG (B []) [48, 3] (mfitU (k + 1)))), (19, .pure (normG (B []) [48, 3] rfitU)), (20, .pure (normG (B []) [48, 48] (mlexU (k + 1)))), (21, .pure (normG (B []) [48, 48] rlexU)), (22, .pure (normG (B []) [48, 48] (expEqS (k + 1)))), (13, .pure (normG (B []) [36] codeS))]) G1 :=
    .cons _ first_ok (.cons _ few_ok (.cons _ mexpU_ex (.cons _ rexpU_ex (.cons _ mfitU_ex (.cons _ rfitU_ex (.cons _ mlexU_ex (.cons _ rlexU_ex (.cons _ expEq_ok (.cons _ code_ok noneS)))))))))
  refine okP hS Tryz.func4 rfl (by decide) fun K us hk => ?_
  unfold lawExpsS at hk
  split at hk
  · rename_i la lb most
    split at hk
    · rename_i a b ha hb
      rw [asExp_eq ha, asExp_eq hb]
      refine ⟨by show 3 ≤ _; decide, ?_⟩
      obtain ⟨⟨tA, tB, uA, uB, dE⟩, hk⟩ := hk
      conv => whnf
      refine ⟨⟨tA, tB⟩, ?_⟩
      conv => whnf
      intro f hf
      have hf : f = true → a.Small ∧ b.Small := hf
      cases f with
      | false =>
        conv => whnf
        exact hk
      | true =>
      obtain ⟨sA, sB⟩ := hf rfl
      obtain ⟨d1, d2⟩ := dE sA sB
      have fA : Fits a := ⟨sA.lP, sA.lN, tA.oP.1, tA.oP.2, tA.oN.1, tA.oN.2, tA.sc.1, tA.sc.2⟩
      have fB : Fits b := ⟨sB.lP, sB.lN, tB.oP.1, tB.oP.2, tB.oN.1, tB.oN.2, tB.sc.1, tB.sc.2⟩
      have eA : EOk a := ⟨fA, tA.rP, tA.rN, uA⟩
      have eB : EOk b := ⟨fB, tB.rP, tB.rN, uB⟩
      have oA : DOk (k + 1) a := ⟨tA.attrs, d1.1, tA.ex, d1.2⟩
      have oB : DOk (k + 1) b := ⟨tB.attrs, d2.1, tB.ex, d2.2⟩
      have no := noE_ok (k := k)
      conv => whnf
      refine ⟨⟨eA, eB, oB⟩, ?_⟩
      conv => whnf
      rintro ⟨o1, n1⟩ h1
      have h1 : expR a b most = (o1, n1) := h1
      cases o1 with
      | none =>
        conv => whnf
        refine ⟨⟨eA, eB⟩, ?_⟩
        conv => whnf
        intro q1 g1
        have g1 : expR a b most = q1 := g1
        rw [h1] at g1
        subst g1
        conv => whnf
        refine ⟨⟨eA, oA⟩, ?_⟩
        conv => whnf
        rintro ⟨o2, n2⟩ h2
        have h2 : fitR a most = (o2, n2) := h2
        cases o2 with
        | none =>
          conv => whnf
          refine ⟨eA, ?_⟩
          conv => whnf
          intro q2 g2
          have g2 : fitR a most = q2 := g2
          rw [h2] at g2
          subst g2
          conv => whnf
          refine ⟨⟨eA, eB, oA⟩, ?_⟩
          conv => whnf
          rintro ⟨o3, n3⟩ h3
          have h3 : lexR a b = (o3, n3) := h3
          cases o3 with
          | none =>
            conv => whnf
            refine ⟨⟨eA, eB⟩, ?_⟩
            conv => whnf
            intro q3 g3
            have g3 : lexR a b = q3 := g3
            rw [h3] at g3
            subst g3
            conv => whnf
            refine ⟨⟨rfl, no.t1, no.d1, no.t2, no.d2, by decide, by decide⟩, ?_⟩
            conv => whnf
            refine Ask.i (fun _ => ?_) (fun c => nf n1 c)
            conv => whnf
            refine ⟨⟨rfl, no.t1, no.d1, no.t2, no.d2, by decide, by decide⟩, ?_⟩
            conv => whnf
            refine Ask.i (fun _ => ?_) (fun c => nf n2 c)
            conv => whnf
            refine ⟨⟨rfl, no.t1, no.d1, no.t2, no.d2, by decide, by decide⟩, ?_⟩
            conv => whnf
            exact fin hk (congrArg (fun z : Bool => SV.u (.c (Bo z))) (beq_self_eq_true n3).symm)
          | some u3 =>
            have k3 := lexR_ok fA oA h3
            conv => whnf
            refine ⟨⟨eA, eB⟩, ?_⟩
            conv => whnf
            intro q3 g3
            have g3 : lexR a b = q3 := g3
            rw [h3] at g3
            subst g3
            conv => whnf
            refine ⟨⟨rfl, no.t1, no.d1, no.t2, no.d2, by decide, by decide⟩, ?_⟩
            conv => whnf
            refine Ask.i (fun _ => ?_) (fun c => nf n1 c)
            conv => whnf
            refine ⟨⟨rfl, no.t1, no.d1, no.t2, no.d2, by decide, by decide⟩, ?_⟩
            conv => whnf
            refine Ask.i (fun _ => ?_) (fun c => nf n2 c)
            conv => whnf
            refine ⟨⟨rfl, k3.1.t1, k3.1.d1, k3.1.t2, k3.1.d2, k3.2.1, k3.2.2⟩, ?_⟩
            conv => whnf
            exact hk
        | some u2 =>
          have k2 := fitR_ok fA oA h2
          conv => whnf
          refine ⟨eA, ?_⟩
          conv => whnf
          intro q2 g2
          have g2 : fitR a most = q2 := g2
          rw [h2] at g2
          subst g2
          conv => whnf
          refine ⟨⟨eA, eB, oA⟩, ?_⟩
          conv => whnf
          rintro ⟨o3, n3⟩ h3
          have h3 : lexR a b = (o3, n3) := h3
          cases o3 with
          | none =>
            conv => whnf
            refine ⟨⟨eA, eB⟩, ?_⟩
            conv => whnf
            intro q3 g3
            have g3 : lexR a b = q3 := g3
            rw [h3] at g3
            subst g3
            conv => whnf
            refine ⟨⟨rfl, no.t1, no.d1, no.t2, no.d2, by decide, by decide⟩, ?_⟩
            conv => whnf
            refine Ask.i (fun _ => ?_) (fun c => nf n1 c)
            conv => whnf
            refine ⟨⟨rfl, k2.1.t1, k2.1.d1, k2.1.t2, k2.1.d2, k2.2.1, k2.2.2⟩, ?_⟩
            conv => whnf
            refine ⟨⟨rfl, no.t1, no.d1, no.t2, no.d2, by decide, by decide⟩, ?_⟩
            conv => whnf
            exact fin hk (congrArg (fun z : Bool => SV.u (.c (Bo z))) (beq_self_eq_true n3).symm)
          | some u3 =>
            have k3 := lexR_ok fA oA h3
            conv => whnf
            refine ⟨⟨eA, eB⟩, ?_⟩
            conv => whnf
            intro q3 g3
            have g3 : lexR a b = q3 := g3
            rw [h3] at g3
            subst g3
            conv => whnf
            refine ⟨⟨rfl, no.t1, no.d1, no.t2, no.d2, by decide, by decide⟩, ?_⟩
            conv => whnf
            refine Ask.i (fun _ => ?_) (fun c => nf n1 c)
            conv => whnf
            refine ⟨⟨rfl, k2.1.t1, k2.1.d1, k2.1.t2, k2.1.d2, k2.2.1, k2.2.2⟩, ?_⟩
            conv => whnf
            refine ⟨⟨rfl, k3.1.t1, k3.1.d1, k3.1.t2, k3.1.d2, k3.2.1, k3.2.2⟩, ?_⟩
            conv => whnf
            exact hk
      | some u1 =>
        have k1 := expR_ok fA fB oB h1
        conv => whnf
        refine ⟨⟨eA, eB⟩, ?_⟩
        conv => whnf
        intro q1 g1
        have g1 : expR a b most = q1 := g1
        rw [h1] at g1
        subst g1
        conv => whnf
        refine ⟨⟨eA, oA⟩, ?_⟩
        conv => whnf
        rintro ⟨o2, n2⟩ h2
        have h2 : fitR a most = (o2, n2) := h2
        cases o2 with
        | none =>
          conv => whnf
          refine ⟨eA, ?_⟩
          conv => whnf
          intro q2 g2
          have g2 : fitR a most = q2 := g2
          rw [h2] at g2
          subst g2
          conv => whnf
          refine ⟨⟨eA, eB, oA⟩, ?_⟩
          conv => whnf
          rintro ⟨o3, n3⟩ h3
          have h3 : lexR a b = (o3, n3) := h3
          cases o3 with
          | none =>
            conv => whnf
            refine ⟨⟨eA, eB⟩, ?_⟩
            conv => whnf
            intro q3 g3
            have g3 : lexR a b = q3 := g3
            rw [h3] at g3
            subst g3
            conv => whnf
            refine ⟨⟨rfl, k1.1.t1, k1.1.d1, k1.1.t2, k1.1.d2, k1.2.1, k1.2.2⟩, ?_⟩
            conv => whnf
            refine ⟨⟨rfl, no.t1, no.d1, no.t2, no.d2, by decide, by decide⟩, ?_⟩
            conv => whnf
            refine Ask.i (fun _ => ?_) (fun c => nf n2 c)
            conv => whnf
            refine ⟨⟨rfl, no.t1, no.d1, no.t2, no.d2, by decide, by decide⟩, ?_⟩
            conv => whnf
            exact fin hk (congrArg (fun z : Bool => SV.u (.c (Bo z))) (beq_self_eq_true n3).symm)
          | some u3 =>
            have k3 := lexR_ok fA oA h3
            conv => whnf
            refine ⟨⟨eA, eB⟩, ?_⟩
            conv => whnf
            intro q3 g3
            have g3 : lexR a b = q3 := g3
            rw [h3] at g3
            subst g3
            conv => whnf
            refine ⟨⟨rfl, k1.1.t1, k1.1.d1, k1.1.t2, k1.1.d2, k1.2.1, k1.2.2⟩, ?_⟩
            conv => whnf
            refine ⟨⟨rfl, no.t1, no.d1, no.t2, no.d2, by decide, by decide⟩, ?_⟩
            conv => whnf
            refine Ask.i (fun _ => ?_) (fun c => nf n2 c)
            conv => whnf
            refine ⟨⟨rfl, k3.1.t1, k3.1.d1, k3.1.t2, k3.1.d2, k3.2.1, k3.2.2⟩, ?_⟩
            conv => whnf
            exact hk
        | some u2 =>
          have k2 := fitR_ok fA oA h2
          conv => whnf
          refine ⟨eA, ?_⟩
          conv => whnf
          intro q2 g2
          have g2 : fitR a most = q2 := g2
          rw [h2] at g2
          subst g2
          conv => whnf
          refine ⟨⟨eA, eB, oA⟩, ?_⟩
          conv => whnf
          rintro ⟨o3, n3⟩ h3
          have h3 : lexR a b = (o3, n3) := h3
          cases o3 with
          | none =>
            conv => whnf
            refine ⟨⟨eA, eB⟩, ?_⟩
            conv => whnf
            intro q3 g3
            have g3 : lexR a b = q3 := g3
            rw [h3] at g3
            subst g3
            conv => whnf
            refine ⟨⟨rfl, k1.1.t1, k1.1.d1, k1.1.t2, k1.1.d2, k1.2.1, k1.2.2⟩, ?_⟩
            conv => whnf
            refine ⟨⟨rfl, k2.1.t1, k2.1.d1, k2.1.t2, k2.1.d2, k2.2.1, k2.2.2⟩, ?_⟩
            conv => whnf
            refine ⟨⟨rfl, no.t1, no.d1, no.t2, no.d2, by decide, by decide⟩, ?_⟩
            conv => whnf
            exact fin hk (congrArg (fun z : Bool => SV.u (.c (Bo z))) (beq_self_eq_true n3).symm)
          | some u3 =>
            have k3 := lexR_ok fA oA h3
            conv => whnf
            refine ⟨⟨eA, eB⟩, ?_⟩
            conv => whnf
            intro q3 g3
            have g3 : lexR a b = q3 := g3
            rw [h3] at g3
            subst g3
            conv => whnf
            refine ⟨⟨rfl, k1.1.t1, k1.1.d1, k1.1.t2, k1.1.d2, k1.2.1, k1.2.2⟩, ?_⟩
            conv => whnf
            refine ⟨⟨rfl, k2.1.t1, k2.1.d1, k2.1.t2, k2.1.d2, k2.2.1, k2.2.2⟩, ?_⟩
            conv => whnf
            refine ⟨⟨rfl, k3.1.t1, k3.1.d1, k3.1.t2, k3.1.d2, k3.2.1, k3.2.2⟩, ?_⟩
            conv => whnf
            exact hk
    · exact hk.elim
  · exact hk.elim
end Sx
/-! MergeExps, at any input. -/
namespace Sx
open Go Go.Proofs Go.RowKit
set_option linter.unusedVariables false
set_option maxRecDepth 30000
theorem DpE.mono {k m : Nat} {e : ExpD} (h : DpE k e) (hk : k ≤ m) : DpE m e := ⟨h.1.mono hk, h.2.mono hk⟩
theorem deep2 (a b : ExpD) : ∃ k, a.Small → b.Small → DpE (k + 1) a ∧ DpE (k + 1) b := by
  by_cases ha : a.Small
  · by_cases hb : b.Small
    · obtain ⟨k, hk⟩ := Small.dpE ha
      obtain ⟨m, hm⟩ := Small.dpE hb
      exact ⟨k + m, fun _ _ => ⟨hk.mono (by omega), hm.mono (by omega)⟩⟩
    · exact ⟨0, fun _ h => absurd h hb⟩
  · exact ⟨0, fun h => absurd h ha⟩
theorem mergeExps_walk {H : Type} {enc : TypeId × Value → H} {W : World} {base : Nat} {spare : Nat → Bool} {held : Bool} {fuel fuel' : Nat} {cs cs' : List Value} {x x' : DataW H × List MemPlace}
    (h : DataW.trod enc Tryz.prog W base spare held fuel 48 cs = some x) (h' : DataW.trod enc Tryz.prog W base spare held fuel' 48 cs' = some x') (m : Int) (wm : (Lit.int .i64 m).wf = true) (hg : YtcmghblegllmlaaGreatDoor.Cd.Lays W) :
    Calls Tryz.prog 4 #[.agg cs.toArray, .agg cs'.toArray, .int .i64 m] W fun e W' => e = .returned (.bool true) ∧ Below W.heap.size W W' := by
  obtain ⟨a, tA, cA, uA, hd⟩ := open_exp2 h
  obtain ⟨b, tB, cB, uB, hd'⟩ := open_exp2 h'
  obtain ⟨k, hk⟩ := deep2 a b
  have := (lawExps_ok (k := k)).2 (fun s => s = .u (.c (Bo true))) [.a a.cells, .a b.cells, .c (I64 m)] (fun _ => False) W [.agg cs.toArray, .agg cs'.toArray, .int .i64 m]
    ⟨⟨tA, tB, uA, uB, hk⟩, rfl⟩ (GOk1 hg) (fun b h => h.elim) ⟨⟨cs, rfl, hd⟩, ⟨cs', rfl, hd'⟩, ⟨rfl, rfl⟩, trivial⟩
  refine this.mono fun e' W' ⟨r, v, h1, h2, h3, h4⟩ => ?_
  subst h2
  obtain ⟨rfl, _⟩ := h3
  exact ⟨h1, h4.below⟩
end Sx
