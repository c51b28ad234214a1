/- Part of the proof: a machine of states for walks, and contracts of functions over it. Conditions: those that each theorem names. -/
import Derived.Test.YtcjdbimojffggaaGreatDoorSx3
set_option linter.unusedVariables false
set_option linter.unusedSimpArgs false
/-! Blocks lent to a call. -/
namespace Sx
open Go
set_option linter.unusedVariables false
set_option linter.unusedSimpArgs false
def lentOwn (l : List Blk) : Own := fun n => bif Nat.ble 50000 n then l[n - 50000]? else none
def resOwn (outs : List (Option Blk)) (news : List Blk) : Own := fun n => bif Nat.ble 60000 n then news[n - 60000]? else bif Nat.ble 50000 n then (match outs[n - 50000]? with | some b => b | none => none) else none
def SoundF (P : Program) (T : Tab) (G : Glob) (f : FuncId) (g : List U → List Blk → Out (SV × List (Option Blk) × List Blk)) : Prop :=
  ∀ (K : SV × List (Option Blk) × List Blk → Prop) (us : List U) (lent : List Blk) (β : Nat → Option Nat) (X : Nat → Prop) (w : World) (vals : List Value), lent.length ≤ 10000 → (g us lent).wp K → OwnOk T G w β X (lentOwn lent) → GOk G w → (∀ b, X b → b < w.heap.size) →
    All2 (DenU T w β (Av X β (lentOwn lent)) (lentOwn lent)) us vals →
    Calls P f vals.toArray w fun e w' => ∃ r outs news β' v, e = .returned v ∧ K (r, outs, news) ∧ List.length outs = lent.length ∧ OwnOk T G w' β' X (resOwn outs news) ∧ DenS T w' β' (Av X β' (resOwn outs news)) (resOwn outs news) r v ∧
      Fr w w' (Mine β (lentOwn lent)) ∧ KeepL (lentOwn lent) w β (resOwn outs news) w' β' ∧ (∀ n b, resOwn outs news n ≠ none → β' n = some b → w.heap.size ≤ b ∨ Mine β (lentOwn lent) b)
def refsOf (l : List C) : List Nat := match l with | [] => [] | c :: r => match c.ref with | some n => n :: refsOf r | none => refsOf r
def Blk.refs : Blk → List Nat | .cells _ l => refsOf l | _ => []
def dfs (own : Own) : Nat → List Nat → List Nat → List Nat
  | 0, _, done => done
  | _ + 1, [], done => done
  | k + 1, n :: r, done => bif memN done n then dfs own k r done else match own n with
    | some B => dfs own k (r ++ B.refs) (done ++ [n])
    | none => dfs own k r done
/-- the names that a call is lent -/
def lentN (own : Own) (us : List U) : List Nat := dfs own 30 (refsOf (us.flatMap U.cells)) []
def lentOk (own : Own) (ns : List Nat) (us : List U) : Bool :=
  nodupN ns && (us.flatMap U.cells).all (okRef ns) && ns.all (fun n => match own n with | some B => B.okRef ns | none => false) && ns.length.ble 10000
def nameIn (ns : List Nat) (n : Nat) : Nat := 50000 + (match posN ns n with | some i => i | none => 0)
def lentBs (own : Own) (ns : List Nat) : Option (List Blk) := mapO (fun n => match own n with | some B => some (B.ren (nameIn ns)) | none => none) ns
def freshN (d j : Nat) : Nat := 100000 * (j + 1) + d
def unfresh (d n : Nat) : Option Nat := bif Nat.ble 100000 n && (n % 100000).beq d then some (n / 100000 - 1) else none
def nameOut (ns : List Nat) (d : Nat) (m : Nat) : Nat := bif Nat.ble 60000 m then freshN d (m - 60000) else ns.getD (m - 50000) 0
def outN (outs : List (Option Blk)) (σ : Nat → Nat) (i : Nat) : Option Blk := match outs[i]? with | some (some B) => some (B.ren σ) | _ => none
def own3 (own : Own) (ns : List Nat) (d : Nat) (outs : List (Option Blk)) (news : List Blk) : Own := fun n =>
  match posN ns n with
  | some i => outN outs (nameOut ns d) i
  | none => match unfresh d n with
    | some j => match news[j]? with | some B => some (B.ren (nameOut ns d)) | none => own n
    | none => own n
def ownC (own : Own) (live : Own) : Own := fun n => match own n with | some B => some (B.clean live) | none => none
def envC (env : Env) (live : Own) : Env := fun n => match env n with | some B => some (B.clean live) | none => none
def freeN (own : Own) (d : Nat) : Nat → Bool
  | 0 => true
  | k + 1 => (match own (freshN d k) with | none => true | some _ => false) && freeN own d k
theorem unfresh_fresh {d j : Nat} (hd : d < 100000) : unfresh d (freshN d j) = some j := by
  unfold unfresh freshN
  have h1 : Nat.ble 100000 (100000 * (j + 1) + d) = true := Nat.ble_eq_true_of_le (by omega)
  have h2 : (100000 * (j + 1) + d) % 100000 = d := by omega
  have h3 : (100000 * (j + 1) + d) / 100000 - 1 = j := by omega
  rw [h1, h2, beqs, h3]; rfl
theorem of_unfresh {d n j : Nat} (h : unfresh d n = some j) : n = freshN d j := by
  unfold unfresh at h
  cases hb : (Nat.ble 100000 n && (n % 100000).beq d) with
  | false => rw [hb] at h; cases h
  | true =>
    rw [hb] at h
    simp only [cond_true, Option.some.injEq] at h
    simp only [Bool.and_eq_true] at hb
    have h1 := Nat.le_of_ble_eq_true hb.1
    have h2 := Nat.eq_of_beq_eq_true hb.2
    unfold freshN
    omega
theorem freeN_get {own : Own} {d : Nat} : ∀ {k j : Nat}, freeN own d k = true → j < k → own (freshN d j) = none
  | 0, _, _, h => by omega
  | k + 1, j, hf, h => by
    simp only [freeN, Bool.and_eq_true] at hf
    rcases Nat.lt_succ_iff_lt_or_eq.1 h with h | rfl
    · exact freeN_get hf.2 h
    · have := hf.1
      split at this
      · assumption
      · cases this
theorem lentOwn_at {l : List Blk} {i : Nat} : lentOwn l (50000 + i) = l[i]? := by
  have : Nat.ble 50000 (50000 + i) = true := Nat.ble_eq_true_of_le (by omega)
  simp only [lentOwn, this, cond_true, Nat.add_sub_cancel_left]
theorem lentOwn_some {l : List Blk} {n : Nat} {B : Blk} (h : lentOwn l n = some B) : ∃ i, n = 50000 + i ∧ l[i]? = some B := by
  unfold lentOwn at h
  cases hb : Nat.ble 50000 n with
  | false => rw [hb] at h; cases h
  | true =>
    rw [hb] at h
    exact ⟨n - 50000, by have := Nat.le_of_ble_eq_true hb; omega, h⟩
theorem resOwn_out {outs : List (Option Blk)} {news : List Blk} {i : Nat} (hi : i < 10000) : resOwn outs news (50000 + i) = (match outs[i]? with | some b => b | none => none) := by
  have h1 : Nat.ble 60000 (50000 + i) = false := by
    cases h : Nat.ble 60000 (50000 + i)
    · rfl
    · have := Nat.le_of_ble_eq_true h; omega
  have h2 : Nat.ble 50000 (50000 + i) = true := Nat.ble_eq_true_of_le (by omega)
  simp only [resOwn, h1, h2, cond_true, cond_false, Nat.add_sub_cancel_left]
theorem resOwn_new {outs : List (Option Blk)} {news : List Blk} {j : Nat} : resOwn outs news (60000 + j) = news[j]? := by
  have h1 : Nat.ble 60000 (60000 + j) = true := Nat.ble_eq_true_of_le (by omega)
  simp only [resOwn, h1, cond_true, Nat.add_sub_cancel_left]
theorem resOwn_some {outs : List (Option Blk)} {news : List Blk} {n : Nat} {B : Blk} (ho : outs.length ≤ 10000) (h : resOwn outs news n = some B) : (∃ i, n = 50000 + i ∧ i < 10000 ∧ outs[i]? = some (some B)) ∨ (∃ j, n = 60000 + j ∧ news[j]? = some B) := by
  unfold resOwn at h
  cases hb : Nat.ble 60000 n with
  | true =>
    rw [hb] at h
    exact .inr ⟨n - 60000, by have := Nat.le_of_ble_eq_true hb; omega, h⟩
  | false =>
    rw [hb] at h
    simp only [cond_false] at h
    cases hb2 : Nat.ble 50000 n with
    | false => rw [hb2] at h; cases h
    | true =>
      rw [hb2] at h
      simp only [cond_true] at h
      split at h
      · rename_i b hb3
        subst h
        have h3 := (List.getElem?_eq_some_iff.1 hb3).1
        exact .inl ⟨n - 50000, by have := Nat.le_of_ble_eq_true hb2; omega, by omega, hb3⟩
      · cases h
theorem mapO_at {α β : Type} {f : α → Option β} : ∀ {l : List α} {m : List β}, mapO f l = some m → ∀ {i : Nat} {x : α}, l[i]? = some x → ∃ y, m[i]? = some y ∧ f x = some y
  | [], m, h, i, y, hi => by simp at hi
  | a :: l, m, h, i, y, hi => by
    simp only [mapO] at h
    split at h
    · rename_i b hb
      split at h
      · rename_i l' hl
        obtain rfl := Option.some.inj h
        rcases i with _ | i
        · simp only [List.getElem?_cons_zero, Option.some.injEq] at hi
          subst hi
          exact ⟨b, rfl, hb⟩
        · simp only [List.getElem?_cons_succ] at hi ⊢
          exact mapO_at hl hi
      · cases h
    · cases h
theorem Blk.ren_like {ρ : Nat → Nat} (B : Blk) : (∀ t l, B = .cells t l → ∃ l', B.ren ρ = .cells t l') ∧ (∀ t x, B = .row t x → B.ren ρ = .row t x) ∧ (∀ t l, B = .map t l → B.ren ρ = .map t l) := by
  refine ⟨?_, ?_, ?_⟩ <;> rintro t l rfl
  · exact ⟨_, rfl⟩
  · rfl
  · rfl
section
variable {E : Ctx} {β : Nat → Option Nat} {env : Env} {own : Own} {a : Act} {w w' : World} {T : Tab} {A A' : Nat → Prop}
/-- what the callee is given -/
theorem lend (ho : OwnOk E.T E.G w β E.X own) {ns : List Nat} {lent : List Blk} {us : List U} {vals : List Value} (hok : lentOk own ns us = true) (hl : lentBs own ns = some lent) (hu : All2 (DenU E.T w β (Av E.X β own) own) us vals) :
    ∃ βc : Nat → Option Nat, ∃ Xc : Nat → Prop, (∀ i n, ns[i]? = some n → βc (50000 + i) = β n) ∧ (∀ b, Av Xc βc (lentOwn lent) b ↔ Av E.X β own b) ∧ (∀ b, Xc b ↔ E.X b ∨ ∃ n, own n ≠ none ∧ memN ns n = false ∧ β n = some b) ∧
      OwnOk E.T E.G w βc Xc (lentOwn lent) ∧ All2 (DenU E.T w βc (Av Xc βc (lentOwn lent)) (lentOwn lent)) (us.map (U.ren (nameIn ns))) vals ∧
      (∀ b, Mine βc (lentOwn lent) b → ∃ n, own n ≠ none ∧ memN ns n = true ∧ β n = some b) ∧ (∀ i n, ns[i]? = some n → ∃ B, own n = some B ∧ lentOwn lent (50000 + i) = some (B.ren (nameIn ns))) := by
  simp only [lentOk, Bool.and_eq_true] at hok
  obtain ⟨⟨⟨hnd, hus⟩, hbs⟩, hlen⟩ := hok
  let βc : Nat → Option Nat := fun m => if 50000 ≤ m then (ns[m - 50000]?).bind β else none
  let Xc : Nat → Prop := fun b => E.X b ∨ ∃ n, own n ≠ none ∧ memN ns n = false ∧ β n = some b
  have b1 : ∀ i n, ns[i]? = some n → βc (50000 + i) = β n := by
    intro i n hi
    simp only [βc, if_pos (show 50000 ≤ 50000 + i from by omega), Nat.add_sub_cancel_left, hi, Option.bind_some]
  have lat : ∀ i n, ns[i]? = some n → ∃ B, own n = some B ∧ lentOwn lent (50000 + i) = some (B.ren (nameIn ns)) := by
    intro i n hi
    obtain ⟨y, h1, h2⟩ := mapO_at hl hi
    split at h2
    · rename_i B hB
      obtain rfl := Option.some.inj h2
      exact ⟨B, hB, by rw [lentOwn_at, h1]⟩
    · cases h2
  have lof : ∀ m, lentOwn lent m ≠ none → ∃ i n, m = 50000 + i ∧ ns[i]? = some n ∧ own n ≠ none ∧ βc m = β n := by
    intro m hm
    cases hc : lentOwn lent m with
    | none => exact absurd hc hm
    | some B =>
      obtain ⟨i, rfl, hi⟩ := lentOwn_some hc
      obtain ⟨n, hn, hf⟩ := mapO_get hl hi
      split at hf
      · rename_i B0 hB0
        exact ⟨i, n, rfl, hn, by simp [hB0], b1 i n hn⟩
      · cases hf
  have hA : ∀ b, Av Xc βc (lentOwn lent) b ↔ Av E.X β own b := by
    intro b
    constructor
    · rintro ((hx | ⟨n, h1, h2, h3⟩) | ⟨m, h1, h2⟩)
      · exact .inl hx
      · exact .inr ⟨n, h1, h3⟩
      · obtain ⟨i, n, rfl, hn, ho, e⟩ := lof m h1
        exact .inr ⟨n, ho, by rw [← e]; exact h2⟩
    · rintro (hx | ⟨n, h1, h2⟩)
      · exact .inl (.inl hx)
      · cases hm : memN ns n with
        | false => exact .inl (.inr ⟨n, h1, hm, h2⟩)
        | true =>
          obtain ⟨i, hi⟩ := posN_mem hm
          have hg := posN_get hi
          obtain ⟨B, _, hB⟩ := lat i n hg
          exact .inr ⟨50000 + i, by simp [hB], by rw [b1 i n hg]; exact h2⟩
  have s : Stay w (Av E.X β own) w (Av Xc βc (lentOwn lent)) := ⟨Nat.le_refl _, fun b _ hb => ⟨rfl, fun hh => hb ((hA b).1 hh)⟩⟩
  have hρ : ∀ n B, memN ns n = true → own n = some B → βc (nameIn ns n) = β n ∧ ∃ B', lentOwn lent (nameIn ns n) = some B' ∧ (∀ t l, B = .cells t l → ∃ l', B' = .cells t l') ∧ (∀ t x, B = .row t x → B' = .row t x) ∧ (∀ t l, B = .map t l → B' = .map t l) := by
    intro n B hm hB
    obtain ⟨i, hi⟩ := posN_mem hm
    have hg := posN_get hi
    have e : nameIn ns n = 50000 + i := by simp only [nameIn, hi]
    obtain ⟨B0, h1, h2⟩ := lat i n hg
    rw [hB] at h1
    obtain rfl := Option.some.inj h1
    rw [e]
    exact ⟨b1 i n hg, _, h2, B.ren_like⟩
  have hC : ∀ {c : C} {v : Value}, okRef ns c = true → DenC E.T w β (Av E.X β own) own c v → DenC E.T w βc (Av Xc βc (lentOwn lent)) (lentOwn lent) (c.ren (nameIn ns)) v := by
    intro c v hok hc
    refine DenC.ren s rfl (fun n B hr hB => hρ n B ?_ hB) hc
    unfold okRef at hok
    rw [hr] at hok
    exact hok
  have hCs : ∀ {l : List C} {vs : List Value}, l.all (okRef ns) = true → All2 (DenC E.T w β (Av E.X β own) own) l vs → All2 (DenC E.T w βc (Av Xc βc (lentOwn lent)) (lentOwn lent)) (l.map (C.ren (nameIn ns))) vs := by
    intro l vs hall h2
    refine All2.of_get (by simpa using h2.length) fun i c v h3 h4 => ?_
    simp only [List.getElem?_map, Option.map_eq_some_iff] at h3
    obtain ⟨c0, h5, rfl⟩ := h3
    obtain ⟨v', h6, h7⟩ := h2.get h5
    rw [h4] at h6
    obtain rfl := Option.some.inj h6
    exact hC (List.all_eq_true.1 hall c0 (List.mem_of_getElem? h5)) h7
  refine ⟨βc, Xc, b1, hA, fun b => Iff.rfl, ⟨?_, ?_, ?_⟩, ?_, ?_, lat⟩
  · intro m B hm
    obtain ⟨i, n, rfl, hn, ho', e⟩ := lof m (by simp [hm])
    obtain ⟨B0, h1, h2⟩ := lat i n hn
    rw [h2] at hm
    obtain rfl := Option.some.inj hm
    have hb := ho.blk n B0 h1
    have hrefs : B0.okRef ns = true := by
      have := List.all_eq_true.1 hbs n (List.mem_of_getElem? hn)
      simpa [h1] using this
    cases B0 with
    | cells t l =>
      obtain ⟨b, cs, c1, c2, c3⟩ := hb
      exact ⟨b, cs, e.trans c1, c2, hCs hrefs c3⟩
    | row t x =>
      obtain ⟨cs, c1, c2⟩ := hb
      exact ⟨cs, c1.stay s, by rw [e]; exact c2⟩
    | map t l =>
      obtain ⟨b, es, clock, c1, c2, c3⟩ := hb
      exact ⟨b, es, clock, e.trans c1, c2, c3.stay s⟩
  · intro m m' b h1 h2 h3 h4
    obtain ⟨i, n, rfl, hn, ho1, e1⟩ := lof m h1
    obtain ⟨i', n', rfl, hn', ho2, e2⟩ := lof m' h2
    rw [e1] at h3; rw [e2] at h4
    have := ho.inj n n' b ho1 ho2 h3 h4
    subst this
    have p1 := nodupN_pos hnd hn
    have p2 := nodupN_pos hnd hn'
    rw [p1] at p2
    rw [Option.some.inj p2]
  · intro m b h1 h2
    obtain ⟨i, n, rfl, hn, ho1, e1⟩ := lof m h1
    rw [e1] at h2
    have hloc := ho.loc n b ho1 h2
    refine ⟨hloc.1, ?_, hloc.2.2⟩
    rintro (hx | ⟨n', h3, h4, h5⟩)
    · exact hloc.2.1 hx
    · have := ho.inj n n' b ho1 h3 h2 h5
      subst this
      rw [memN_of_get hn] at h4
      cases h4
  · refine All2.of_get (by simpa using hu.length) fun i u v h3 h4 => ?_
    simp only [List.getElem?_map, Option.map_eq_some_iff] at h3
    obtain ⟨u0, h5, rfl⟩ := h3
    obtain ⟨v', h6, h7⟩ := hu.get h5
    rw [h4] at h6
    obtain rfl := Option.some.inj h6
    have hall : u0.cells.all (okRef ns) = true := List.all_eq_true.2 fun c hc => List.all_eq_true.1 hus c (List.mem_flatMap.2 ⟨u0, List.mem_of_getElem? h5, hc⟩)
    cases u0 with
    | c x => exact hC (by simpa [U.cells] using hall) h7
    | a l => obtain ⟨cs, e1, e2⟩ := h7; exact ⟨cs, e1, hCs hall e2⟩
  · rintro b ⟨m, h1, h2⟩
    obtain ⟨i, n, rfl, hn, ho1, e1⟩ := lof m h1
    exact ⟨n, ho1, memN_of_get hn, by rw [← e1]; exact h2⟩
end
end Sx
/-! What comes back from a call that was lent blocks. -/
namespace Sx
open Go
set_option linter.unusedVariables false
set_option linter.unusedSimpArgs false
section
variable {E : Ctx} {β : Nat → Option Nat} {env : Env} {own : Own} {a : Act} {w w' : World} {T : Tab} {A A' : Nat → Prop}
theorem Like.trans {w0 : World} {β0 : Nat → Option Nat} {n : Nat} {B0 B B4 : Blk} (h1 : Like w0 β0 n w B0 B) (e : β n = β0 n) (h2 : Like w β n w' B B4) : Like w0 β0 n w' B0 B4 := by
  cases B0 with
  | cells t l => cases B with
    | cells t2 l2 => cases B4 with
      | cells t3 l3 => trivial
      | _ => exact h2.elim
    | _ => exact h1.elim
  | row t x => cases B with
    | row t2 x2 => cases B4 with
      | row t3 x3 =>
        obtain ⟨a1, a2, a3⟩ := h1
        obtain ⟨b1, b2, b3⟩ := h2
        refine ⟨b1.trans a1, b2.trans a2, fun b cs te hb hc => ?_⟩
        obtain ⟨cs2, c1, c2⟩ := a3 b cs te hb hc
        obtain ⟨cs3, c3, c4⟩ := b3 b cs2 te (e.trans hb) c1
        exact ⟨cs3, c3, c4.trans c2⟩
      | _ => exact h2.elim
    | _ => exact h1.elim
  | map t l => cases B with
    | map t2 l2 => cases B4 with
      | map t3 l3 => exact Eq.trans h2 h1
      | _ => exact h2.elim
    | _ => exact h1.elim
theorem clean_id {live : Own} {c : C} {v : Value} (hl : ∀ n, own n ≠ none → live n ≠ none) (h : DenC T w β A own c v) : c.clean live = c := by
  have key : ∀ n, c.ref = some n → own n ≠ none → c.clean live = c := by
    intro n hr hn
    unfold C.clean
    rw [hr]
    cases hc : live n with
    | none => exact absurd hc (hl n hn)
    | some B => simp only [hc]
  cases c with
  | p n off => obtain ⟨b, t, l, h1, _⟩ := h; exact key n rfl (by simp [h1])
  | r n t => obtain ⟨x, h1, _⟩ := h; exact key n rfl (by simp [h1])
  | q n i off => obtain ⟨t, x, b, h1, _⟩ := h; exact key n rfl (by simp [h1])
  | m n t => obtain ⟨l, b, h1, _⟩ := h; exact key n rfl (by simp [h1])
  | _ => rfl
theorem receive (h : Rel E β env own a w) {ns : List Nat} {lent : List Blk} {us : List U} {βc : Nat → Option Nat} {Xc : Nat → Prop} {outs : List (Option Blk)} {news : List Blk} {β' : Nat → Option Nat} {r : SV} {v : Value} {d : Nat}
    (hok : lentOk own ns us = true) (hl : lentBs own ns = some lent) (b1 : ∀ i n, ns[i]? = some n → βc (50000 + i) = β n) (hA : ∀ b, Av Xc βc (lentOwn lent) b ↔ Av E.X β own b)
    (hX : ∀ b, Xc b ↔ E.X b ∨ ∃ n, own n ≠ none ∧ memN ns n = false ∧ β n = some b) (hM : ∀ b, Mine βc (lentOwn lent) b → ∃ n, own n ≠ none ∧ memN ns n = true ∧ β n = some b)
    (lat : ∀ i n, ns[i]? = some n → ∃ B, own n = some B ∧ lentOwn lent (50000 + i) = some (B.ren (nameIn ns)))
    (hlen : outs.length = lent.length) (ho2 : OwnOk E.T E.G w' β' Xc (resOwn outs news)) (hr : DenS E.T w' β' (Av Xc β' (resOwn outs news)) (resOwn outs news) r v)
    (fr : Fr w w' (Mine βc (lentOwn lent))) (kl : KeepL (lentOwn lent) w βc (resOwn outs news) w' β') (nb : ∀ n b, resOwn outs news n ≠ none → β' n = some b → w.heap.size ≤ b ∨ Mine βc (lentOwn lent) b)
    (hd : d < 100000) (hfree : freeN own d news.length = true) (hhi : ∀ n, 100000 ≤ n → E.own0 n = none) :
    ∃ β4, Rel E β4 (envC env (own3 own ns d outs news)) (ownC (own3 own ns d outs news) (own3 own ns d outs news)) a w' ∧
      DenS E.T w' β4 (Av E.X β4 (ownC (own3 own ns d outs news) (own3 own ns d outs news))) (ownC (own3 own ns d outs news) (own3 own ns d outs news)) (r.ren (nameOut ns d)) v := by
  have hok' := hok
  simp only [lentOk, Bool.and_eq_true] at hok'
  obtain ⟨⟨⟨hnd, hus⟩, hbs⟩, hlen0⟩ := hok'
  have hns : ns.length ≤ 10000 := Nat.le_of_ble_eq_true hlen0
  have hll : lent.length = ns.length := mapO_len hl
  -- the new names' blocks
  generalize ho3 : own3 own ns d outs news = o3
  let β4 : Nat → Option Nat := fun n => match posN ns n with
    | some i => β' (50000 + i)
    | none => match unfresh d n with
      | some j => if j < news.length then β' (60000 + j) else β n
      | none => β n
  have ownsome : ∀ i n, ns[i]? = some n → own n ≠ none := fun i n hi => by obtain ⟨B, h1, _⟩ := lat i n hi; simp [h1]
  have freshout : ∀ j, j < news.length → posN ns (freshN d j) = none := by
    intro j hj
    cases hp : posN ns (freshN d j) with
    | none => rfl
    | some i => exact absurd (freeN_get hfree hj) (ownsome i _ (posN_get hp))
  -- the three kinds of names
  have k1 : ∀ i n, ns[i]? = some n → o3 n = outN outs (nameOut ns d) i ∧ β4 n = β' (50000 + i) := by
    intro i n hi
    have hp := nodupN_pos hnd hi
    exact ⟨by rw [← ho3]; simp only [own3, hp], by simp only [β4, hp]⟩
  have k2 : ∀ j B, news[j]? = some B → o3 (freshN d j) = some (B.ren (nameOut ns d)) ∧ β4 (freshN d j) = β' (60000 + j) := by
    intro j B hj
    have hlt := (List.getElem?_eq_some_iff.1 hj).1
    have hp := freshout j hlt
    exact ⟨by rw [← ho3]; simp only [own3, hp, unfresh_fresh hd, hj], by simp only [β4, hp, unfresh_fresh hd, if_pos hlt]⟩
  have k3 : ∀ n, posN ns n = none → (∀ j, j < news.length → n ≠ freshN d j) → o3 n = own n ∧ β4 n = β n := by
    intro n hp hf
    cases hu : unfresh d n with
    | none => exact ⟨by rw [← ho3]; simp only [own3, hp, hu], by simp only [β4, hp, hu]⟩
    | some j =>
      have e := of_unfresh hu
      have hge : ¬ j < news.length := fun hlt => hf j hlt e
      have hg : news[j]? = none := List.getElem?_eq_none (by omega)
      exact ⟨by rw [← ho3]; simp only [own3, hp, hu, hg], by simp only [β4, hp, hu, if_neg hge]⟩
  -- a live name is of one kind
  have kind : ∀ n, o3 n ≠ none → (∃ i B, ns[i]? = some n ∧ outs[i]? = some (some B) ∧ o3 n = some (B.ren (nameOut ns d)) ∧ β4 n = β' (50000 + i) ∧ resOwn outs news (50000 + i) = some B) ∨
      (∃ j B, news[j]? = some B ∧ n = freshN d j ∧ o3 n = some (B.ren (nameOut ns d)) ∧ β4 n = β' (60000 + j) ∧ resOwn outs news (60000 + j) = some B) ∨
      (posN ns n = none ∧ own n ≠ none ∧ o3 n = own n ∧ β4 n = β n) := by
    intro n hn
    cases hp : posN ns n with
    | some i =>
      have hi := posN_get hp
      obtain ⟨e1, e2⟩ := k1 i n hi
      rw [e1] at hn
      unfold outN at hn e1
      split at hn
      · rename_i B hB
        rw [hB] at e1
        have hlt := (List.getElem?_eq_some_iff.1 hi).1
        exact .inl ⟨i, B, hi, hB, e1, e2, by rw [resOwn_out (by omega), hB]⟩
      · exact absurd rfl hn
    | none =>
      by_cases hf : ∃ j, j < news.length ∧ n = freshN d j
      · obtain ⟨j, hj, rfl⟩ := hf
        have hB := List.getElem?_eq_getElem hj
        obtain ⟨e1, e2⟩ := k2 j _ hB
        exact .inr (.inl ⟨j, _, hB, rfl, e1, e2, by rw [resOwn_new, hB]⟩)
      · obtain ⟨e1, e2⟩ := k3 n hp fun j hj e => hf ⟨j, hj, e⟩
        exact .inr (.inr ⟨rfl, by rw [← e1]; exact hn, e1, e2⟩)
  have oC : ∀ n, ownC o3 o3 n ≠ none ↔ o3 n ≠ none := by
    intro n
    unfold ownC
    cases o3 n <;> simp
  have memf : ∀ n, posN ns n = none → memN ns n = false := by
    intro n hp
    cases hm : memN ns n with
    | false => rfl
    | true => obtain ⟨i, hi⟩ := posN_mem hm; rw [hp] at hi; cases hi
  have av1 : ∀ b, Av E.X β4 (ownC o3 o3) b → Av Xc β' (resOwn outs news) b := by
    rintro b (hx | ⟨n, h1, h2⟩)
    · exact .inl ((hX b).2 (.inl hx))
    · rcases kind n ((oC n).1 h1) with ⟨i, B, p1, p2, p3, p4, p5⟩ | ⟨j, B, p1, p2, p3, p4, p5⟩ | ⟨p1, p2, p3, p4⟩
      · exact .inr ⟨50000 + i, by simp [p5], by rw [← p4]; exact h2⟩
      · exact .inr ⟨60000 + j, by simp [p5], by rw [← p4]; exact h2⟩
      · exact .inl ((hX b).2 (.inr ⟨n, p2, memf n p1, by rw [← p4]; exact h2⟩))
  have notold : ∀ b, b < w.heap.size → ¬ Av E.X β own b → ¬ Mine βc (lentOwn lent) b := by
    rintro b _ hn ⟨m, h1, h2⟩
    exact hn ((hA b).1 (.inr ⟨m, h1, h2⟩))
  have s : Stay w (Av E.X β own) w' (Av E.X β4 (ownC o3 o3)) := by
    refine ⟨fr.size, fun b hb hn => ⟨fr.heap b hb (notold b hb hn), fun hh => ?_⟩⟩
    rcases av1 b hh with hx | ⟨m, h1, h2⟩
    · rcases (hX b).1 hx with hx | ⟨n, h1, _, h3⟩
      · exact hn (.inl hx)
      · exact hn (.inr ⟨n, h1, h3⟩)
    · rcases nb m b h1 h2 with h3 | h3
      · omega
      · exact notold b hb hn h3
  have s2 : Stay w' (Av Xc β' (resOwn outs news)) w' (Av E.X β4 (ownC o3 o3)) := ⟨Nat.le_refl _, fun b _ hn => ⟨rfl, fun hh => hn (av1 b hh)⟩⟩
  have blkC : ∀ n B, o3 n = some B → ownC o3 o3 n = some (B.clean o3) := fun n B hB => by simp only [ownC, hB]
  have notlent : ∀ n b, posN ns n = none → own n ≠ none → β n = some b → w'.heap[b]? = w.heap[b]? := by
    intro n b hp hn hb
    refine fr.heap b (h.blks.loc n b hn hb).1 fun hm => ?_
    obtain ⟨n', h1, h2, h3⟩ := hM b hm
    have := h.blks.inj n n' b hn h1 hb h3
    subst this
    rw [memf n hp] at h2
    cases h2
  have live : ∀ n B B4, own n = some B → ownC o3 o3 n = some B4 → β4 n = β n ∧ Like w β n w' B B4 := by
    intro n B B4 hB hB4
    rcases kind n ((oC n).1 (by simp [hB4])) with ⟨i, B2, p1, p2, p3, p4, p5⟩ | ⟨j, B2, p1, rfl, p3, p4, p5⟩ | ⟨p1, p2, p3, p4⟩
    · rw [blkC n _ p3] at hB4
      obtain rfl := Option.some.inj hB4
      obtain ⟨B0, q1, q2⟩ := lat i n p1
      rw [hB] at q1
      obtain rfl := Option.some.inj q1
      obtain ⟨e1, e2⟩ := kl (50000 + i) _ _ q2 p5
      refine ⟨by rw [p4, e1, b1 i n p1], ?_⟩
      cases B with
      | cells t l => cases B2 with
        | cells t2 l2 => trivial
        | _ => exact e2.elim
      | row t x => cases B2 with
        | row t2 x2 =>
          obtain ⟨c1, c2, c3⟩ := e2
          exact ⟨c1, c2, fun b cs te hb hc => c3 b cs te (by rw [b1 i n p1]; exact hb) hc⟩
        | _ => exact e2.elim
      | map t l => cases B2 with
        | map t2 l2 => exact e2
        | _ => exact e2.elim
    · have := freeN_get hfree (List.getElem?_eq_some_iff.1 p1).1
      rw [this] at hB
      cases hB
    · rw [blkC n B (p3.trans hB)] at hB4
      obtain rfl := Option.some.inj hB4
      refine ⟨p4, ?_⟩
      cases B with
      | cells t l => trivial
      | row t x => exact ⟨rfl, rfl, fun b cs te hb hc => ⟨cs, (notlent n b p1 p2 hb).trans hc, rfl⟩⟩
      | map t l => exact Eq.refl t
  have hC : ∀ {c : C} {v : Value}, DenC E.T w β (Av E.X β own) own c v → DenC E.T w' β4 (Av E.X β4 (ownC o3 o3)) (ownC o3 o3) (c.clean o3) v :=
    fun hc => DenC.cleaned s (fun n hn => (oC n).2 hn) live hc
  have σ : ∀ n B, resOwn outs news n = some B → β4 (nameOut ns d n) = β' n ∧ ∃ B', ownC o3 o3 (nameOut ns d n) = some B' ∧ (∀ t l, B = .cells t l → ∃ l', B' = .cells t l') ∧ (∀ t x, B = .row t x → B' = .row t x) ∧ (∀ t l, B = .map t l → B' = .map t l) := by
    intro n B hB
    have shape : (∀ t l, B = .cells t l → ∃ l', (B.ren (nameOut ns d)).clean o3 = .cells t l') ∧ (∀ t x, B = .row t x → (B.ren (nameOut ns d)).clean o3 = .row t x) ∧ (∀ t l, B = .map t l → (B.ren (nameOut ns d)).clean o3 = .map t l) := by
      refine ⟨?_, ?_, ?_⟩ <;> rintro t l rfl
      · exact ⟨_, rfl⟩
      · rfl
      · rfl
    rcases resOwn_some (by omega) hB with ⟨i, rfl, hi, ho⟩ | ⟨j, rfl, hj⟩
    · have hlt := (List.getElem?_eq_some_iff.1 ho).1
      have hg : ns[i]? = some ns[i] := List.getElem?_eq_getElem (by omega)
      have e : nameOut ns d (50000 + i) = ns[i] := by
        have hb : Nat.ble 60000 (50000 + i) = false := by
          cases hh : Nat.ble 60000 (50000 + i)
          · rfl
          · have := Nat.le_of_ble_eq_true hh; omega
        simp only [nameOut, hb, cond_false, Nat.add_sub_cancel_left, List.getD, hg, Option.getD_some]
      obtain ⟨e1, e2⟩ := k1 i _ hg
      unfold outN at e1
      rw [ho] at e1
      rw [e]
      exact ⟨e2, _, blkC _ _ e1, shape⟩
    · have e : nameOut ns d (60000 + j) = freshN d j := by
        have hb : Nat.ble 60000 (60000 + j) = true := Nat.ble_eq_true_of_le (by omega)
        simp only [nameOut, hb, cond_true, Nat.add_sub_cancel_left]
      obtain ⟨e1, e2⟩ := k2 j B hj
      rw [e]
      exact ⟨e2, _, blkC _ _ e1, shape⟩
  have hR : ∀ {c : C} {v : Value}, DenC E.T w' β' (Av Xc β' (resOwn outs news)) (resOwn outs news) c v → DenC E.T w' β4 (Av E.X β4 (ownC o3 o3)) (ownC o3 o3) (c.ren (nameOut ns d)) v :=
    fun hc => DenC.ren s2 rfl (fun n B _ hB => σ n B hB) hc
  have hRc : ∀ {c : C} {v : Value}, DenC E.T w' β' (Av Xc β' (resOwn outs news)) (resOwn outs news) c v → DenC E.T w' β4 (Av E.X β4 (ownC o3 o3)) (ownC o3 o3) ((c.ren (nameOut ns d)).clean o3) v := by
    intro c v hc
    have h1 := hR hc
    rwa [clean_id (fun n hn => (oC n).1 hn) h1]
  have hRU : ∀ {c : U} {v : Value}, DenU E.T w' β' (Av Xc β' (resOwn outs news)) (resOwn outs news) c v → DenU E.T w' β4 (Av E.X β4 (ownC o3 o3)) (ownC o3 o3) (c.ren (nameOut ns d)) v := by
    intro c v hc
    cases c with
    | c x => exact hR hc
    | a l => obtain ⟨cs, e1, e2⟩ := hc; exact ⟨cs, e1, e2.map_left (C.ren (nameOut ns d)) fun _ _ => hR⟩
  have blkR : ∀ n m B, o3 n = some (B.ren (nameOut ns d)) → β4 n = β' m → BlkOk E.T w' β' (Av Xc β' (resOwn outs news)) (resOwn outs news) m B → BlkOk E.T w' β4 (Av E.X β4 (ownC o3 o3)) (ownC o3 o3) n ((B.ren (nameOut ns d)).clean o3) := by
    intro n m B hn hβ hb
    cases B with
    | cells t l =>
      obtain ⟨b, cs, c1, c2, c3⟩ := hb
      refine ⟨b, cs, hβ.trans c1, c2, ?_⟩
      have := c3.map_left (fun c => (c.ren (nameOut ns d)).clean o3) fun _ _ => hRc
      have e : (l.map (C.ren (nameOut ns d))).map (C.clean o3) = l.map (fun c => (c.ren (nameOut ns d)).clean o3) := by rw [List.map_map]; rfl
      show All2 _ ((l.map (C.ren (nameOut ns d))).map (C.clean o3)) cs
      rw [e]
      exact this
    | row t x =>
      obtain ⟨cs, c1, c2⟩ := hb
      exact ⟨cs, c1.stay s2, by rw [hβ]; exact c2⟩
    | map t l =>
      obtain ⟨b, es, clock, c1, c2, c3⟩ := hb
      exact ⟨b, es, clock, hβ.trans c1, c2, c3.stay s2⟩
  refine ⟨β4, ⟨h.defers, h.size, ?_, ⟨?_, ?_, ?_⟩, ?_, ?_, ?_, h.xold, ?_⟩, ?_⟩
  · intro t sv hs
    unfold envC at hs
    split at hs
    · rename_i sv0 h0
      obtain rfl := Option.some.inj hs
      have hv := h.vals t sv0 h0
      have hU : ∀ {u : U} {v : Value}, DenU E.T w β (Av E.X β own) own u v → DenU E.T w' β4 (Av E.X β4 (ownC o3 o3)) (ownC o3 o3) (u.clean o3) v := by
        intro u v hu
        cases u with
        | c x => exact hC hu
        | a l => obtain ⟨cs, e1, e2⟩ := hu; exact ⟨cs, e1, e2.map_left (C.clean o3) fun _ _ => hC⟩
      cases sv0 with
      | u x => exact hU hv
      | t l => obtain ⟨vs, e1, e2⟩ := hv; exact ⟨vs, e1, e2.map_left (U.clean o3) fun _ _ => hU⟩
    · cases hs
  · intro n B hB
    rcases kind n ((oC n).1 (by simp [hB])) with ⟨i, B2, p1, p2, p3, p4, p5⟩ | ⟨j, B2, p1, rfl, p3, p4, p5⟩ | ⟨p1, p2, p3, p4⟩
    · rw [blkC n _ p3] at hB
      obtain rfl := Option.some.inj hB
      exact blkR n _ B2 p3 p4 (ho2.blk _ _ p5)
    · rw [blkC _ _ p3] at hB
      obtain rfl := Option.some.inj hB
      exact blkR _ _ B2 p3 p4 (ho2.blk _ _ p5)
    · cases hB0 : own n with
      | none => exact absurd hB0 p2
      | some B0 =>
        rw [blkC n B0 (p3.trans hB0)] at hB
        obtain rfl := Option.some.inj hB
        have hb := h.blks.blk n B0 hB0
        cases B0 with
        | cells t l =>
          obtain ⟨b, cs, c1, c2, c3⟩ := hb
          exact ⟨b, cs, p4.trans c1, (notlent n b p1 p2 c1).trans c2, c3.map_left (C.clean o3) fun _ _ => hC⟩
        | row t x =>
          obtain ⟨cs, c1, c2⟩ := hb
          refine ⟨cs, c1.stay s, ?_⟩
          rw [p4]
          cases hβ : β n with
          | none => rw [hβ] at c2; exact c2
          | some b => rw [hβ] at c2; obtain ⟨te, cap, c3, c4⟩ := c2; exact ⟨te, cap, (notlent n b p1 p2 hβ).trans c3, c4⟩
        | map t l =>
          obtain ⟨b, es, clock, c1, c2, c3⟩ := hb
          exact ⟨b, es, clock, p4.trans c1, (notlent n b p1 p2 c1).trans c2, c3.stay s⟩
  · intro n n' b h1 h2 h3 h4
    have src : ∀ n, ownC o3 o3 n ≠ none → β4 n = some b → (∃ m, resOwn outs news m ≠ none ∧ β' m = some b ∧ nameOut ns d m = n) ∨ (own n ≠ none ∧ β n = some b ∧ Xc b) := by
      intro n h1 h2
      rcases kind n ((oC n).1 h1) with ⟨i, B2, p1, p2, p3, p4, p5⟩ | ⟨j, B2, p1, rfl, p3, p4, p5⟩ | ⟨p1, p2, p3, p4⟩
      · refine .inl ⟨50000 + i, by simp [p5], by rw [← p4]; exact h2, ?_⟩
        have hlt := (List.getElem?_eq_some_iff.1 p1).1
        have hb : Nat.ble 60000 (50000 + i) = false := by
          cases hh : Nat.ble 60000 (50000 + i)
          · rfl
          · have := Nat.le_of_ble_eq_true hh; omega
        simp only [nameOut, hb, cond_false, Nat.add_sub_cancel_left, List.getD, p1, Option.getD_some]
      · refine .inl ⟨60000 + j, by simp [p5], by rw [← p4]; exact h2, ?_⟩
        have hb : Nat.ble 60000 (60000 + j) = true := Nat.ble_eq_true_of_le (by omega)
        simp only [nameOut, hb, cond_true, Nat.add_sub_cancel_left]
      · exact .inr ⟨p2, by rw [← p4]; exact h2, (hX b).2 (.inr ⟨n, p2, memf n p1, by rw [← p4]; exact h2⟩)⟩
    rcases src n h1 h3 with ⟨m, a1, a2, a3⟩ | ⟨a1, a2, a3⟩ <;> rcases src n' h2 h4 with ⟨m', c1, c2, c3⟩ | ⟨c1, c2, c3⟩
    · rw [← a3, ← c3, ho2.inj m m' b a1 c1 a2 c2]
    · exact absurd c3 (ho2.loc m b a1 a2).2.1
    · exact absurd a3 (ho2.loc m' b c1 c2).2.1
    · exact h.blks.inj n n' b a1 c1 a2 c2
  · intro n b h1 h2
    rcases kind n ((oC n).1 h1) with ⟨i, B2, p1, p2, p3, p4, p5⟩ | ⟨j, B2, p1, rfl, p3, p4, p5⟩ | ⟨p1, p2, p3, p4⟩
    · rw [p4] at h2
      have := ho2.loc _ b (by simp [p5]) h2
      exact ⟨this.1, fun hx => this.2.1 ((hX b).2 (.inl hx)), this.2.2⟩
    · rw [p4] at h2
      have := ho2.loc _ b (by simp [p5]) h2
      exact ⟨this.1, fun hx => this.2.1 ((hX b).2 (.inl hx)), this.2.2⟩
    · rw [p4] at h2
      have := h.blks.loc n b p2 h2
      exact ⟨Nat.lt_of_lt_of_le this.1 fr.size, this.2⟩
  · exact h.glob.fr fr fun b hb hm => by
      obtain ⟨n, h1, _, h3⟩ := hM b hm
      have := (h.blks.loc n b h1 h3).2.2
      omega
  · exact h.frame.trans fr fun x hx hm => by
      obtain ⟨n, h1, _, h3⟩ := hM x hm
      exact (h.mine n x h1 h3).resolve_left (by omega)
  · intro n b h1 h2
    have new : ∀ m, resOwn outs news m ≠ none → β' m = some b → E.w0.heap.size ≤ b ∨ E.L b := by
      intro m h3 h4
      rcases nb m b h3 h4 with h5 | h5
      · exact .inl (Nat.le_trans h.frame.size h5)
      · obtain ⟨n', q1, _, q3⟩ := hM b h5
        exact h.mine n' b q1 q3
    rcases kind n ((oC n).1 h1) with ⟨i, B2, p1, p2, p3, p4, p5⟩ | ⟨j, B2, p1, rfl, p3, p4, p5⟩ | ⟨p1, p2, p3, p4⟩
    · exact new (50000 + i) (by simp [p5]) (by rw [← p4]; exact h2)
    · exact new (60000 + j) (by simp [p5]) (by rw [← p4]; exact h2)
    · rw [p4] at h2; exact h.mine n b p2 h2
  · intro n B0 B4 h1 h2
    cases hB : own n with
    | none =>
      exfalso
      rcases kind n ((oC n).1 (by simp [h2])) with ⟨i, B2, p1, p2, p3, p4, p5⟩ | ⟨j, B2, p1, rfl, p3, p4, p5⟩ | ⟨p1, p2, p3, p4⟩
      · exact ownsome i n p1 hB
      · rw [hhi (freshN d j) (by unfold freshN; omega)] at h1; cases h1
      · exact p2 hB
    | some B =>
      obtain ⟨e1, e2⟩ := h.kept n B0 B h1 hB
      obtain ⟨e3, e4⟩ := live n B B4 hB h2
      exact ⟨e3.trans e1, e2.trans e1 e4⟩
  · cases r with
    | u x => exact hRU hr
    | t l => obtain ⟨vs, e1, e2⟩ := hr; exact ⟨vs, e1, e2.map_left (U.ren (nameOut ns d)) fun _ _ => hRU⟩
end
end Sx
/-! One operation. -/
namespace Sx
open Go
set_option linter.unusedVariables false
set_option linter.unusedSimpArgs false
def SoundS (P : Program) (T : Tab) (G : Glob) (f : FuncId) : Spec → Prop
  | .pure g => SoundP P T G f g
  | .full g => SoundF P T G f g
def AllSound (S : Pr) (G : Glob) : Prop := ∀ f sp, lookT S.specs f = some sp → Entr S.P f ∧ SoundS S.P S.T G f sp
def calleeF (env : Env) : Callee → Option FuncId
  | .value (.func f) => some f
  | .value x => match evV env x with
    | some (.func (.func f) a b) => bif a.isEmpty && b.isEmpty then some f else none
    | _ => none
  | _ => none
def opKp (g : List U → Out SV) (us : List U) (env : Env) (own : Own) : Out (SV × Env × Own) :=
  bif us.all U.noRef then (g us).bind fun r => .ret (r, env, own) else .fail
def forceN.{u} {ρ : Type u} : List Nat → (List Nat → ρ) → ρ
  | [], k => k []
  | a :: l, k => forceN l fun r => k (a :: r)
theorem forceN_eq.{u} {ρ : Type u} : ∀ (l : List Nat) (k : List Nat → ρ), forceN l k = k l
  | [], _ => rfl
  | a :: l, k => by rw [forceN, forceN_eq l]
def opKf (g : List U → List Blk → Out (SV × List (Option Blk) × List Blk)) (d : Nat) (us : List U) (env : Env) (own : Own) (ns : List Nat) : Out (SV × Env × Own) :=
  forceN ns fun ns => match lentBs own ns with
  | some lent => bif lentOk own ns us && d.ble 49999 then (g (us.map (U.ren (nameIn ns))) lent).bind fun x => match x with
      | (sv, outs, news) => bif freeN own d news.length && outs.length.beq lent.length then .ret (sv.ren (nameOut ns d), envC env (own3 own ns d outs news), ownC (own3 own ns d outs news) (own3 own ns d outs news)) else .fail
    else .fail
  | none => .fail
def opK (S : Pr) (env : Env) (own : Own) (o : Oper) : Out (SV × Env × Own) :=
  match o.op with
  | .call ⟨cal, args, _⟩ => match calleeF env cal with
    | some f => match lookT S.specs f, frzArgs args.toList 8 env own with
      | some (.pure g), some (us, env1, own1) => opKp g us env1 own1
      | some (.full g), some (us, env1, own1) => opKf g (o.dst.getD 0) us env1 own1 (lentN own1 us)
      | _, _ => .fail
    | none => .fail
  | _ => .fail
def newO (S : Pr) (o : Oper) (env : Env) (own : Own) : Out (SV × Env × Own) :=
  match o.dst with
  | some d => bif d.ble 49999 then (match own d with
    | none => (opN S own env d o).bind fun x => match x with | (c, b) => .ret (.u (.c c), env, fset own d b)
    | some _ => .fail) else .fail
  | none => .fail
def appO (S : Pr) (o : Oper) (env : Env) (own : Own) : Out (SV × Env × Own) :=
  match o.dst with
  | some d => bif d.ble 49999 then (opA S env own d o).bind (fun x => match x with | (c, e, o) => .ret (.u (.c c), e, o)) else .fail
  | none => .fail
def newM (S : Pr) (o : Oper) (env : Env) (own : Own) : Out (SV × Env × Own) :=
  match o.dst with
  | some d => bif d.ble 49999 then (match own d with
    | none => (opNM S d o).bind fun x => match x with | (c, b) => .ret (.u (.c c), env, fset own d b)
    | some _ => .fail) else .fail
  | none => .fail
def isRow (env : Env) (l : List Operand) : Bool := match l with
  | x :: _ => match evC env x with | some (.r _ _) => true | _ => false
  | _ => false
/-- one operation -/
def stepO (S : Pr) (o : Oper) (env : Env) (own : Own) : Out (SV × Env × Own) :=
  match o.op with
  | .alloc _ => newO S o env own
  | .box _ _ => newO S o env own
  | .makeSlice _ _ _ => newO S o env own
  | .store _ _ _ => (opS S env own o).bind fun own' => .ret (.t [], env, own')
  | .call ⟨.builtin .append, args, _⟩ => bif isRow env args.toList then appO S o env own else newO S o env own
  | .call ⟨.value _, _, _⟩ => opK S env own o
  | .makeMap _ _ => newM S o env own
  | .mapUpdate _ _ _ _ => (opM S env own o).bind fun own' => .ret (.t [], env, own')
  | _ => (opV S own env o).bind fun sv => .ret (sv, env, own)
section
variable {S : Pr} {E : Ctx} {β : Nat → Option Nat} {env : Env} {own : Own} {a : Act} {w : World}
theorem enter_run {P : Program} {o : Oper} {cal : Callee} {args : Array Operand} {ts : Array TypeId} {f : FuncId} (he : Entr P f) (ho : o.op = .call ⟨cal, args, ts⟩)
    (hc : ∃ x, cal = .value x ∧ a.eval x = .func (.func f) #[] #[]) : (execOp a.eval o).run P w = .ok (.enter f (args.map a.eval)) w := by
  obtain ⟨fn, h1, h2, h3⟩ := he
  obtain ⟨x, rfl, hx⟩ := hc
  have h4 : ¬ fn.body = none := by cases hb : fn.body <;> simp_all
  have h5 : ¬ fn.name = "runtime.NumGoroutine" := by simpa using h3
  simp [execOp, ho, resolve, hx, Deferred.ofValue, invoke, callFunc, h1, h5, h4]
theorem callee_eval (h : Rel E β env own a w) {cal : Callee} {f : FuncId} (hc : calleeF env cal = some f) : ∃ x, cal = .value x ∧ a.eval x = .func (.func f) #[] #[] := by
  unfold calleeF at hc
  split at hc
  · obtain rfl := Option.some.inj hc; exact ⟨_, rfl, rfl⟩
  · rename_i x _
    split at hc
    · rename_i f' p q h1
      cases hb : (p.isEmpty && q.isEmpty) with
      | false => rw [hb] at hc; cases hc
      | true =>
        rw [hb] at hc
        simp only [cond_true, Option.some.injEq] at hc
        subst hc
        simp only [Bool.and_eq_true, Array.isEmpty_iff] at hb
        exact ⟨x, rfl, by rw [(evV_eq h h1).1, hb.1, hb.2]⟩
    · cases hc
  · cases hc
theorem wp_of_value {P : Program} {o : Oper} {v : Value} {w' : World} {next : Act → World → Prop} {Q : Exit → Act → World → Prop} (hr : (execOp a.eval o).run P w = .ok (.value v) w') (h : next (a.put o.dst v) w') : o.wp P a w next Q := by
  unfold Oper.wp; rw [hr]; exact h
variable {G : Glob} (hT : TOk S.P S.tt) (hS : AllSound S G) (h : Rel E β env own a w) (hET : E.T = S.T) (hEG : E.G = G) (hlow : ∀ n, n < 50000 → E.own0 n = none) (hhi : ∀ n, 100000 ≤ n → E.own0 n = none)
include hET hEG hhi in
theorem kf_sound {o : Oper} {f : FuncId} {g : List U → List Blk → Out (SV × List (Option Blk) × List Blk)} {us : List U} {env1 : Env} {own1 : Own} {vals : Array Value} {d : Nat} {ns : List Nat} (hs : SoundF S.P S.T G f g) (hrun : (execOp a.eval o).run S.P w = .ok (.enter f vals) w)
    (hR : Rel E β env1 own1 a w) (hu : All2 (DenU E.T w β (Av E.X β own1) own1) us vals.toList) {K : SV × Env × Own → Prop} (hk : (opKf g d us env1 own1 ns).wp K) {next : Act → World → Prop} {Q : Exit → Act → World → Prop}
    (hn : ∀ sv env' own' β' v w', K (sv, env', own') → Rel E β' env' own' a w' → DenS E.T w' β' (Av E.X β' own') own' sv v → next (a.put o.dst v) w') : o.wp S.P a w next Q := by
  unfold opKf at hk
  rw [forceN_eq] at hk
  split at hk
  · rename_i lent hl
    obtain ⟨hb, hk1⟩ := wp_cond_fail hk
    simp only [Bool.and_eq_true] at hb
    obtain ⟨hok, hd⟩ := hb
    have hd := Nat.le_of_ble_eq_true hd
    rw [Out.wp_bind] at hk1
    obtain ⟨βc, Xc, b1, hA, hX, hO, hU, hM, lat⟩ := lend hR.blks hok hl hu
    have hll : lent.length = ns.length := mapO_len hl
    have hns : ns.length ≤ 10000 := by
      simp only [lentOk, Bool.and_eq_true] at hok
      exact Nat.le_of_ble_eq_true hok.2
    have hold : ∀ b, Xc b → b < w.heap.size := by
      intro b hb
      rcases (hX b).1 hb with hx | ⟨n, h3, _, h4⟩
      · have := hR.xold b hx; have := hR.frame.size; omega
      · exact (hR.blks.loc n b h3 h4).1
    rw [hET, hEG] at hO
    rw [hET] at hU
    have hc := hs _ _ lent βc Xc w _ (by omega) hk1 hO (by rw [← hEG]; exact hR.glob) hold hU
    unfold Oper.wp
    rw [hrun, Oper.upon_enter]
    refine hc.mono fun e w' ⟨r, outs, news, β', v, e1, e2, e3, e4, e5, e6, e7, e8⟩ => ?_
    subst e1
    obtain ⟨hb2, hk2⟩ := wp_cond_fail e2
    simp only [Bool.and_eq_true] at hb2
    rw [← hET] at e4 e5
    rw [← hEG] at e4
    obtain ⟨β4, hR4, hD4⟩ := receive hR hok hl b1 hA hX hM lat e3 e4 e5 e6 e7 e8 (d := d) (by omega) hb2.1 hhi
    exact hn _ _ _ β4 v w' hk2 hR4 hD4
  · exact hk.elim
include hS h hET hEG hhi in
theorem opK_sound {o : Oper} {K : SV × Env × Own → Prop} (hk : (opK S env own o).wp K) {next : Act → World → Prop} {Q : Exit → Act → World → Prop}
    (hn : ∀ sv env' own' β' v w', K (sv, env', own') → Rel E β' env' own' a w' → DenS E.T w' β' (Av E.X β' own') own' sv v → next (a.put o.dst v) w') : o.wp S.P a w next Q := by
  unfold opK at hk
  split at hk
  · rename_i cal args ts ho
    split at hk
    · rename_i f hf
      split at hk
      · rename_i g us env1 own1 h1 h2
        obtain ⟨he, hs⟩ := hS f _ h1
        have hrun := enter_run (w := w) he ho (callee_eval h hf)
        obtain ⟨hR, hu⟩ := frzArgs_sound h h2
        unfold opKp at hk
        obtain ⟨hno, hk1⟩ := wp_cond_fail hk
        rw [Out.wp_bind] at hk1
        have st : Stay w (Av E.X β own1) w (Av E.X β own1) := ⟨Nat.le_refl _, fun _ _ hb => ⟨rfl, hb⟩⟩
        have hu2 := denUs_free (β' := fun _ => none) (own' := fun _ => none) st hno hu
        have hold : ∀ b, Av E.X β own1 b → b < w.heap.size := by
          rintro b (hx | ⟨n, h3, h4⟩)
          · have := hR.xold b hx; have := hR.frame.size; omega
          · exact (hR.blks.loc n b h3 h4).1
        rw [hET] at hu2
        have hc := hs (fun r => K (r, env1, own1)) us (Av E.X β own1) w _ hk1 (by rw [← hEG]; exact hR.glob) hold hu2
        have hargs : (args.map a.eval) = (args.toList.map a.eval).toArray := by apply Array.ext'; simp
        unfold Oper.wp
        rw [hrun, Oper.upon_enter, hargs]
        refine hc.mono fun e w' ⟨r, v, e1, e2, e3, e4⟩ => ?_
        subst e1
        have hR2 := hR.idle e4
        refine hn r env1 own1 β v w' e2 hR2 ?_
        rw [← hET] at e3
        exact e3.anywhere ⟨Nat.le_refl _, fun _ _ hb => ⟨rfl, hb⟩⟩
      · rename_i g us env1 own1 h1 h2
        obtain ⟨he, hs⟩ := hS f _ h1
        have hrun := enter_run (w := w) he ho (callee_eval h hf)
        obtain ⟨hR, hu⟩ := frzArgs_sound h h2
        refine kf_sound hET hEG hhi hs hrun hR (by simpa using hu) hk hn
      · exact hk.elim
    · exact hk.elim
  · exact hk.elim
include hT hS h hET hEG hlow hhi in
theorem stepO_sound {o : Oper} {K : SV × Env × Own → Prop} (hk : (stepO S o env own).wp K) {next : Act → World → Prop} {Q : Exit → Act → World → Prop}
    (hn : ∀ sv env' own' β' v w', K (sv, env', own') → Rel E β' env' own' a w' → DenS E.T w' β' (Av E.X β' own') own' sv v → next (a.put o.dst v) w') : o.wp S.P a w next Q := by
  have hnew : (newO S o env own).wp K → o.wp S.P a w next Q := by
    intro hk
    unfold newO at hk
    split at hk
    · rename_i d hd
      obtain ⟨hb, hk1⟩ := wp_cond_fail hk
      have hb := Nat.le_of_ble_eq_true hb
      split at hk1
      · rename_i hown
        rw [Out.wp_bind] at hk1
        obtain ⟨c, B, v, w', β', e1, e2, e3, e4⟩ := opN_sound hT h (fun _ _ e => e) hET hown (hlow d (by omega)) hk1
        exact wp_of_value e2 (hn _ _ _ β' v w' e1 e3 e4)
      · exact hk1.elim
    · exact hk.elim
  have happ : (appO S o env own).wp K → o.wp S.P a w next Q := by
    intro hk
    unfold appO at hk
    split at hk
    · rename_i d hd
      obtain ⟨hb, hk1⟩ := wp_cond_fail hk
      have hb := Nat.le_of_ble_eq_true hb
      rw [Out.wp_bind] at hk1
      obtain ⟨c, env', own', v, w', β', e1, e2, e3, e4⟩ := opA_sound hT h hET (hlow d (by omega)) hk1
      exact wp_of_value e2 (hn _ _ _ β' v w' e1 e3 e4)
    · exact hk.elim
  have hmak : (newM S o env own).wp K → o.wp S.P a w next Q := by
    intro hk
    unfold newM at hk
    split at hk
    · rename_i d hd
      obtain ⟨hb, hk1⟩ := wp_cond_fail hk
      have hb := Nat.le_of_ble_eq_true hb
      split at hk1
      · rename_i hown
        rw [Out.wp_bind] at hk1
        obtain ⟨c, B, v, w', β', e1, e2, e3, e4⟩ := opNM_sound h hET hown (hlow d (by omega)) hk1
        exact wp_of_value e2 (hn _ _ _ β' v w' e1 e3 e4)
      · exact hk1.elim
    · exact hk.elim
  have hval : ((opV S own env o).bind fun sv => .ret (sv, env, own)).wp K → o.wp S.P a w next Q := by
    intro hk
    rw [Out.wp_bind] at hk
    obtain ⟨sv, v, w', e1, e2, e3, e4⟩ := opV_sound hT h (fun _ _ e => e) hET hk
    exact wp_of_value e2 (hn _ _ _ β v w' e1 (h.idle e3) e4)
  unfold stepO at hk
  split at hk
  · exact hnew hk
  · exact hnew hk
  · exact hnew hk
  · rw [Out.wp_bind] at hk
    obtain ⟨own', w', e1, e2, e3⟩ := opS_sound hT h hET hk
    unfold Oper.wp
    rw [e2, Oper.upon_skip]
    exact hn _ _ _ β undef w' e1 e3 ⟨[], rfl, trivial⟩
  · rcases wp_ite_cond hk with ⟨_, hk⟩ | ⟨_, hk⟩
    · exact happ hk
    · exact hnew hk
  · exact opK_sound hS h hET hEG hhi hk hn
  · exact hmak hk
  · rw [Out.wp_bind] at hk
    obtain ⟨own', w', e1, e2, e3⟩ := opM_sound hT h hET hk
    unfold Oper.wp
    rw [e2, Oper.upon_skip]
    exact hn _ _ _ β undef w' e1 e3 ⟨[], rfl, trivial⟩
  · exact hval hk
end
end Sx
/-! What an operation reads of the temporaries. -/
namespace Sx
open Go
set_option linter.unusedVariables false
set_option linter.unusedSimpArgs false
section
variable {S : Pr} {snap own : Own} {env env' : Env}
theorem evC_congr {x : Operand} (h : ev env x = ev env' x) : evC env x = evC env' x := by simp only [evC, h]
theorem evU_congr {x : Operand} (h : ev env x = ev env' x) : evU env x = evU env' x := by simp only [evU, h]
theorem evV_congr {x : Operand} (h : ev env x = ev env' x) : evV env x = evV env' x := by simp only [evV, h]
theorem mapO_congr {α β : Type} {f g : α → Option β} : ∀ {l : List α}, (∀ x ∈ l, f x = g x) → mapO f l = mapO g l
  | [], _ => rfl
  | a :: l, h => by
    simp only [mapO, h a (List.mem_cons_self ..), mapO_congr fun x hx => h x (List.mem_cons_of_mem _ hx)]
theorem partsC_congr {ps : List (Nat × Operand)} (h : ∀ p ∈ ps, ev env p.2 = ev env' p.2) : partsC env ps = partsC env' ps :=
  mapO_congr fun p hp => by simp only [evU_congr (h p hp)]
theorem optI_congr {d : Int} {x : Option Operand} (h : ∀ y, x = some y → ev env y = ev env' y) : optI env d x = optI env' d x := by
  cases x with
  | none => rfl
  | some y => simp only [optI, evV_congr (h y rfl)]
theorem opV_congr (o : Oper) (h : ∀ x ∈ o.op.operands, ev env x = ev env' x) : opV S snap env o = opV S snap env' o := by
  obtain ⟨dst, op, type, pos, after, guard⟩ := o
  cases op <;> simp only [Op.operands] at h <;> simp only [opV]
  case pick c a b => simp only [evV_congr (h c (by simp)), h a (by simp), h b (by simp)]
  case build t ps => rw [partsC_congr fun p hp => h p.2 (by simp; exact ⟨p.1, by simpa using hp⟩)]
  case buildSlice t n ps => rw [partsC_congr fun p hp => h p.2 (by simp; exact ⟨p.1, by simpa using hp⟩)]
  case binOp op t x y u => simp only [evC_congr (h x (by simp)), evC_congr (h y (by simp))]
  case unOp op t x => simp only [evV_congr (h x (by simp))]
  case convert s t x => simp only [evV_congr (h x (by simp))]
  case makeInterface t x => simp only [evV_congr (h x (by simp))]
  case load t x => simp only [evC_congr (h x (by simp))]
  case lookup t x k ok => cases ok <;> simp only [evC_congr (h x (by simp)), evV_congr (h k (by simp))]
  case nilCheck x => simp only [evC_congr (h x (by simp))]
  case fieldAddr t x f => simp only [evC_congr (h x (by simp))]
  case field t x f => simp only [h x (by simp)]
  case extract x i => simp only [h x (by simp)]
  case move x => simp only [h x (by simp)]
  case assign x => simp only [h x (by simp)]
  case indexAddr t x i => simp only [evC_congr (h x (by simp)), evV_congr (h i (by simp))]
  case slice t x lo hi mx =>
    simp only [evC_congr (h x (by simp))]
    split
    · rename_i c _ hc
      simp only [sliceS]
      have h1 : ∀ d, optI env d lo = optI env' d lo := fun d => optI_congr fun y hy => h y (by simp [hy])
      have h2 : ∀ d, optI env d hi = optI env' d hi := fun d => optI_congr fun y hy => h y (by simp [hy])
      have h3 : ∀ d m, mx = some m → optI env d (some m) = optI env' d (some m) := fun d m hm => optI_congr fun y hy => h y (by obtain rfl := Option.some.inj hy; simp [hm])
      have h4 : ∀ d m, hi = some m → optI env d (some m) = optI env' d (some m) := fun d m hm => optI_congr fun y hy => h y (by obtain rfl := Option.some.inj hy; simp [hm])
      cases c with
      | d u x =>
        cases mx with
        | none => simp only [h1, h2]
        | some m =>
          cases hi with
          | none => rfl
          | some hh => simp only [h1, h3 _ m rfl, h4 _ hh rfl]
      | _ => rfl
    · rfl
  case call c =>
    obtain ⟨cal, args, ts⟩ := c
    simp only [Call.operands] at h
    cases cal with
    | builtin b =>
      have ha : ∀ x ∈ args.toList, ev env x = ev env' x := fun x hx => h x (by simpa using hx)
      cases b with
      | len =>
        simp only
        split
        · rename_i x t hx _; simp only [evC_congr (ha x (by rw [hx]; simp))]
        · rfl
      | min =>
        simp only
        split
        · rename_i x y hx; simp only [evV_congr (ha x (by rw [hx]; simp)), evV_congr (ha y (by rw [hx]; simp))]
        · rfl
      | max =>
        simp only
        split
        · rename_i x y hx; simp only [evV_congr (ha x (by rw [hx]; simp)), evV_congr (ha y (by rw [hx]; simp))]
        · rfl
      | _ => rfl
    | _ => rfl
theorem opN_congr {d : Nat} (o : Oper) (h : ∀ x ∈ o.op.operands, ev env x = ev env' x) : opN S snap env d o = opN S snap env' d o := by
  obtain ⟨dst, op, type, pos, after, guard⟩ := o
  cases op <;> simp only [Op.operands] at h <;> simp only [opN]
  case box t x => simp only [evU_congr (h x (by simp))]
  case makeSlice t x y => simp only [evV_congr (h x (by simp)), evV_congr (h y (by simp))]
  case call c =>
    obtain ⟨cal, args, ts⟩ := c
    simp only [Call.operands] at h
    cases cal with
    | builtin b =>
      have ha : ∀ x ∈ args.toList, ev env x = ev env' x := fun x hx => h x (by simpa using hx)
      cases b with
      | append =>
        simp only
        split
        · rename_i x y t t' hx _; simp only [evC_congr (ha x (by rw [hx]; simp)), evC_congr (ha y (by rw [hx]; simp))]
        · rfl
      | _ => rfl
    | _ => rfl
theorem opS_congr (o : Oper) (h : ∀ x ∈ o.op.operands, ev env x = ev env' x) : opS S env own o = opS S env' own o := by
  obtain ⟨dst, op, type, pos, after, guard⟩ := o
  cases op <;> simp only [Op.operands] at h <;> simp only [opS]
  case store t x y => simp only [evC_congr (h x (by simp)), evU_congr (h y (by simp))]
end
end Sx
/-! Guards; what is set. -/
namespace Sx
open Go
set_option linter.unusedVariables false
set_option linter.unusedSimpArgs false
def onSet (nt : Nat) (env : Env) (dst : Option Tmp) (sv : SV) (K : Env → Prop) : Prop :=
  match dst with
  | none => K env
  | some d => match Nat.ble (d + 1) nt with
    | true => sv.see fun sv => K (fset env d sv)
    | false => False
inductive Gd where | run | skip | ask (t : Nat) (b : Bool) (want : Bool) | bad
def guardOf (all : List Oper) (env : Env) (o : Oper) : Gd :=
  match o.guard with
  | none => .run
  | some (j, want) => match all[j]? with
    | some oj => match oj.dst with
      | some t => match env t with
        | some (.u (.c (.v (.bool b)))) => .ask t b want
        | some (.t []) => .skip
        | _ => .bad
      | none => .bad
    | none => .bad
/-- a condition is asked: once it is known, no more -/
def Ask (b : Bool) (k : Bool → Prop) : Prop := @Bool.rec (fun _ => Prop) (k false) (k true) b
theorem Ask.e {b : Bool} {k : Bool → Prop} (h : Ask b k) : k b := by cases b <;> exact h
theorem Ask.i {b : Bool} {A B : Prop} (h1 : b = true → A) (h0 : b = false → B) : @Bool.rec (fun _ => Prop) B A b := by cases b; exact h0 rfl; exact h1 rfl
def boolSV (c : Bool) : SV := .u (.c (.v (.bool c)))
section
variable {S : Pr} {E : Ctx} {β : Nat → Option Nat} {env : Env} {own : Own} {a : Act} {w : World}
theorem Rel.rebind (h : Rel E β env own a w) {t : Nat} {sv : SV} (ht : env t = some sv) : Rel E β (fset env t sv) own a w := by
  have e : fset env t sv = env := by
    funext n
    by_cases hn : n = t
    · subst hn; rw [fset_same, ht]
    · rw [fset_ne _ _ hn]
  rw [e]; exact h
theorem den_undef : DenS E.T w β (Av E.X β own) own (.t []) undef := ⟨[], rfl, trivial⟩
theorem onSet_rel (h : Rel E β env own a w) {dst : Option Tmp} {sv : SV} {v : Value} {K : Env → Prop} (hk : onSet E.nt env dst sv K) (hv : DenS E.T w β (Av E.X β own) own sv v) :
    ∃ env', K env' ∧ Rel E β env' own (a.put dst v) w := by
  unfold onSet at hk
  cases dst with
  | none => exact ⟨env, hk, h⟩
  | some d =>
    simp only at hk
    split at hk
    · rename_i hb
      rw [SV.see_eq] at hk
      exact ⟨_, hk, h.put (Nat.le_of_ble_eq_true hb) hv⟩
    · exact hk.elim
theorem wanted_run {ops : Array Oper} {o : Oper} (h : guardOf ops.toList env o = .run) : Region.wanted o (yielded ops a.tmps) = true := by
  unfold guardOf at h
  split at h
  · rename_i hg; simp [Region.wanted, hg]
  · repeat (split at h <;> try cases h)
def boolAt : Option Value → Option Bool | some (.bool b) => some b | _ => none
theorem getD_opt (x : Array Value) (t : Nat) (u : Value) : x.getD t u = (x[t]?).getD u := by simp
theorem yield_of (h : Rel E β env own a w) {ops : Array Oper} {j t : Nat} {oj : Oper} (h1 : ops.toList[j]? = some oj) (h2 : oj.dst = some t) (hsz : True) : yielded ops a.tmps j = boolAt a.tmps[t]? := by
  have : ops[j]? = some oj := by simpa using h1
  simp only [yielded, this, Option.bind_some, h2]
  cases a.tmps[t]? with
  | none => rfl
  | some x => cases x <;> rfl
theorem wanted_ask (h : Rel E β env own a w) {ops : Array Oper} {o : Oper} {t : Nat} {b want : Bool} (hg : guardOf ops.toList env o = .ask t b want) : Region.wanted o (yielded ops a.tmps) = (bif want then b else !b) ∧ env t = some (boolSV b) := by
  unfold guardOf at hg
  split at hg
  · cases hg
  · rename_i j want' hgo
    split at hg
    · rename_i oj hj
      split at hg
      · rename_i t' ht
        split at hg
        · rename_i b' hb
          simp only [Gd.ask.injEq] at hg
          obtain ⟨rfl, rfl, rfl⟩ := hg
          refine ⟨?_, hb⟩
          have hv : a.tmps.getD t' undef = .bool b' := (h.vals t' _ hb).1
          have hv2 : a.tmps[t']? = some (.bool b') := by
            cases hq : a.tmps[t']? with
            | none => rw [getD_opt, hq] at hv; cases hv
            | some x => rw [getD_opt, hq] at hv; simp at hv; rw [hv]
          simp only [Region.wanted, hgo, yield_of h hj ht trivial, hv2]
          cases b' <;> cases want' <;> rfl
        · cases hg
        · cases hg
      · cases hg
    · cases hg
theorem wanted_skip (h : Rel E β env own a w) {ops : Array Oper} {o : Oper} (hg : guardOf ops.toList env o = .skip) : Region.wanted o (yielded ops a.tmps) = false := by
  unfold guardOf at hg
  split at hg
  · cases hg
  · rename_i j want' hgo
    split at hg
    · rename_i oj hj
      split at hg
      · rename_i t' ht
        split at hg
        · cases hg
        · rename_i hb
          obtain ⟨vs, hv, hvs⟩ := h.vals t' _ hb
          have hvs' : vs = [] := by cases vs with | nil => rfl | cons a b => exact hvs.elim
          subst hvs'
          have hv2 : boolAt a.tmps[t']? = none := by
            cases hq : a.tmps[t']? with
            | none => rfl
            | some x =>
              rw [getD_opt, hq] at hv
              simp at hv
              rw [hv]
              rfl
          simp only [Region.wanted, hgo, yield_of h hj ht trivial, hv2]
          cases want' <;> rfl
        · cases hg
      · cases hg
    · cases hg
end
end Sx
/-! Regions that may run in several orders: what they do in the order of the text. -/
namespace Sx
open Go
set_option linter.unusedVariables false
set_option linter.unusedSimpArgs false
inductive Kd where | v | n | c | s
def kindO (o : Oper) : Kd := match o.op with
  | .alloc _ => .n
  | .box _ _ => .n
  | .makeSlice _ _ _ => .n
  | .store _ _ _ => .s
  | .call ⟨.builtin .append, _, _⟩ => .n
  | .call ⟨.value _, _, _⟩ => .c
  | _ => .v
abbrev Eff := List (Nat × Blk)
def app (own : Own) : Eff → Own
  | [] => own
  | (n, B) :: l => app (fset own n B) l
def appK (own : Own) : Eff → (Own → Prop) → Prop
  | [], K => K own
  | (n, B) :: l, K => appK (fset own n B) l K
theorem appK_eq : ∀ (e : Eff) (own : Own) (K : Own → Prop), appK own e K = K (app own e)
  | [], _, _ => rfl
  | (n, B) :: l, own, K => appK_eq l (fset own n B) K
/-- what an operation sees: the blocks as they were, without those that may have been touched -/
structure DC where
  own0 : Own
  W : List Nat
  ex : List Nat
def DC.snap (D : DC) : Own := fun n => bif memN D.ex n then none else D.own0 n
/-- of a whole region: what each touches; what is kept from whom -/
structure DD where
  own0 : Own
  W : List (Nat × List Nat)
  el : List (Nat × List Nat)
def DD.at (D : DD) (i : Nat) : DC := ⟨D.own0, (lookT D.W i).getD [], (lookT D.el i).getD (D.W.flatMap (·.2))⟩
def liveN (own : Own) (n : Nat) : Bool := match own n with | some _ => true | none => false
def zipB : List Nat → List Blk → Eff
  | n :: ns, B :: Bs => (n, B) :: zipB ns Bs
  | _, _ => []
def idxs (k : Nat) : List Nat := (List.range k).map (50000 + ·)
def storeN (env : Env) (o : Oper) : Option Nat := match o.op with
  | .store _ x _ => match evC env x with
    | some (.p n _) => some n
    | some (.q n _ _) => some n
    | _ => none
  | _ => none
def noneN (own0 own : Own) (n : Nat) : Bool := match own0 n, own n with | none, none => true | _, _ => false
def opKDf (D : DC) (g : List U → List Blk → Out (SV × List (Option Blk) × List Blk)) (dst : Option Tmp) (d : Nat) (us : List U) (ns : List Nat) (own : Own) : Out (SV × Eff) :=
  forceN ns fun ns => bif ns.all (fun n => memN D.W n && liveN D.own0 n) && lentOk own ns us && d.ble 49999 then
    match lentBs own ns with
    | some lent => (g (us.map (U.ren (nameIn ns))) lent).bind fun x => match x with
      | (sv, outs, news) => match mapO id outs, news with
      | some Bs, [] => bif Bs.length.beq lent.length && Bs.all (Blk.okRef (idxs lent.length)) then .ret (sv.ren (nameOut ns d), zipB ns (Bs.map (Blk.ren (nameOut ns d)))) else .fail
      | some [], [.row t x] => bif lent.length.beq 0 && noneN D.own0 own (freshN d 0) then (match dst with | some _ => .ret (sv.ren (nameOut ns d), [(freshN d 0, .row t x)]) | none => .fail) else .fail
      | _, _ => .fail
    | none => .fail
  else .fail
def opKD (S : Pr) (D : DC) (env : Env) (own : Own) (o : Oper) : Out (SV × Eff) :=
  match o.op with
  | .call ⟨cal, args, _⟩ => match calleeF env cal with
    | some f => match lookT S.specs f, evs env args.toList with
      | some (.pure g), some us => bif us.all U.noRef then (g us).bind fun r => .ret (r, []) else .fail
      | some (.full g), some us => match rowIn us with
        | none => opKDf D g o.dst (o.dst.getD 0) us (lentN D.own0 us) own
        | some _ => .fail
      | _, _ => .fail
    | none => .fail
  | _ => .fail
def valD (S : Pr) (D : DC) (o : Oper) (env : Env) (own : Own) : Out (SV × Eff) :=
  match kindO o with
  | .v => (opV S D.snap env o).bind fun sv => .ret (sv, [])
  | .n => match o.dst with
    | some d => bif d.ble 49999 then (match D.own0 d, own d with
      | none, none => (opN S D.snap env d o).bind fun x => match x with | (c, b) => .ret (.u (.c c), [(d, b)])
      | _, _ => .fail) else .fail
    | none => .fail
  | .c => opKD S D env own o
  | .s => match storeN env o with
    | some n => bif memN D.W n then (opS S env own o).bind fun own' => (match own' n with | some B => .ret (.t [], [(n, B)]) | none => .fail) else .fail
    | none => .fail
def treeD (S : Pr) (D : DC) (all : List Oper) (o : Oper) (env : Env) (own : Own) : Out (SV × Eff) :=
  match guardOf all env o with
  | .run => valD S D o env own
  | .skip => .ret (.t [], [])
  | .ask t b want => bif (bif want then b else !b) then valD S D o env own else .ret (.t [], [])
  | .bad => .fail
/-- in the order of the text -/
def runD (S : Pr) (nt : Nat) (D : DD) (all : List Oper) : Nat → List Oper → Env → Own → (Env → Own → Prop) → Prop
  | _, [], env, own, N => N env own
  | i, o :: r, env, own, N => match guardOf all env o with
    | .run => (valD S (D.at i) o env own).wp fun x => match x with | (sv, e) => onSet nt env o.dst sv fun env' => appK own e fun own' => runD S nt D all (i + 1) r env' own' N
    | .skip => onSet nt env o.dst (.t []) fun env' => runD S nt D all (i + 1) r env' own N
    | .ask t b want => Ask b fun c => match (bif want then c else !c) with
      | true => (valD S (D.at i) o (fset env t (boolSV c)) own).wp fun x => match x with | (sv, e) => onSet nt (fset env t (boolSV c)) o.dst sv fun env' => appK own e fun own' => runD S nt D all (i + 1) r env' own' N
      | false => onSet nt (fset env t (boolSV c)) o.dst (.t []) fun env' => runD S nt D all (i + 1) r env' own N
    | .bad => False
def stepT (S : Pr) (nt : Nat) (D : DD) (all : List Oper) (i : Nat) (K : Env → Own → Prop) (env : Env) (own : Own) : Prop :=
  match all[i]? with
  | some o => (treeD S (D.at i) all o env own).wp fun x => onSet nt env o.dst x.1 fun env' => K env' (app own x.2)
  | none => False
def runT (S : Pr) (nt : Nat) (D : DD) (all : List Oper) : List Nat → Env → Own → (Env → Own → Prop) → Prop
  | [], env, own, N => N env own
  | i :: r, env, own, N => stepT S nt D all i (fun e o => runT S nt D all r e o N) env own
section
variable {S : Pr} {nt : Nat} {D : DD} {all : List Oper} {env : Env} {own : Own}
theorem onSet_mono {dst : Option Tmp} {sv : SV} {K K' : Env → Prop} (h : ∀ e, K e → K' e) (hk : onSet nt env dst sv K) : onSet nt env dst sv K' := by
  unfold onSet at *
  cases dst with
  | none => exact h _ hk
  | some d =>
    simp only [SV.see_eq] at *
    split
    · rename_i hb; rw [hb] at hk; exact h _ hk
    · rename_i hb; rw [hb] at hk; exact hk.elim
theorem stepT_mono {i : Nat} {K K' : Env → Own → Prop} (h : ∀ e o, K e o → K' e o) (hk : stepT S nt D all i K env own) : stepT S nt D all i K' env own := by
  unfold stepT at *
  split
  · rename_i o ho
    rw [ho] at hk
    exact Out.wp_mono _ (fun x hx => onSet_mono (fun e => h e _) hx) hk
  · rename_i ho; rw [ho] at hk; exact hk
theorem rebind_eq {t : Nat} {sv : SV} (ht : env t = some sv) : fset env t sv = env := by
  funext n
  by_cases hn : n = t
  · subst hn; rw [fset_same, ht]
  · rw [fset_ne _ _ hn]
theorem guard_ask {o : Oper} {t : Nat} {b want : Bool} (hg : guardOf all env o = .ask t b want) : env t = some (boolSV b) := by
  unfold guardOf at hg
  split at hg
  · cases hg
  · split at hg
    · split at hg
      · split at hg
        · rename_i hb
          simp only [Gd.ask.injEq] at hg
          obtain ⟨rfl, rfl, rfl⟩ := hg
          exact hb
        · cases hg
        · cases hg
      · cases hg
    · cases hg
theorem runD_T : ∀ (l : List Oper) {i : Nat} {env : Env} {own : Own} {N : Env → Own → Prop}, (∀ k o, l[k]? = some o → all[i + k]? = some o) → runD S nt D all i l env own N → runT S nt D all (List.range' i l.length) env own N
  | [], i, env, own, N, _, h => h
  | o :: r, i, env, own, N, ha, h => by
    have hi : all[i]? = some o := ha 0 o rfl
    have hr : ∀ k o', r[k]? = some o' → all[i + 1 + k]? = some o' := fun k o' hk => by have := ha (k + 1) o' (by simpa using hk); rwa [show i + (k + 1) = i + 1 + k by omega] at this
    simp only [List.length_cons, List.range'_succ, runT, stepT, hi, treeD]
    simp only [runD] at h
    split at h
    · rename_i hg
      exact Out.wp_mono _ (fun x hx => onSet_mono (fun e he => by rw [appK_eq] at he; exact runD_T r hr he) hx) h
    · rename_i hg
      exact onSet_mono (fun e he => runD_T r hr he) h
    · rename_i t b want hg
      have ht := guard_ask hg
      have h1 := Ask.e h
      rw [rebind_eq ht] at h1
      split at h1
      · rename_i hb
        simp only [hb, cond_true]
        exact Out.wp_mono _ (fun x hx => onSet_mono (fun e he => by rw [appK_eq] at he; exact runD_T r hr he) hx) h1
      · rename_i hb
        simp only [hb, cond_false]
        exact onSet_mono (fun e he => runD_T r hr he) h1
    · exact h.elim
/-- what each outcome is like -/
def Out.leaf {ρ : Type} (o : Out ρ) (p : ρ → Prop) : Prop := ∀ K : ρ → Prop, o.wp K → o.wp fun x => p x ∧ K x
theorem leaf_ret {ρ : Type} {x : ρ} {p : ρ → Prop} (h : p x) : (Out.ret x).leaf p := fun K hk => ⟨h, hk⟩
theorem leaf_fail {ρ : Type} {p : ρ → Prop} : (Out.fail : Out ρ).leaf p := fun K hk => hk
theorem leaf_bind {ρ σ : Type} {o : Out ρ} {f : ρ → Out σ} {p : σ → Prop} (h : ∀ x, (f x).leaf p) : (o.bind f).leaf p := fun K hk => by
  rw [Out.wp_bind] at hk ⊢
  exact Out.wp_mono _ (fun x hx => h x K hx) hk
theorem leaf_cond {ρ : Type} {b : Bool} {x y : Out ρ} {p : ρ → Prop} (h1 : x.leaf p) (h2 : y.leaf p) : (bif b then x else y).leaf p := by cases b <;> assumption
theorem zipB_mem : ∀ {ns : List Nat} {Bs : List Blk} {p : Nat × Blk}, p ∈ zipB ns Bs → p.1 ∈ ns
  | [], _, p, h => by cases ‹List Blk› <;> simp [zipB] at h
  | n :: ns, [], p, h => by simp [zipB] at h
  | n :: ns, B :: Bs, p, h => by
    simp only [zipB, List.mem_cons] at h
    rcases h with rfl | h
    · exact List.mem_cons_self ..
    · exact List.mem_cons_of_mem _ (zipB_mem h)
end
section
variable {S : Pr} {nt : Nat} {D : DC} {all : List Oper} {env : Env} {own : Own}
/-- what an operation's effect may be -/
def EffOk (D : DC) (o : Oper) (e : Eff) : Prop :=
  match kindO o with
  | .v => e = []
  | .n => e = [] ∨ ∃ d B, o.dst = some d ∧ d ≤ 49999 ∧ D.own0 d = none ∧ e = [(d, B)]
  | .c => (∀ p ∈ e, memN D.W p.1 = true ∧ D.own0 p.1 ≠ none) ∨ ∃ d B, o.dst = some d ∧ D.own0 (freshN d 0) = none ∧ e = [(freshN d 0, B)]
  | .s => ∀ p ∈ e, memN D.W p.1 = true
theorem effNil {o : Oper} : EffOk D o [] := by
  unfold EffOk
  split
  · rfl
  · exact .inl rfl
  · exact .inl fun p hp => by cases hp
  · intro p hp; cases hp
theorem tree_leaf (o : Oper) : (treeD S D all o env own).leaf fun x => EffOk D o x.2 := by
  have hv : ∀ env : Env, (valD S D o env own).leaf fun x => EffOk D o x.2 := by
    intro env
    unfold valD
    split
    · exact leaf_bind fun x => leaf_ret effNil
    · rename_i hk
      split
      · rename_i d hd
        cases hle : d.ble 49999 with
        | false => exact leaf_fail
        | true =>
          simp only [cond_true]
          split
          · rename_i h0 _
            refine leaf_bind fun x => leaf_ret ?_
            simp only [EffOk, hk]
            exact .inr ⟨d, x.2, hd, Nat.le_of_ble_eq_true hle, h0, rfl⟩
          · exact leaf_fail
      · exact leaf_fail
    · rename_i hk
      unfold opKD
      split
      · split
        · split
          · exact leaf_cond (leaf_bind fun x => leaf_ret effNil) leaf_fail
          · split
            · unfold opKDf
              rw [forceN_eq]
              cases hb : ((lentN D.own0 _).all fun n => memN D.W n && liveN D.own0 n) with
              | false => simp only [Bool.false_and, cond_false]; exact leaf_fail
              | true =>
                refine leaf_cond ?_ leaf_fail
                split
                · refine leaf_bind fun x => ?_
                  obtain ⟨_, _, _⟩ := x
                  simp only
                  split
                  · refine leaf_cond (leaf_ret ?_) leaf_fail
                    simp only [EffOk, hk]
                    refine .inl fun p hp => ?_
                    have := List.all_eq_true.1 hb _ (zipB_mem hp)
                    simp only [Bool.and_eq_true] at this
                    refine ⟨this.1, fun hn => ?_⟩
                    rw [liveN, hn] at this
                    cases this.2
                  · cases hn : (noneN D.own0 own (freshN (o.dst.getD 0) 0)) with
                    | false => simp only [Bool.and_false, cond_false]; exact leaf_fail
                    | true =>
                      refine leaf_cond ?_ leaf_fail
                      split
                      · rename_i d hd
                        refine leaf_ret ?_
                        simp only [EffOk, hk]
                        rw [hd] at hn ⊢
                        refine .inr ⟨d, _, rfl, ?_, rfl⟩
                        unfold noneN at hn
                        simp only [Option.getD_some] at hn
                        split at hn
                        · assumption
                        · cases hn
                      · exact leaf_fail
                  · exact leaf_fail
                · exact leaf_fail
            · exact leaf_fail
          · exact leaf_fail
        · exact leaf_fail
      · exact leaf_fail
    · rename_i hk
      split
      · rename_i n hn
        cases hb : memN D.W n with
        | false => exact leaf_fail
        | true =>
          refine leaf_bind fun x => ?_
          split
          · refine leaf_ret ?_
            simp only [EffOk, hk]
            intro p hp
            simp only [List.mem_cons, List.not_mem_nil, or_false] at hp
            subst hp
            exact hb
          · exact leaf_fail
      · exact leaf_fail
  unfold treeD
  split
  · exact hv _
  · exact leaf_ret effNil
  · exact leaf_cond (hv _) (leaf_ret effNil)
  · exact leaf_fail
end
end Sx
