/- Part of the proof: a machine of states for walks, and contracts of functions over it. Conditions: those that each theorem names. -/
import Derived.Test.YtcjdbimojffggaaGreatDoorVb
import Derived.ChangeArms
import Derived.DataReads
set_option linter.unusedVariables false
set_option linter.unusedSimpArgs false
/-! Arguments opened: from what a row tells of its data to words. -/
namespace Sx
open Go Go.Proofs
set_option linter.unusedVariables false
def OpC (T : Tab) (w : World) (ct : Ct) (p : Value × D) : Prop := Rd T w (fun _ => False) ct p.1 p.2 ∧ Typ T ct p.2
def Opened (T : Tab) (w : World) (cts : List Ct) (cs : List Value) : Prop := ∃ l : List (Value × D), cs = l.map (·.1) ∧ All2 (OpC T w) cts l
def ctB : Ct → Ct → Bool
  | .int j, .int k => decide (j = k)
  | .bool, .bool => true
  | .str, .str => true
  | .sl a, .sl b => a.beq b
  | _, _ => false
theorem ctB_eq {a b : Ct} (h : ctB a b = true) : a = b := by
  unfold ctB at h
  split at h
  · rw [of_decide_eq_true h]
  · rfl
  · rfl
  · rw [Nat.eq_of_beq_eq_true h]
  · cases h
def preB : List Ct → List Ct → Option (List Ct)
  | [], l => some l
  | a :: ar, b :: br => bif ctB a b then preB ar br else none
  | _ :: _, [] => none
theorem preB_eq : ∀ {a b r : List Ct}, preB a b = some r → b = a ++ r
  | [], l, r, h => by rw [preB] at h; exact Option.some.inj h
  | a :: ar, b :: br, r, h => by
    rw [preB] at h
    cases hc : ctB a b with
    | false => rw [hc] at h; cases h
    | true =>
      rw [hc] at h
      rw [ctB_eq hc, preB_eq (show preB ar br = some r from h)]; rfl
  | _ :: _, [], r, h => by rw [preB] at h; cases h
def fieldsB (tt : TT) (good : TypeId → Bool) : Nat → List (Nat × TypeId) → List Ct → Bool
  | _, [], cts => cts.isEmpty
  | n, (off, t) :: fs, cts => off.beq n && (good t && match tt t with
    | some i => match preB i.cts cts with
      | some r => fieldsB tt good (n + i.cts.length) fs r
      | none => false
    | none => false)
def goodB (tt : TT) (good : TypeId → Bool) (t : TypeId) : Bool := match tt t with
  | some ⟨.cell c, [ct], _, _⟩ => ctB c ct && !(ctB c .oth)
  | some ⟨.slice e, [ct], _, _⟩ => ctB ct (.sl t) && good e && (match tt e with | some _ => true | none => false)
  | some ⟨.struct fs, cts, _, _⟩ => fieldsB tt good 0 fs cts
  | _ => false
theorem cell_lt {w : World} {a : Addr} {v : Value} (h : w.cell? a = some v) : a.block < w.heap.size := by
  unfold World.cell? at h
  split at h
  · rename_i c t z hb
    exact (Array.getElem?_eq_some_iff.1 hb).1
  · cases h
theorem At.of {w : World} {a : Addr} {v : Value} (h : w.cell? a = some v) : At w (fun _ => False) a v := ⟨fun h => h, cell_lt h, h⟩
theorem wf_in {k : IntKind} {n : Int} (h : (Lit.int k n).wf = true) : k.min ≤ n ∧ n ≤ k.max := by
  simp only [Lit.wf, Bool.and_eq_true, decide_eq_true_eq] at h
  exact h
theorem Opened.append {T : Tab} {w : World} {a b : List Ct} {x y : List Value} (h : Opened T w a x) (k : Opened T w b y) : Opened T w (a ++ b) (x ++ y) := by
  obtain ⟨l, rfl, hl⟩ := h
  obtain ⟨m, rfl, hm⟩ := k
  exact ⟨l ++ m, by simp, hl.append hm⟩
section
variable {H : Type} {enc : TypeId × Value → H} {S : Pr} {w : World} {base : Nat} {spare : Nat → Bool} {held : Bool}
theorem cellsOf_eq (hT : TOk S.P S.tt) {t : TypeId} {i : TI} (h : S.tt t = some i) : S.P.cellsOf t = i.cts.length := by
  obtain ⟨d, inf, z, _, _, h3, h4, _⟩ := (hT.get h).ok
  unfold Program.cellsOf
  rw [h3]
  exact h4
theorem fields_open (hT : TOk S.P S.tt) {good : TypeId → Bool} {n : Nat} (ih : ∀ t i cs x, good t = true → S.tt t = some i → DataW.trod enc S.P w base spare held n t cs = some x → Opened S.T w i.cts cs) :
    ∀ (fs : List (Nat × TypeId)) (cts : List Ct) (off : Nat) (cs : List Value), fieldsB S.tt good off fs cts = true → cs.length = off + cts.length →
      (∀ o t, (o, t) ∈ fs → ∃ x, DataW.trod enc S.P w base spare held n t ((cs.drop o).take (S.P.cellsOf t)) = some x) → Opened S.T w cts (cs.drop off)
  | [], cts, off, cs, hb, hl, _ => by
    rw [fieldsB, List.isEmpty_iff] at hb
    subst hb
    rw [List.drop_eq_nil_of_le (by simp at hl; omega)]
    exact ⟨[], rfl, trivial⟩
  | (o, t) :: fs, cts, off, cs, hb, hl, hx => by
    rw [fieldsB, Bool.and_eq_true, Bool.and_eq_true] at hb
    obtain ⟨h1, h2, h3⟩ := hb
    obtain rfl := Nat.eq_of_beq_eq_true h1
    cases ht : S.tt t with
    | none => rw [ht] at h3; cases h3
    | some i =>
      rw [ht] at h3
      simp only at h3
      cases hp : preB i.cts cts with
      | none => rw [hp] at h3; cases h3
      | some r =>
        rw [hp] at h3
        simp only at h3
        obtain rfl := preB_eq hp
        obtain ⟨x, hx0⟩ := hx o t List.mem_cons_self
        rw [cellsOf_eq hT ht] at hx0
        have h0 := ih t i _ x h2 ht hx0
        have hr := fields_open hT ih fs r (o + i.cts.length) cs h3 (by rw [hl]; simp; omega) fun o' t' hm => hx o' t' (List.mem_cons_of_mem _ hm)
        have e : cs.drop o = (cs.drop o).take i.cts.length ++ cs.drop (o + i.cts.length) := by
          rw [← List.drop_drop, List.take_append_drop]
        rw [e]
        exact h0.append hr
theorem opened (hT : TOk S.P S.tt) {good : TypeId → Bool} (hg : ∀ t, good t = true → goodB S.tt good t = true) :
    ∀ (fuel : Nat) t i cs x, good t = true → S.tt t = some i → DataW.trod enc S.P w base spare held fuel t cs = some x → Opened S.T w i.cts cs := by
  intro fuel
  induction fuel using Nat.strongRecOn with
  | ind fuel ih =>
    intro t i cs x ht hi hx
    have hb := hg t ht
    unfold goodB at hb
    obtain ⟨d, inf, z, hu, hty, h3, h4, _⟩ := (hT.get hi).ok
    rw [hi] at hb
    obtain ⟨ty, cts, zr, by_⟩ := i
    simp only at hty h4 hb ⊢
    split at hb
    · rename_i c ct zr' by' he
      simp only [Option.some.injEq, TI.mk.injEq] at he
      obtain ⟨rfl, rfl, _, _⟩ := he
      simp only [Bool.and_eq_true] at hb
      obtain ⟨hb1, hb2⟩ := hb
      obtain rfl := ctB_eq hb1
      cases d <;> simp only [tyOf, Ty.cell.injEq, reduceCtorEq] at hty
      · subst hty
        obtain ⟨b, rfl, _⟩ := DataW.trod_bool hu hx
        exact ⟨[(.bool b, .bool b)], rfl, ⟨.bool, .bool⟩, trivial⟩
      · subst hty
        obtain ⟨n, rfl, _, hw⟩ := DataW.trod_int hu hx
        exact ⟨[(.int _ n, .int n)], rfl, ⟨.int, .int (wf_in hw)⟩, trivial⟩
      · subst hty
        obtain ⟨s, rfl, _⟩ := DataW.trod_string hu hx
        exact ⟨[(.string s, .str s)], rfl, ⟨.str, .str⟩, trivial⟩
    · rename_i e ct zr' by' he
      simp only [Option.some.injEq, TI.mk.injEq] at he
      obtain ⟨rfl, rfl, _, _⟩ := he
      simp only [Bool.and_eq_true] at hb
      obtain ⟨⟨hb1, hb2⟩, hb3⟩ := hb
      obtain rfl := ctB_eq hb1
      have hus : S.P.underlying t = some (.slice e) := (hT.get hi).slice rfl
      cases hie : S.tt e with
      | none => rw [hie] at hb3; cases hb3
      | some ie =>
        have hTe : S.T t = some (match ie.ty with | .cell (.int k) => .ints k | _ => .rows ie.cts) := by
          unfold Pr.T elOf
          rw [hi]
          simp only
          rw [hie]
          obtain ⟨ety, ects, _, _⟩ := ie
          cases ety <;> first | rfl | (rename_i c; cases c <;> rfl)
        have hsz := cellsOf_eq hT hie
        rcases DataW.trod_slice hus hx with ⟨rfl, _⟩ | ⟨a, len, cap, elems, rest, n, rfl, rfl, _, _, hlc, hcm, hlen, hel, _⟩
        · cases hty : ie.ty with
          | cell c =>
            cases c with
            | int k => rw [hty] at hTe; exact ⟨[(.slice none 0 0, .ints [])], rfl, ⟨.nilI hTe, .ints hTe (by simp) (by simp)⟩, trivial⟩
            | _ => rw [hty] at hTe; exact ⟨[(.slice none 0 0, .rows [])], rfl, ⟨.nilR hTe, .rows hTe (by simp) (by simp) (by simp)⟩, trivial⟩
          | _ => rw [hty] at hTe; exact ⟨[(.slice none 0 0, .rows [])], rfl, ⟨.nilR hTe, .rows hTe (by simp) (by simp) (by simp)⟩, trivial⟩
        · have hmax : len ≤ 9223372036854775807 := by unfold maxLen at hcm; omega
          have each : ∀ i, i < len → ∃ l : List (Value × D), w.cells? base (a.add (i * ie.cts.length)) ie.cts.length = some (l.map (·.1)) ∧ All2 (OpC S.T w) ie.cts l := by
            intro i hil
            have h1 := hel i hil
            rw [hsz, List.getElem?_eq_getElem (by omega), Option.bind_eq_some_iff] at h1
            obtain ⟨cs', h2, h3⟩ := h1
            obtain ⟨l, rfl, hl⟩ := ih n (by omega) e ie cs' _ hb2 hie h3
            exact ⟨l, h2, hl⟩
          have ech : ∀ i, ∃ l : List (Value × D), i < len → w.cells? base (a.add (i * ie.cts.length)) ie.cts.length = some (l.map (·.1)) ∧ All2 (OpC S.T w) ie.cts l := by
            intro i
            by_cases hil : i < len
            · obtain ⟨l, h⟩ := each i hil; exact ⟨l, fun _ => h⟩
            · exact ⟨[], fun h => absurd h hil⟩
          obtain ⟨f, hf⟩ := Classical.axiomOfChoice ech
          have rows : S.T t = some (.rows ie.cts) → Opened S.T w [.sl t] [.slice (some a) len cap] := by
            intro hTr
            have hL : ((List.range len).map fun i => (f i).map (·.2)).length = len := by simp
            have get : ∀ (i : Nat) r, ((List.range len).map fun i => (f i).map (·.2))[i]? = some r → i < len ∧ r = (f i).map (·.2) := by
              intro i r hr
              have hil : i < len := by have := (List.getElem?_eq_some_iff.1 hr).1; simpa using this
              rw [List.getElem?_map, List.getElem?_range hil] at hr
              exact ⟨hil, (Option.some.inj hr).symm⟩
            have rl : ∀ (i : Nat), i < len → (f i).length = ie.cts.length := fun i hil => (hf i hil).2.length.symm
            have r1 : Rd S.T w (fun _ => False) (.sl t) (.slice (some a) ((List.range len).map fun i => (f i).map (·.2)).length cap) (.rows ((List.range len).map fun i => (f i).map (·.2))) := by
              refine .rows (fun i j => ((f i).getD j (.nilIface, .int 0)).1) hTr (by rw [hL]; exact hlc) ?_ ?_ ?_
              · intro i r hr
                obtain ⟨hil, rfl⟩ := get i r hr
                simp [rl i hil]
              · intro i r j d hr hd
                obtain ⟨hil, rfl⟩ := get i r hr
                have hj : j < (f i).length := by have := (List.getElem?_eq_some_iff.1 hd).1; simpa using this
                obtain ⟨_, _, hc⟩ := World.cells?_some (hf i hil).1
                have h1 := hc j (by rw [← rl i hil]; exact hj)
                rw [add_add, List.getElem?_map, List.getElem?_eq_getElem hj] at h1
                refine At.of ?_
                rw [h1, List.getD_eq_getElem?_getD, List.getElem?_eq_getElem hj]; rfl
              · intro i r j ct d hr hct hd
                obtain ⟨hil, rfl⟩ := get i r hr
                obtain ⟨p, hp, hR⟩ := (hf i hil).2.get hct
                rw [List.getElem?_map, hp] at hd
                obtain rfl := Option.some.inj hd
                have e : ((f i).getD j (.nilIface, .int 0)) = p := by rw [List.getD_eq_getElem?_getD, hp]; rfl
                simp only [e]
                exact hR.1
            rw [hL] at r1
            refine ⟨[(.slice (some a) len cap, .rows ((List.range len).map fun i => (f i).map (·.2)))], rfl, ⟨r1, .rows hTr (by rw [hL]; exact hmax) ?_ ?_⟩, trivial⟩
            · intro r hr
              obtain ⟨i, hil, rfl⟩ := List.mem_map.1 hr
              simp [rl i (List.mem_range.1 hil)]
            · intro r hr j ct d hct hd
              obtain ⟨i, hil, rfl⟩ := List.mem_map.1 hr
              obtain ⟨p, hp, hR⟩ := (hf i (List.mem_range.1 hil)).2.get hct
              rw [List.getElem?_map, hp] at hd
              obtain rfl := Option.some.inj hd
              exact hR.2
          cases hty : ie.ty with
          | cell c =>
            cases c with
            | int k =>
              rw [hty] at hTe
              simp only at hTe
              have hcts : ie.cts = [.int k] := by
                have hbe := hg e hb2
                unfold goodB at hbe
                rw [hie] at hbe
                obtain ⟨ety, ects, ez, eb⟩ := ie
                simp only at hty
                subst hty
                split at hbe
                · rename_i c' ct' _ _ he'
                  simp only [Option.some.injEq, TI.mk.injEq, Ty.cell.injEq] at he'
                  obtain ⟨rfl, rfl, _, _⟩ := he'
                  simp only [Bool.and_eq_true] at hbe
                  rw [ctB_eq hbe.1]
                · rename_i he'; simp at he'
                · rename_i he'; simp at he'
                · cases hbe
              have one : ∀ i, i < len → ∃ n, w.cell? (a.add i) = some (.int k n) ∧ k.min ≤ n ∧ n ≤ k.max ∧ f i = [(.int k n, .int n)] := by
                intro i hil
                obtain ⟨h1, h2⟩ := hf i hil
                rw [hcts] at h1 h2
                obtain ⟨_, _, hc⟩ := World.cells?_some h1
                match hfi : f i, h2 with
                | [(v, d)], ⟨⟨hr, hty⟩, _⟩ =>
                  cases hr with
                  | int =>
                    cases hty with
                    | int hin =>
                      rename_i n
                      have := hc 0 (by simp)
                      rw [hfi] at this
                      simp only [List.length_cons, List.length_nil, Nat.zero_add, Nat.mul_one, List.map_cons, List.map_nil, List.getElem?_cons_zero, add_zero] at this
                      exact ⟨n, this, hin.1, hin.2, rfl⟩
              have hL : ((List.range len).map fun i => ((f i).map fun p => p.2.toInt).getD 0 0).length = len := by simp
              have get : ∀ (i : Nat) m, ((List.range len).map fun i => ((f i).map fun p => p.2.toInt).getD 0 0)[i]? = some m → i < len ∧ m = ((f i).map fun p => p.2.toInt).getD 0 0 := by
                intro i r hr
                have hil : i < len := by have := (List.getElem?_eq_some_iff.1 hr).1; simpa using this
                rw [List.getElem?_map, List.getElem?_range hil] at hr
                exact ⟨hil, (Option.some.inj hr).symm⟩
              have r1 : Rd S.T w (fun _ => False) (.sl t) (.slice (some a) ((List.range len).map fun i => ((f i).map fun p => p.2.toInt).getD 0 0).length cap) (.ints ((List.range len).map fun i => ((f i).map fun p => p.2.toInt).getD 0 0)) := by
                refine .ints hTe (by rw [hL]; exact hlc) fun i m hm => ?_
                obtain ⟨hil, rfl⟩ := get i m hm
                obtain ⟨n, h1, _, _, h4⟩ := one i hil
                rw [h4]
                exact At.of h1
              rw [hL] at r1
              refine ⟨[(.slice (some a) len cap, .ints ((List.range len).map fun i => ((f i).map fun p => p.2.toInt).getD 0 0))], rfl, ⟨r1, .ints hTe (by rw [hL]; exact hmax) ?_⟩, trivial⟩
              intro m hm
              obtain ⟨i, hil, rfl⟩ := List.mem_map.1 hm
              obtain ⟨n, _, h2, h3, h4⟩ := one i (List.mem_range.1 hil)
              rw [h4]
              exact ⟨h2, h3⟩
            | _ => rw [hty] at hTe; exact rows hTe
          | _ => rw [hty] at hTe; exact rows hTe
    · rename_i fs cts' zr' by' he
      simp only [Option.some.injEq, TI.mk.injEq] at he
      obtain ⟨rfl, rfl, _, _⟩ := he
      cases d <;> simp only [tyOf, Ty.struct.injEq, reduceCtorEq] at hty
      rename_i fs0
      obtain ⟨xs, n, rfl, _, hl, hxs, hf⟩ := DataW.trod_struct hu hx
      have hl' : cs.length = 0 + cts.length := by rw [hl, cellsOf_eq hT hi]; simp
      have := fields_open hT (fun t i cs x h1 h2 h3 => ih n (by omega) t i cs x h1 h2 h3) fs cts 0 cs hb hl' ?_
      · simpa using this
      · intro o t' hm
        rw [← hty] at hm
        obtain ⟨f, hf1, hf2⟩ := List.mem_map.1 hm
        obtain ⟨j, hj, hj2⟩ := List.getElem_of_mem hf1
        have hj' : j < fs0.size := by simpa using hj
        have hfj : fs0[j]? = some f := by rw [Array.getElem?_eq_getElem hj', ← hj2]; simp
        have := hf j f hfj
        cases hf2
        have hlt : j < xs.length := by omega
        exact ⟨xs[j], by rw [this, List.getElem?_eq_getElem hlt]⟩
    · cases hb
end
end Sx
/-! Arguments opened. -/
namespace Sx
open Go Go.Proofs Go.RowKit
set_option linter.unusedVariables false
set_option maxRecDepth 30000
theorem OpC.intC {w : World} {k : IntKind} {p : Value × D} (h : OpC TB w (.int k) p) : ∃ n, p = (.int k n, .int n) ∧ k.min ≤ n ∧ n ≤ k.max := by
  obtain ⟨v, d⟩ := p
  obtain ⟨h1, h2⟩ := h
  cases h1 with
  | int => cases h2 with
    | int h => exact ⟨_, rfl, h.1, h.2⟩
theorem OpC.boolC {w : World} {p : Value × D} (h : OpC TB w .bool p) : ∃ b, p = (.bool b, .bool b) := by
  obtain ⟨v, d⟩ := p
  obtain ⟨h1, h2⟩ := h
  cases h1 with
  | bool => exact ⟨_, rfl⟩
theorem OpC.strC {w : World} {p : Value × D} (h : OpC TB w .str p) : ∃ s, p = (.string s, .str s) := by
  obtain ⟨v, d⟩ := p
  obtain ⟨h1, h2⟩ := h
  cases h1 with
  | str => exact ⟨_, rfl⟩
theorem OpC.slI {w : World} {t : TypeId} {k : IntKind} (ht : TB t = some (.ints k)) {p : Value × D} (h : OpC TB w (.sl t) p) :
    ∃ v l, p = (v, .ints l) ∧ Rd TB w (fun _ => False) (.sl t) v (.ints l) ∧ l.length ≤ 9223372036854775807 ∧ ∀ x ∈ l, k.min ≤ x ∧ x ≤ k.max := by
  obtain ⟨v, d⟩ := p
  obtain ⟨h1, h2⟩ := h
  cases h2 with
  | ints h hl hr =>
    rw [ht] at h
    cases Option.some.inj h
    exact ⟨v, _, rfl, h1, hl, hr⟩
  | rows h => rw [ht] at h; cases h
theorem GOk1 {W : World} (h : YtcjdbimojffggaaGreatDoor.Cd.Lays W) : GOk G1 W := by
  have hc : W.cell? ⟨0, 0, none⟩ = some (.iface 201 (.agg #[.pointer (some ⟨1, 26, none⟩)])) := h
  have := cell_lt hc
  exact ⟨this, fun gv hg => by
    rcases List.mem_cons.1 hg with rfl | hg
    · exact ⟨by decide, hc⟩
    · cases hg⟩
theorem Fr.below {w w' : World} (h : Fr w w' fun _ => False) : Below w.heap.size w w' :=
  ⟨h.os, h.tape, h.output, h.size, fun b hb => h.heap b hb fun h => h⟩
end Sx
