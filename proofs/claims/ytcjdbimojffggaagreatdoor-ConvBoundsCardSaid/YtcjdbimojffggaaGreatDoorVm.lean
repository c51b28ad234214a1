/- Part of the proof: a machine of states for walks, and contracts of functions over it. Conditions: those that each theorem names. -/
import Derived.Test.YtcjdbimojffggaaGreatDoorVk
import Derived.Test.YtcjdbimojffggaaGreatDoorVl
set_option linter.unusedVariables false
set_option linter.unusedSimpArgs false
/-! Tables: what stays true of them. -/
namespace Sx
open Go Go.Proofs
set_option linter.unusedVariables false
set_option maxRecDepth 30000
variable {G : Glob}
abbrev LL := List (ByteArray × List D)
theorem findM_mem {s : ByteArray} {r : List D} : ∀ {l : LL}, findM s l = some r → (s, r) ∈ l
  | [], h => by cases h
  | p :: l, h => by
    simp only [findM] at h
    split at h
    · rename_i e
      obtain rfl := Option.some.inj h
      subst e
      exact List.mem_cons_self ..
    · exact List.mem_cons_of_mem _ (findM_mem h)
theorem findM_none {s : ByteArray} : ∀ {l : LL}, findM s l = none → s ∉ l.map (·.1)
  | [], _ => by simp
  | p :: l, h => by
    simp only [findM] at h
    split at h
    · cases h
    · rename_i e
      simp only [List.map_cons, List.mem_cons, not_or]
      exact ⟨e, findM_none h⟩
theorem findM_put {s : ByteArray} {r : List D} : ∀ {l : LL}, findM s (putM s r l) = some r
  | [] => by simp [putM, findM]
  | p :: l => by
    simp only [putM]
    split
    · simp [findM]
    · rename_i e
      simp only [findM, if_neg e]
      exact findM_put
theorem mem_put {s : ByteArray} {r : List D} {kr : ByteArray × List D} : ∀ {l : LL}, kr ∈ putM s r l → kr = (s, r) ∨ kr ∈ l
  | [], h => by
    simp only [putM, List.mem_cons, List.not_mem_nil, or_false] at h
    exact .inl h
  | p :: l, h => by
    simp only [putM] at h
    split at h
    · rcases List.mem_cons.1 h with h | h
      · exact .inl h
      · exact .inr (List.mem_cons_of_mem _ h)
    · rcases List.mem_cons.1 h with h | h
      · exact .inr (h ▸ List.mem_cons_self ..)
      · exact (mem_put h).imp id (List.mem_cons_of_mem _)
theorem keys_put {s : ByteArray} {r : List D} : ∀ {l : LL}, (putM s r l).map (·.1) = (match findM s l with | none => l.map (·.1) ++ [s] | some _ => l.map (·.1))
  | [] => rfl
  | p :: l => by
    simp only [putM, findM]
    split
    · rename_i e; subst e; rfl
    · simp only [List.map_cons]
      rw [keys_put (l := l)]
      cases findM s l <;> rfl
/-- a table's streams: each under a key of its own, of a kind alone, seen by now; not too many -/
structure TabOk (k : Nat) (st bu nw : Int) (l : LL) : Prop where
  keys : (l.map (·.1)).Nodup
  size : ∀ kr ∈ l, kr.1.size ≤ 1000
  len : (l.length : Int) ≤ st
  rows : ∀ kr ∈ l, ∃ p i, kr.2 = PtD.row p i ∧ GS (k + 1) bu p ∧ 0 ≤ i ∧ i ≤ nw
theorem TabOk.row {k : Nat} {st bu nw : Int} {l : LL} (h : TabOk k st bu nw l) {s : ByteArray} : RowOk (GS (k + 1) bu) s l := fun r hr => by
  obtain ⟨p, i, e, g, _⟩ := h.rows _ (findM_mem hr)
  exact ⟨p, i, e, g⟩
theorem TabOk.nil {k : Nat} {st bu : Int} (h : 1 ≤ st) : TabOk k st bu 0 [] := ⟨List.nodup_nil, by simp, by show (0 : Int) ≤ st; omega, by simp⟩
theorem TabOk.put {k : Nat} {st bu nw : Int} {l : LL} (h : TabOk k st bu nw l) {s : ByteArray} {x : PtD × Int} (hx : UpR (k + 1) bu st s l x) (hs : s.size ≤ 1000) (hn : 0 ≤ nw) : TabOk k st bu nw (putM s (x.1.row nw) l) := by
  have hk := keys_put (s := s) (r := x.1.row nw) (l := l)
  refine ⟨?_, fun kr hm => ?_, ?_, fun kr hm => ?_⟩
  · rw [hk]
    cases hf : findM s l with
    | none =>
      refine List.nodup_append.2 ⟨h.keys, by simp, fun a ha b hb e => ?_⟩
      simp only [List.mem_cons, List.not_mem_nil, or_false] at hb
      subst hb e
      exact findM_none hf ha
    | some r => exact h.keys
  · rcases mem_put hm with rfl | hm
    · exact hs
    · exact h.size kr hm
  · have hl := congrArg List.length hk
    simp only [List.length_map] at hl
    rw [hl]
    cases hf : findM s l with
    | none =>
      have := hx.2.2.2.2 hf
      simp only [List.length_append, List.length_map, List.length_cons, List.length_nil]
      omega
    | some r =>
      have := h.len
      simpa using this
  · rcases mem_put hm with rfl | hm
    · exact ⟨x.1, nw, rfl, hx.1, hn, Int.le_refl _⟩
    · exact h.rows kr hm
theorem TabOk.filter {k : Nat} {st bu nw nw' : Int} {l : LL} (h : TabOk k st bu nw l) (q : ByteArray × List D → Bool) (hn : nw ≤ nw') : TabOk k st bu nw' (l.filter q) := by
  refine ⟨h.keys.sublist ((List.filter_sublist ..).map _), fun kr hm => h.size kr (List.mem_filter.1 hm).1, ?_, fun kr hm => ?_⟩
  · have := List.length_filter_le q l
    have := h.len
    omega
  · obtain ⟨p, i, e, g, h1, h2⟩ := h.rows kr (List.mem_filter.1 hm).1
    exact ⟨p, i, e, g, h1, by omega⟩
theorem TabOk.now {k : Nat} {st bu nw nw' : Int} {l : LL} (h : TabOk k st bu nw l) (hn : nw ≤ nw') : TabOk k st bu nw' l := ⟨h.keys, h.size, h.len, fun kr hm => by
    obtain ⟨p, i, e, g, h1, h2⟩ := h.rows kr hm
    exact ⟨p, i, e, g, h1, by omega⟩⟩
theorem look_put {s : ByteArray} {p : PtD} {i : Int} {l : LL} : lookP s (putM s (p.row i) l) = some (p, i) := by rw [lookP, findM_put]; rfl
theorem GS.short {k : Nat} {bu : Int} {p : PtD} (h : GS k bu p) (hb : 0 ≤ bu) : ((p.e.cP.length : Nat) : Int) ≤ bu ∧ ((p.e.cN.length : Nat) : Int) ≤ bu := by
  rcases h with ⟨_, _, _, h4⟩ | ⟨_, _, _, h4⟩ | ⟨_, h2, _, _⟩
  · rw [h4]; exact ⟨hb, hb⟩
  · rw [h4]; exact ⟨hb, hb⟩
  · exact ⟨h2.fit.lP, h2.fit.lN⟩
theorem TabOk.had {k : Nat} {st bu nw : Int} {l : LL} (h : TabOk k st bu nw l) {s : ByteArray} {x : PtD × Int} (hx : lookP s l = some x) : GS (k + 1) bu x.1 := by
  unfold lookP at hx
  obtain ⟨r, h1, h2⟩ := Option.map_eq_some_iff.1 hx
  obtain ⟨p, i, e, g, _⟩ := h.rows _ (findM_mem h1)
  have e : r = p.row i := e
  rw [e, asRow_row] at h2
  subst h2
  exact g
theorem look_none {s : ByteArray} {l : LL} : lookP s l = none ↔ findM s l = none := by unfold lookP; simp
/-- words of a point out of a row: its lists not looked into -/
def asPtR : List C → Option (PtD × (D × D) × (D × D))
  | .v (.int .i64 kd) :: c1 :: c2 :: c3 :: c4 :: c5 :: c6 :: c7 :: c8 :: r => match asNum [c1, c2, c3, c4, c5, c6, c7, c8], r with
    | some n, d1 :: d2 :: d3 :: d4 :: d5 :: d6 :: d7 :: d8 :: d9 :: d10 :: d11 :: d12 :: d13 :: d14 :: d15 :: s => match asHistR [d1, d2, d3, d4, d5, d6, d7, d8, d9, d10, d11, d12, d13, d14, d15], asExpR s with
      | some h, some e => some (⟨kd, n, h.1, e.1⟩, h.2, e.2)
      | _, _ => none
    | _, _ => none
  | _ => none
theorem asPtR_eq {l : List C} {z : PtD × (D × D) × (D × D)} (h : asPtR l = some z) (h1 : z.2.1.1 = .ints z.1.h.cs) (h2 : z.2.1.2 = .ints z.1.h.bs) (h3 : z.2.2.1 = .ints z.1.e.cP) (h4 : z.2.2.2 = .ints z.1.e.cN) : l = z.1.cells := by
  unfold asPtR at h
  split at h
  · split at h
    · rename_i g1
      split at h
      · rename_i g2 g3
        obtain rfl := Option.some.inj h
        have e1 := asNum_eq g1
        have e2 := asHistR_eq g2 h1 h2
        have e3 := asExpR_eq g3 h3 h4
        simp only [NumD.cells, HistD.cells, List.cons.injEq, and_true] at e1 e2
        obtain ⟨rfl, rfl, rfl, rfl, rfl, rfl, rfl, rfl⟩ := e1
        obtain ⟨rfl, rfl, rfl, rfl, rfl, rfl, rfl, rfl, rfl, rfl, rfl, rfl, rfl, rfl, rfl⟩ := e2
        subst e3
        rfl
      · cases h
    · cases h
  · cases h
theorem OkF.mono {f : FuncId} {g g' : List U → List Blk → Out RF} (h : OkF G f g) (hm : ∀ us ls K, (g' us ls).wp K → (g us ls).wp K) : OkF G f g' := ⟨h.1, fun K us lent β X w vals h1 hk => h.2 K us lent β X w vals h1 (hm us lent K hk)⟩
def upR (k : Nat) : List U → List Blk → Out RF
  | [.c (.p 50000 0), .c (.v (.string s)), .a q], [.cells 81 [.v (.int .i64 st), .v (.int .i64 bu), .v (.int .i64 ti), .v (.int .i64 nw), .m 50001 79], .map 79 l] => match asPtR q with
    | some z => .need (z.2.1.1 = .ints z.1.h.cs ∧ z.2.1.2 = .ints z.1.h.bs ∧ z.2.2.1 = .ints z.1.e.cP ∧ z.2.2.2 = .ints z.1.e.cN ∧ PTold k z.1 ∧ 1 ≤ bu ∧ bu ≤ 320 ∧ RowOk (GS k bu) s l) (.all (Option (PtD × Int)) (fun o => ∀ x, o = some x → UpR k bu st s l x) ⟨none, fun _ h => by cases h⟩ fun o => match o with
      | some x => .ret (.t [.a x.1.cells, .c (I64 x.2)], TBk st bu ti nw (putM s (x.1.row nw) l), [])
      | none => .all Int (fun v => 3 ≤ v ∧ v ≤ 5) ⟨3, by decide⟩ fun v => .ret (.t [.a zeroP.cells, .c (I64 v)], TBk st bu ti nw l, []))
    | none => .fail
  | _, _ => .fail
theorem upR_ok {k : Nat} : OkF G 11 (upR k) := (up_ok' (k := k)).mono fun us ls K hk => by
  unfold upR at hk
  split at hk
  · split at hk
    · rename_i s q st bu ti nw l _ z hz
      obtain ⟨⟨h1, h2, h3, h4, h5⟩, hk⟩ := hk
      rw [asPtR_eq hz h1 h2 h3 h4]
      exact ⟨h5, hk⟩
    · exact hk.elim
  · exact hk.elim
structure RowDp (k : Nat) (r : List D) : Prop where
  na : Dp (k + 1) (oN r).attrs
  nx : Dp (k + 1) (oN r).ex
  ha : Dp (k + 1) (oH r).attrs
  hx : Dp (k + 1) (oH r).ex
  ea : Dp (k + 1) (oE r).attrs
  ex : Dp (k + 1) (oE r).ex
theorem told_of {k : Nat} {r : List D} (t : OpTyp r) (s : OpSmall r) (d : RowDp k r) : PTold (k + 1) (oP r) :=
  ⟨⟨fun _ => ⟨t.n.attrs, d.na, t.n.ex, d.nx⟩, fun _ => ⟨t.h.attrs, d.ha, t.h.ex, d.hx, s.h.lC, s.h.lB⟩, fun _ => ⟨t.e.attrs, d.ea, t.e.ex, d.ex, s.e.lP, s.e.lN⟩⟩,
    fun _ => ⟨⟨s.e.lP, s.e.lN, t.e.oP.1, t.e.oP.2, t.e.oN.1, t.e.oN.2, t.e.sc.1, t.e.sc.2⟩, t.e.rP, t.e.rN, t.ct, t.ze⟩⟩
end Sx
