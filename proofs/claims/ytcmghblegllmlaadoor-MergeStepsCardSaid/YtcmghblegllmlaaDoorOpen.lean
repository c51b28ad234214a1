/- Arguments opened: from what a row tells of its data to what the walks read. -/
import Derived.Test.YtcmghblegllmlaaDoorFirst
import Derived.ChangeOld
import Derived.OpenShut
import Derived.ProofKit
namespace Go.Proofs.YtcmghblegllmlaaDoor.Hand
open Go.RowKit Go.Proofs.YtcmghblegllmlaaDoorW.PrintWords Go.Proofs.YtcmghblegllmlaaDoorW.PrintLast Go.Proofs.YtcmghblegllmlaaDoorW.PrintMore Go.Proofs.YtcmghblegllmlaaDoor.Cd Go.Proofs.YtcmghblegllmlaaDoor.Dn
section
variable {H : Type} {enc : TypeId × Value → H} {P : Program} {w : World} {base : Nat} {spare : Nat → Bool} {held : Bool}

/-- a slice, opened: its elements by their own opening -/
theorem open_row {α : Type} {d : Kd α} {good : α → Prop} {t e : TypeId} (ht : P.underlying t = some (.slice e)) (hs : P.cellsOf e = d.sz) {fuel : Nat} {cs : List Value} {x : DataW H × List MemPlace}
    (he : ∀ n, n < fuel → ∀ cs x, DataW.trod enc P w base spare held n e cs = some x → ∃ y, d.K w y cs ∧ good y)
    (h : DataW.trod enc P w base spare held fuel t cs = some x) :
    ∃ (A : Option Addr) (c : Nat) (l : List α), cs = [.slice A l.length c] ∧ l.length ≤ c ∧ d.C w A l.length l ∧ ∀ y ∈ l, good y := by
  rcases DataW.trod_slice ht h with ⟨rfl, _⟩ | ⟨a, len, cap, elems, rest, n, rfl, rfl, rfl, hb, hl, hm, hlen, hel, hsp, hns⟩
  · exact ⟨none, 0, [], rfl, Nat.le_refl _, Kd.C_nil d w, by simp⟩
  · have each : ∀ i, i < len → ∃ y cs', w.cells? base (a.add (i * P.cellsOf e)) (P.cellsOf e) = some cs' ∧ d.K w y cs' ∧ good y := by
      intro i hi
      have h1 := hel i hi
      rw [List.getElem?_eq_getElem (by omega), Option.bind_eq_some_iff] at h1
      obtain ⟨cs', h2, h3⟩ := h1
      obtain ⟨y, h4, h5⟩ := he n (by omega) cs' _ h3
      exact ⟨y, cs', h2, h4, h5⟩
    have all : ∀ m, m ≤ len → ∃ l : List α, l.length = m ∧ ∀ i, i < m → ∃ y cs', l[i]? = some y ∧ w.cells? base (a.add (i * P.cellsOf e)) (P.cellsOf e) = some cs' ∧ d.K w y cs' ∧ good y := by
      intro m
      induction m with
      | zero => intro _; exact ⟨[], rfl, fun i hi => by omega⟩
      | succ m ih =>
        intro hm2
        obtain ⟨l, hl2, hg⟩ := ih (by omega)
        obtain ⟨y, cs', h1, h2, h3⟩ := each m (by omega)
        refine ⟨l ++ [y], by simp [hl2], fun i hi => ?_⟩
        by_cases him : i = m
        · subst him
          exact ⟨y, cs', by rw [List.getElem?_append_right (by omega)]; simp [hl2], h1, h2, h3⟩
        · obtain ⟨y', cs2, k1, k2⟩ := hg i (by omega)
          exact ⟨y', cs2, by rw [List.getElem?_append_left (by omega)]; exact k1, k2⟩
    obtain ⟨l, hll, hg⟩ := all len (Nat.le_refl _)
    refine ⟨some a, cap, l, by rw [hll], by omega, ⟨rfl, by unfold maxLen at hm; omega, fun _ => ⟨a, rfl, fun j p hp => ?_⟩⟩, fun y hy => ?_⟩
    · have hj : j < len := by have := (List.getElem?_eq_some_iff.1 hp).1; omega
      obtain ⟨y, cs', h1, h2, h3, h4⟩ := hg j hj
      rw [hp] at h1
      obtain rfl := Option.some.inj h1
      have hlen' := d.K_len h3
      refine ⟨cs', hlen', h3, fun i u hu => ?_⟩
      obtain ⟨hb2, hl2, hc2⟩ := World.cells?_some h2
      have hi : i < cs'.length := (List.getElem?_eq_some_iff.1 hu).1
      have := hc2 i (by omega)
      rw [Addr.add_add, hs] at this
      rw [this, hu]
    · obtain ⟨i, hi, rfl⟩ := List.getElem_of_mem hy
      obtain ⟨y, cs', h1, h2, h3, h4⟩ := hg i (by omega)
      rw [List.getElem?_eq_getElem hi] at h1
      obtain rfl := Option.some.inj h1
      exact h4
/-- whole numbers, opened -/
theorem open_row_int {k : IntKind} {t e : TypeId} (ht : P.underlying t = some (.slice e)) (he : P.underlying e = some (.int k)) (hs : P.cellsOf e = 1) {fuel : Nat} {cs : List Value} {x : DataW H × List MemPlace}
    (h : DataW.trod enc P w base spare held fuel t cs = some x) :
    ∃ (A : Option Addr) (c : Nat) (l : List Int), cs = [.slice A l.length c] ∧ l.length ≤ c ∧ Kd.C (Kd.int k) w A l.length l ∧ ∀ y ∈ l, (Lit.int k y).wf = true :=
  open_row (d := Kd.int k) (good := fun y => (Lit.int k y).wf = true) ht hs (fun n _ cs x hx => by
    obtain ⟨m, h1, _, h2⟩ := DataW.trod_int he hx
    exact ⟨m, h1, h2⟩) h
theorem u64_of_wf {l : List Int} (h : ∀ y ∈ l, (Lit.int .u64 y).wf = true) : U64 l := fun y hy => by
  have := h y hy
  simp [Lit.wf, IntKind.min, IntKind.max, IntKind.bits, IntKind.signed] at this
  omega
end
section
variable {H : Type} {enc : TypeId × Value → H} {w : World} {base : Nat} {spare : Nat → Bool} {held : Bool}
set_option maxRecDepth 100000 in
theorem open_buckets {fuel : Nat} {cs : List Value} {x : DataW H × List MemPlace} (h : DataW.trod enc Tryd.prog w base spare held fuel 24 cs = some x) :
    ∃ (a : Int) (A : Option Addr) (c : Nat) (l : List Int) (u : ByteArray), cs = [.int .i32 a, .slice A l.length c, .string u] ∧ (-2147483648 ≤ a ∧ a ≤ 2147483647) ∧ l.length ≤ c ∧ Kd.C (Kd.int .u64) w A l.length l ∧ U64 l := by
  obtain ⟨xs, n, rfl, rfl, hl, hx, hf⟩ := DataW.trod_struct Tryd.underlying24 h
  have hl3 : cs.length = 3 := hl.trans (by kernel_rfl)
  obtain ⟨c0, c1, c2, rfl⟩ : ∃ c0 c1 c2, cs = [c0, c1, c2] := by
    match cs, hl3 with
    | [c0, c1, c2], _ => exact ⟨c0, c1, c2, rfl⟩
  obtain ⟨x0, x1, x2, rfl⟩ : ∃ x0 x1 x2, xs = [x0, x1, x2] := by
    match xs, hx with
    | [x0, x1, x2], _ => exact ⟨x0, x1, x2, rfl⟩
  have f0 : DataW.trod enc Tryd.prog w base spare held n 21 (([c0, c1, c2].drop 0).take (Tryd.prog.cellsOf 21)) = some x0 := hf 0 _ rfl
  have f1 : DataW.trod enc Tryd.prog w base spare held n 22 (([c0, c1, c2].drop 1).take (Tryd.prog.cellsOf 22)) = some x1 := hf 1 _ rfl
  have f2 : DataW.trod enc Tryd.prog w base spare held n 9 (([c0, c1, c2].drop 2).take (Tryd.prog.cellsOf 9)) = some x2 := hf 2 _ rfl
  have e21 : Tryd.prog.cellsOf 21 = 1 := by kernel_rfl
  have e22 : Tryd.prog.cellsOf 22 = 1 := by kernel_rfl
  have e9 : Tryd.prog.cellsOf 9 = 1 := by kernel_rfl
  rw [e21] at f0
  rw [e22] at f1
  rw [e9] at f2
  obtain ⟨a, h0, _, w0⟩ := DataW.trod_int Tryd.underlying21 f0
  obtain ⟨A, c, l, h1, h2, h3, h4⟩ := open_row_int Tryd.underlying22 Tryd.underlying41 (by kernel_rfl) f1
  obtain ⟨u, h5, _⟩ := DataW.trod_string Tryd.underlying9 f2
  obtain rfl := (List.cons.inj h0).1
  obtain rfl := (List.cons.inj h1).1
  obtain rfl := (List.cons.inj h5).1
  refine ⟨a, A, c, l, u, rfl, ?_, h2, h3, u64_of_wf h4⟩
  simp [Lit.wf, IntKind.min, IntKind.max, IntKind.bits, IntKind.signed] at w0
  omega
end
end Go.Proofs.YtcmghblegllmlaaDoor.Hand
