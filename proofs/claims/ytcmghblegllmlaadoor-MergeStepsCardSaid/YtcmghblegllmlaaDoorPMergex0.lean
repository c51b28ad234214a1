-- Made by a program of this session, after the guide's print, out of the translation. Lean checks it.
import Derived.Test.YtcmghblegllmlaaDoorProg
import Derived.Below
import Derived.Deep.Draws
import Derived.Deep.AppendLies
import Derived.Maps.AppendAt
import Derived.OwnWalk
import Derived.Laws.BytesArg
import Derived.Laws.MakeOwn
import Derived.Laws.OwnMore
import Derived.Deep.OwnRows
import Derived.Tactics
import Derived.Lib.ConvBytes
import Derived.Laws.Slices
import Derived.WalkKit
import Derived.KernelRfl
import Derived.RowKit3
import Derived.Deep.LoopGhost
import Derived.Deep.QuietTactic
import Derived.BigQuiet
import Derived.WideLaws
import Derived.Deep.DeepCutAuto
import Derived.Deep.CutBlock
import Derived.Deep.RegionHeld3
import Derived.Laws.Rows
import Derived.Lib.AppendStr
import Derived.ArgAppend
import Derived.Laws.IdiomCopy
import Derived.OrdersHeld
import Derived.Laws.BitsLemmas
import Derived.RowKit
import Derived.Test.YtcmghblegllmlaaDoorWWords
import Derived.Test.YtcmghblegllmlaaDoorWLast
import Derived.Test.YtcmghblegllmlaaDoorWTab
import Derived.Test.YtcmghblegllmlaaDoorWFour
import Derived.Test.YtcmghblegllmlaaDoorWQPut
import Derived.Test.YtcmghblegllmlaaDoorWApart
import Derived.Test.YtcmghblegllmlaaDoorWArr
import Derived.Test.YtcmghblegllmlaaDoorWZeros
import Derived.Test.YtcmghblegllmlaaDoorWFoot
import Derived.Test.YtcmghblegllmlaaDoorWKept
import Derived.Test.YtcmghblegllmlaaDoorWShare
import Derived.Test.YtcmghblegllmlaaDoorWN
import Derived.Test.YtcmghblegllmlaaDoorWFootNe
import Derived.Test.YtcmghblegllmlaaDoorWAt
import Derived.Test.YtcmghblegllmlaaDoorWEqStruct
import Derived.Test.YtcmghblegllmlaaDoorWRepsOne
import Derived.Test.YtcmghblegllmlaaDoorWInv
import Derived.Test.YtcmghblegllmlaaDoorWInvWords
import Derived.Test.YtcmghblegllmlaaDoorWGuard
import Derived.Test.YtcmghblegllmlaaDoorWNEv
import Derived.Test.YtcmghblegllmlaaDoorWMore
namespace Go.Proofs.YtcmghblegllmlaaDoor.PMerge
open Go.RowKit Go.Proofs.YtcmghblegllmlaaDoorW.PrintWords Go.Proofs.YtcmghblegllmlaaDoorW.PrintLast Go.Proofs.YtcmghblegllmlaaDoorW.PrintMore
attribute [local go_sem] max2_int min2_int max_two min_two max_three min_three max_four min_four   -- for this text's walks alone
set_option linter.unusedVariables false
set_option linter.unusedSimpArgs false



def errW : Option Int → Value
  | none => .nilIface
  | some c => .iface 31 (.int .i64 c)
theorem errW_none : errW none = .nilIface := rfl
theorem errW_some (c : Int) : errW (some c) = .iface 31 (.int .i64 c) := rfl

theorem info41 : (Tryd.prog.info? 41).map (fun i => (i.zero, i.size, i.bytes)) = some (some (.int .u64 0), 1, 8) := by kernel_rfl
theorem info82 : (Tryd.prog.info? 82).map (fun i => (i.zero, i.size, i.bytes)) = some (some (.agg #[(.int .i64 0), (.slice none 0 0)]), 2, 32) := by kernel_rfl
theorem info139 : (Tryd.prog.info? 139).map (fun i => (i.zero, i.size, i.bytes)) = some (some (.agg #[(.int .i64 0), (.int .u64 0)]), 2, 16) := by kernel_rfl
theorem info145 : (Tryd.prog.info? 145).map (fun i => (i.zero, i.size, i.bytes)) = some (some (.agg #[(.slice none 0 0), (.int .u64 0), (.int .i64 0), (.int .u64 0), (.string ⟨#[]⟩), (.string ⟨#[]⟩), (.string ⟨#[]⟩)]), 7, 96) := by kernel_rfl
theorem info150 : (Tryd.prog.info? 150).map (fun i => (i.zero, i.size, i.bytes)) = some (some (.agg #[(.int .i64 0), (.string ⟨#[]⟩), (.bool false), (.int .u64 0), (.slice none 0 0), (.slice none 0 0), (.string ⟨#[]⟩), (.string ⟨#[]⟩)]), 8, 120) := by kernel_rfl
theorem info152 : (Tryd.prog.info? 152).map (fun i => (i.zero, i.size, i.bytes)) = some (some (.agg #[(.string ⟨#[]⟩), (.bool false), (.int .i64 0), (.string ⟨#[]⟩), (.bool false), (.int .u64 0), (.slice none 0 0), (.slice none 0 0), (.string ⟨#[]⟩), (.string ⟨#[]⟩), (.string ⟨#[]⟩)]), 11, 160) := by kernel_rfl
-- the values' own types
/-! #### struct type 150, nested in itself -/
mutual
structure S150 where
  f0 : Int
  f1 : ByteArray
  f2 : Bool
  f3 : Int
  f4 : (List S150)
  f5 : (List S152)
  f6 : ByteArray
  f7 : ByteArray
structure S152 where
  f0 : ByteArray
  f1 : Bool
  f2 : S150
  f3 : ByteArray
end
def z150 : S150 := ⟨(0 : Int), (⟨#[]⟩ : ByteArray), false, (0 : Int), ([] : List S150), ([] : List S152), (⟨#[]⟩ : ByteArray), (⟨#[]⟩ : ByteArray)⟩

def G152 (d : Kd S150) : Kd S152 := Kd.iso (Kd.pair Kd.string (Kd.pair Kd.bool (Kd.pair d Kd.string))) (fun x : S152 => (x.f0, x.f1, x.f2, x.f3))
theorem monoG152 : Kd.Mono G152 := Kd.mono_iso _ (Kd.mono_pair (Kd.mono_const _) (Kd.mono_pair (Kd.mono_const _) (Kd.mono_pair Kd.mono_id (Kd.mono_const _))))
theorem subG152 : Kd.Sub G152 [150, 152] := Kd.sub_iso _ (Kd.sub_pair (Kd.sub_const _ (by decide)) (Kd.sub_pair (Kd.sub_const _ (by decide)) (Kd.sub_pair Kd.sub_id (Kd.sub_const _ (by decide)))))
theorem G152_heap {d : Kd S150} (h : Kd.Heap d) : Kd.Heap (G152 d) := Kd.heap_iso _ (Kd.heap_pair Kd.heap_string (Kd.heap_pair Kd.heap_bool (Kd.heap_pair h Kd.heap_string)))

def F150 (d : Kd S150) : Kd S150 := Kd.iso (Kd.pair (Kd.int .i64) (Kd.pair Kd.string (Kd.pair Kd.bool (Kd.pair (Kd.int .u64) (Kd.pair (Kd.slice 150 d) (Kd.pair (Kd.slice 152 (G152 d)) (Kd.pair Kd.string Kd.string))))))) (fun x : S150 => (x.f0, x.f1, x.f2, x.f3, x.f4, x.f5, x.f6, x.f7))
theorem mono150 : Kd.Mono F150 := Kd.mono_iso _ (Kd.mono_pair (Kd.mono_const _) (Kd.mono_pair (Kd.mono_const _) (Kd.mono_pair (Kd.mono_const _) (Kd.mono_pair (Kd.mono_const _) (Kd.mono_pair (Kd.mono_slice 150 Kd.mono_id) (Kd.mono_pair (Kd.mono_slice 152 monoG152) (Kd.mono_pair (Kd.mono_const _) (Kd.mono_const _))))))))
theorem sub150 : Kd.Sub F150 [150, 152] := Kd.sub_iso _ (Kd.sub_pair (Kd.sub_const _ (by decide)) (Kd.sub_pair (Kd.sub_const _ (by decide)) (Kd.sub_pair (Kd.sub_const _ (by decide)) (Kd.sub_pair (Kd.sub_const _ (by decide)) (Kd.sub_pair (Kd.sub_slice 150 (by decide) Kd.sub_id) (Kd.sub_pair (Kd.sub_slice 152 (by decide) subG152) (Kd.sub_pair (Kd.sub_const _ (by decide)) (Kd.sub_const _ (by decide)))))))))
theorem sz150 : ∀ n, (Kd.upto F150 8 [150, 152] n).sz = 8 := Kd.upto_sz (fun _ => rfl)
def k150 : Kd S150 := Kd.fix F150 8 [150, 152] sz150 (Kd.upto_E sub150)
def k152 : Kd S152 := G152 k150

theorem G152_sz (n : Nat) : (G152 (Kd.upto F150 8 [150, 152] n)).sz = 11 := by
  show 1 + (1 + ((Kd.upto F150 8 [150, 152] n).sz + 1)) = 11
  rw [sz150]
theorem G152_K_back {w : World} {x : S152} {cs : List Value} (h : k152.K w x cs) : ∃ n, (G152 (Kd.upto F150 8 [150, 152] n)).K w x cs := by
  obtain ⟨c0, c1, rfl, h0, c2, c3, rfl, h1, c4, c5, rfl, ⟨n, h2⟩, h3⟩ := h
  exact ⟨n, c0, _, rfl, h0, c2, _, rfl, h1, c4, c5, rfl, h2, h3⟩
theorem G152_M_back {w : World} {base : Nat} {ok : Nat → Prop} {x : S152} {cs : List Value} (h : k152.M w base ok x cs) : ∃ n, (G152 (Kd.upto F150 8 [150, 152] n)).M w base ok x cs := by
  obtain ⟨c0, c1, rfl, h0, c2, c3, rfl, h1, c4, c5, rfl, ⟨n, h2⟩, h3⟩ := h
  exact ⟨n, c0, _, rfl, h0, c2, _, rfl, h1, c4, c5, rfl, h2, h3⟩
theorem G152_K_le {n m : Nat} (h : n ≤ m) {w : World} {x : S152} {cs : List Value} (hk : (G152 (Kd.upto F150 8 [150, 152] n)).K w x cs) : (G152 (Kd.upto F150 8 [150, 152] m)).K w x cs :=
  monoG152.K _ _ (by rw [sz150, sz150]) (fun _ _ _ hp => Kd.upto_K_le mono150 sz150 h hp) w x cs hk
theorem G152_M_le {n m : Nat} (h : n ≤ m) {w : World} {base : Nat} {ok : Nat → Prop} {x : S152} {cs : List Value} (hk : (G152 (Kd.upto F150 8 [150, 152] n)).M w base ok x cs) : (G152 (Kd.upto F150 8 [150, 152] m)).M w base ok x cs :=
  monoG152.M _ _ (by rw [sz150, sz150]) (fun _ _ _ _ _ hp => Kd.upto_M_le mono150 sz150 h hp) w base ok x cs hk
theorem G152_C_le {n m : Nat} (h : n ≤ m) {w : World} {A : Option Addr} {l : Nat} {xs : List S152} (hc : (G152 (Kd.upto F150 8 [150, 152] n)).C w A l xs) : (G152 (Kd.upto F150 8 [150, 152] m)).C w A l xs :=
  Kd.C_imp (by rw [G152_sz, G152_sz]) (fun _ _ _ hp => G152_K_le h hp) hc
theorem G152_R_le {n m : Nat} (h : n ≤ m) {e : Nat} {w : World} {base : Nat} {ok : Nat → Prop} {v : Value} {xs : List S152} (hr : (G152 (Kd.upto F150 8 [150, 152] n)).R e w base ok v xs) : (G152 (Kd.upto F150 8 [150, 152] m)).R e w base ok v xs :=
  Kd.R_imp (by rw [G152_sz, G152_sz]) (fun _ _ _ _ _ hp => G152_M_le h hp) hr
theorem G152_C_fix {n : Nat} {w : World} {A : Option Addr} {l : Nat} {xs : List S152} (hc : (G152 (Kd.upto F150 8 [150, 152] n)).C w A l xs) : k152.C w A l xs :=
  Kd.C_imp (d' := k152) (G152_sz n) (fun w x cs hp => monoG152.K _ k150 (sz150 n) (fun _ _ _ hq => ⟨n, hq⟩) w x cs hp) hc
theorem G152_R_fix {n : Nat} {e : Nat} {w : World} {base : Nat} {ok : Nat → Prop} {v : Value} {xs : List S152} (hr : (G152 (Kd.upto F150 8 [150, 152] n)).R e w base ok v xs) : k152.R e w base ok v xs :=
  Kd.R_imp (d' := k152) (G152_sz n) (fun w base ok x cs hp => monoG152.M _ k150 (sz150 n) (fun _ _ _ _ _ hq => ⟨n, hq⟩) w base ok x cs hp) hr
theorem G152_R_back {e : Nat} {w : World} {base : Nat} {ok : Nat → Prop} {v : Value} {xs : List S152} (h : k152.R e w base ok v xs) : ∃ n, (G152 (Kd.upto F150 8 [150, 152] n)).R e w base ok v xs := by
  obtain ⟨h0, inner, ho, hr⟩ := h
  obtain ⟨N, hN⟩ := Kd.reps_bounded (R := fun n p c => (G152 (Kd.upto F150 8 [150, 152] n)).M w base (fun k => ok k ∧ some k ≠ v.ownBlock) p c) (fun n m p c hnm hp => G152_M_le hnm hp) (hr.imp_ (fun _ _ hp => G152_M_back hp))
  refine ⟨N, h0, inner, ?_, ?_⟩
  · rw [G152_sz N]; exact ho
  · rw [G152_sz N]; exact hN
theorem G152_C_back {w : World} {A : Option Addr} {m : Nat} {xs : List S152} (h : k152.C w A m xs) : ∃ n, (G152 (Kd.upto F150 8 [150, 152] n)).C w A m xs := by
  rcases Nat.eq_zero_or_pos m with hz | hpos
  · subst hz
    exact ⟨0, h.1, h.2.1, fun hp => absurd hp (Nat.lt_irrefl 0)⟩
  · obtain ⟨ad, e, hc⟩ := h.2.2 hpos
    obtain ⟨N, hN⟩ := Kd.bounded (P := fun n j => ∀ p, xs[j]? = some p → ∃ c, c.length = 11 ∧ (G152 (Kd.upto F150 8 [150, 152] n)).K w p c ∧ ∀ i u, c[i]? = some u → w.cell? (ad.add (j * 11 + i)) = some u)
      (fun n n' j hnm hp p hj => by
        obtain ⟨c, h1, h2, h3⟩ := hp p hj
        exact ⟨c, h1, G152_K_le hnm h2, h3⟩) xs.length
      (fun j hj => by
        obtain ⟨c, h1, h2, h3⟩ := hc j _ (List.getElem?_eq_getElem hj)
        obtain ⟨n, h2⟩ := G152_K_back h2
        refine ⟨n, fun p hp => ?_⟩
        rw [List.getElem?_eq_getElem hj] at hp
        injection hp with hp
        rw [← hp]
        exact ⟨c, h1, h2, h3⟩)
    refine ⟨N, h.1, h.2.1, fun _ => ⟨ad, e, fun j p hj => ?_⟩⟩
    rw [G152_sz N]
    exact hN j (List.getElem?_eq_some_iff.1 hj).1 p hj

theorem k150_heap : Kd.Heap k150 := Kd.heap_fix (fun _ h_ => Kd.heap_iso _ (Kd.heap_pair (Kd.heap_int .i64) (Kd.heap_pair Kd.heap_string (Kd.heap_pair Kd.heap_bool (Kd.heap_pair (Kd.heap_int .u64) (Kd.heap_pair (Kd.heap_slice 150 h_) (Kd.heap_pair (Kd.heap_slice 152 (G152_heap h_)) (Kd.heap_pair Kd.heap_string Kd.heap_string))))))))
theorem k152_heap : Kd.Heap k152 := G152_heap k150_heap
theorem k150_open {w : World} {x : S150} {cs : List Value} (h : k150.K w x cs) : ∃ A4 c4 A5 c5, cs = [.int .i64 x.f0, .string x.f1, .bool x.f2, .int .u64 x.f3, .slice A4 x.f4.length c4, .slice A5 x.f5.length c5, .string x.f6, .string x.f7] ∧ x.f4.length ≤ c4 ∧ k150.C w A4 x.f4.length x.f4 ∧ x.f5.length ≤ c5 ∧ k152.C w A5 x.f5.length x.f5 := by
  obtain ⟨n, h⟩ := h
  cases n with
  | zero => exact h.elim
  | succ n =>
    obtain ⟨_, _, rfl, rfl, ⟨_, _, rfl, rfl, ⟨_, _, rfl, rfl, ⟨_, _, rfl, rfl, ⟨_, _, rfl, ⟨A4, c4, rfl, l4, g4⟩, ⟨_, _, rfl, ⟨A5, c5, rfl, l5, g5⟩, ⟨_, _, rfl, rfl, rfl⟩⟩⟩⟩⟩⟩⟩ := h
    exact ⟨A4, c4, A5, c5, rfl, l4, Kd.fix_C g4, l5, G152_C_fix g5⟩
theorem k150_openM {w : World} {base : Nat} {ok : Nat → Prop} {x : S150} {cs : List Value} (h : k150.M w base ok x cs) : ∃ v4 v5, cs = [.int .i64 x.f0, .string x.f1, .bool x.f2, .int .u64 x.f3, v4, v5, .string x.f6, .string x.f7] ∧ k150.R 150 w base ok v4 x.f4 ∧ k152.R 152 w base ok v5 x.f5 := by
  obtain ⟨n, h⟩ := h
  cases n with
  | zero => exact h.elim
  | succ n =>
    obtain ⟨_, _, rfl, rfl, ⟨_, _, rfl, rfl, ⟨_, _, rfl, rfl, ⟨_, _, rfl, rfl, ⟨_, _, rfl, ⟨v4, rfl, g4⟩, ⟨_, _, rfl, ⟨v5, rfl, g5⟩, ⟨_, _, rfl, rfl, rfl⟩⟩⟩⟩⟩⟩⟩ := h
    exact ⟨v4, v5, rfl, Kd.fix_R g4, G152_R_fix g5⟩
theorem k150_mk (w : World) (x : S150) {A4 : Option Addr} {c4 : Nat} (l4 : x.f4.length ≤ c4) (g4 : k150.C w A4 x.f4.length x.f4) {A5 : Option Addr} {c5 : Nat} (l5 : x.f5.length ≤ c5) (g5 : k152.C w A5 x.f5.length x.f5) : k150.K w x [.int .i64 x.f0, .string x.f1, .bool x.f2, .int .u64 x.f3, .slice A4 x.f4.length c4, .slice A5 x.f5.length c5, .string x.f6, .string x.f7] := by
  obtain ⟨n4, q4⟩ := Kd.fix_C_back mono150 g4
  obtain ⟨n5, q5⟩ := G152_C_back g5
  have r4 := Kd.upto_C_le mono150 sz150 (show n4 ≤ (max n4 n5) by omega) q4
  have r5 := G152_C_le (show n5 ≤ (max n4 n5) by omega) q5
  exact ⟨(max n4 n5) + 1, ⟨[.int .i64 x.f0], [.string x.f1, .bool x.f2, .int .u64 x.f3, .slice A4 x.f4.length c4, .slice A5 x.f5.length c5, .string x.f6, .string x.f7], rfl, rfl, ⟨[.string x.f1], [.bool x.f2, .int .u64 x.f3, .slice A4 x.f4.length c4, .slice A5 x.f5.length c5, .string x.f6, .string x.f7], rfl, rfl, ⟨[.bool x.f2], [.int .u64 x.f3, .slice A4 x.f4.length c4, .slice A5 x.f5.length c5, .string x.f6, .string x.f7], rfl, rfl, ⟨[.int .u64 x.f3], [.slice A4 x.f4.length c4, .slice A5 x.f5.length c5, .string x.f6, .string x.f7], rfl, rfl, ⟨[.slice A4 x.f4.length c4], [.slice A5 x.f5.length c5, .string x.f6, .string x.f7], rfl, ⟨A4, c4, rfl, l4, r4⟩, ⟨[.slice A5 x.f5.length c5], [.string x.f6, .string x.f7], rfl, ⟨A5, c5, rfl, l5, r5⟩, ⟨[.string x.f6], [.string x.f7], rfl, rfl, rfl⟩⟩⟩⟩⟩⟩⟩⟩
theorem k150_mkM (w : World) (base : Nat) (ok : Nat → Prop) (x : S150) {v4 : Value} (g4 : k150.R 150 w base ok v4 x.f4) {v5 : Value} (g5 : k152.R 152 w base ok v5 x.f5) : k150.M w base ok x [.int .i64 x.f0, .string x.f1, .bool x.f2, .int .u64 x.f3, v4, v5, .string x.f6, .string x.f7] := by
  obtain ⟨n4, q4⟩ := Kd.fix_R_back mono150 g4
  obtain ⟨n5, q5⟩ := G152_R_back g5
  have r4 := Kd.upto_R_le mono150 sz150 (show n4 ≤ (max n4 n5) by omega) q4
  have r5 := G152_R_le (show n5 ≤ (max n4 n5) by omega) q5
  exact ⟨(max n4 n5) + 1, ⟨[.int .i64 x.f0], [.string x.f1, .bool x.f2, .int .u64 x.f3, v4, v5, .string x.f6, .string x.f7], rfl, rfl, ⟨[.string x.f1], [.bool x.f2, .int .u64 x.f3, v4, v5, .string x.f6, .string x.f7], rfl, rfl, ⟨[.bool x.f2], [.int .u64 x.f3, v4, v5, .string x.f6, .string x.f7], rfl, rfl, ⟨[.int .u64 x.f3], [v4, v5, .string x.f6, .string x.f7], rfl, rfl, ⟨[v4], [v5, .string x.f6, .string x.f7], rfl, ⟨v4, rfl, r4⟩, ⟨[v5], [.string x.f6, .string x.f7], rfl, ⟨v5, rfl, r5⟩, ⟨[.string x.f6], [.string x.f7], rfl, rfl, rfl⟩⟩⟩⟩⟩⟩⟩⟩
theorem k150_openF {W : World} {ok : Nat → Prop} {x : S150} {cs : List Value} (h : Kd.FK k150 W ok x cs) : ∃ A4 c4 A5 c5, cs = [.int .i64 x.f0, .string x.f1, .bool x.f2, .int .u64 x.f3, .slice A4 x.f4.length c4, .slice A5 x.f5.length c5, .string x.f6, .string x.f7] ∧ x.f4.length ≤ c4 ∧ Kd.F k150 W ok A4 x.f4.length x.f4 ∧ x.f5.length ≤ c5 ∧ Kd.F k152 W ok A5 x.f5.length x.f5 := by
  obtain ⟨A4, c4, A5, c5, rfl, l4, _, l5, _⟩ := k150_open (Kd.FK_now h)
  exact ⟨A4, c4, A5, c5, rfl, l4, (fun W' hW => by obtain ⟨A4_, c4_, A5_, c5_, he, l4_, g4_, l5_, g5_⟩ := k150_open (h W' hW); injection (Option.some.inj (show some (Value.slice A4 x.f4.length c4) = some (Value.slice A4_ x.f4.length c4_) from congrArg (fun l => l[4]?) he)) with ha_ _ _; rw [ha_]; exact g4_), l5, (fun W' hW => by obtain ⟨A4_, c4_, A5_, c5_, he, l4_, g4_, l5_, g5_⟩ := k150_open (h W' hW); injection (Option.some.inj (show some (Value.slice A5 x.f5.length c5) = some (Value.slice A5_ x.f5.length c5_) from congrArg (fun l => l[5]?) he)) with ha_ _ _; rw [ha_]; exact g5_)⟩
theorem k150_mkF (W : World) (ok : Nat → Prop) (x : S150) {A4 : Option Addr} {c4 : Nat} (l4 : x.f4.length ≤ c4) (g4 : Kd.F k150 W ok A4 x.f4.length x.f4) {A5 : Option Addr} {c5 : Nat} (l5 : x.f5.length ≤ c5) (g5 : Kd.F k152 W ok A5 x.f5.length x.f5) : Kd.FK k150 W ok x [.int .i64 x.f0, .string x.f1, .bool x.f2, .int .u64 x.f3, .slice A4 x.f4.length c4, .slice A5 x.f5.length c5, .string x.f6, .string x.f7] := fun W2 hW => k150_mk W2 x l4 (g4 W2 hW) l5 (g5 W2 hW)
def rd_T150 (xs : List S150) (i : Int) : S150 := xs.getD i.toNat z150
theorem at_T150 {w : World} {A : Option Addr} {n : Nat} {xs : List S150} (h : Kd.C k150 w A n xs) (i : Int) (h0 : 0 ≤ i) (h1 : i < n) : ∃ ad A4 c4 A5 c5, A = some ad ∧ w.cell? (ad.add (i.toNat * 8)) = some (.int .i64 (rd_T150 xs i).f0) ∧ w.cell? ⟨(ad.add (i.toNat * 8)).block, (ad.add (i.toNat * 8)).off + 1, none⟩ = some (.string (rd_T150 xs i).f1) ∧ w.cell? ⟨(ad.add (i.toNat * 8)).block, (ad.add (i.toNat * 8)).off + 2, none⟩ = some (.bool (rd_T150 xs i).f2) ∧ w.cell? ⟨(ad.add (i.toNat * 8)).block, (ad.add (i.toNat * 8)).off + 3, none⟩ = some (.int .u64 (rd_T150 xs i).f3) ∧ w.cell? ⟨(ad.add (i.toNat * 8)).block, (ad.add (i.toNat * 8)).off + 4, none⟩ = some (.slice A4 (rd_T150 xs i).f4.length c4) ∧ w.cell? ⟨(ad.add (i.toNat * 8)).block, (ad.add (i.toNat * 8)).off + 5, none⟩ = some (.slice A5 (rd_T150 xs i).f5.length c5) ∧ w.cell? ⟨(ad.add (i.toNat * 8)).block, (ad.add (i.toNat * 8)).off + 6, none⟩ = some (.string (rd_T150 xs i).f6) ∧ w.cell? ⟨(ad.add (i.toNat * 8)).block, (ad.add (i.toNat * 8)).off + 7, none⟩ = some (.string (rd_T150 xs i).f7) ∧ (rd_T150 xs i).f4.length ≤ c4 ∧ k150.C w A4 (rd_T150 xs i).f4.length (rd_T150 xs i).f4 ∧ (rd_T150 xs i).f5.length ≤ c5 ∧ k152.C w A5 (rd_T150 xs i).f5.length (rd_T150 xs i).f5 := by
  obtain ⟨ad, c, e, _, hK, hc0⟩ := Kd.C_get h z150 i h0 h1
  have hc : ∀ j u, c[j]? = some u → w.cell? (ad.add (i.toNat * 8 + j)) = some u := hc0
  obtain ⟨A4, c4, A5, c5, rfl, l4, g4, l5, g5⟩ := k150_open hK
  exact ⟨ad, A4, c4, A5, c5, e, hc 0 _ rfl, by rw [← add_field _ _ 1 (by omega)]; exact hc 1 _ rfl, by rw [← add_field _ _ 2 (by omega)]; exact hc 2 _ rfl, by rw [← add_field _ _ 3 (by omega)]; exact hc 3 _ rfl, by rw [← add_field _ _ 4 (by omega)]; exact hc 4 _ rfl, by rw [← add_field _ _ 5 (by omega)]; exact hc 5 _ rfl, by rw [← add_field _ _ 6 (by omega)]; exact hc 6 _ rfl, by rw [← add_field _ _ 7 (by omega)]; exact hc 7 _ rfl, l4, g4, l5, g5⟩

/-! #### struct type 152 -/
-- told beside S150
def z152 : S152 := ⟨(⟨#[]⟩ : ByteArray), false, z150, (⟨#[]⟩ : ByteArray)⟩
theorem k152_open {w : World} {x : S152} {cs : List Value} (h : k152.K w x cs) : ∃ A6 c6 A7 c7, cs = [.string x.f0, .bool x.f1, .int .i64 x.f2.f0, .string x.f2.f1, .bool x.f2.f2, .int .u64 x.f2.f3, .slice A6 x.f2.f4.length c6, .slice A7 x.f2.f5.length c7, .string x.f2.f6, .string x.f2.f7, .string x.f3] ∧ x.f2.f4.length ≤ c6 ∧ k150.C w A6 x.f2.f4.length x.f2.f4 ∧ x.f2.f5.length ≤ c7 ∧ k152.C w A7 x.f2.f5.length x.f2.f5 := by
  obtain ⟨_, _, rfl, rfl, ⟨_, _, rfl, rfl, ⟨_, _, rfl, s2, rfl⟩⟩⟩ := h
  obtain ⟨A6, c6, A7, c7, rfl, l6, g6, l7, g7⟩ := k150_open s2
  exact ⟨A6, c6, A7, c7, rfl, l6, g6, l7, g7⟩
theorem k152_openM {w : World} {base : Nat} {ok : Nat → Prop} {x : S152} {cs : List Value} (h : k152.M w base ok x cs) : ∃ v6 v7, cs = [.string x.f0, .bool x.f1, .int .i64 x.f2.f0, .string x.f2.f1, .bool x.f2.f2, .int .u64 x.f2.f3, v6, v7, .string x.f2.f6, .string x.f2.f7, .string x.f3] ∧ k150.R 150 w base ok v6 x.f2.f4 ∧ k152.R 152 w base ok v7 x.f2.f5 := by
  obtain ⟨_, _, rfl, rfl, ⟨_, _, rfl, rfl, ⟨_, _, rfl, s2, rfl⟩⟩⟩ := h
  obtain ⟨v6, v7, rfl, g6, g7⟩ := k150_openM s2
  exact ⟨v6, v7, rfl, g6, g7⟩
theorem k152_mk (w : World) (x : S152) {A6 : Option Addr} {c6 : Nat} (l6 : x.f2.f4.length ≤ c6) (g6 : k150.C w A6 x.f2.f4.length x.f2.f4) {A7 : Option Addr} {c7 : Nat} (l7 : x.f2.f5.length ≤ c7) (g7 : k152.C w A7 x.f2.f5.length x.f2.f5) : k152.K w x [.string x.f0, .bool x.f1, .int .i64 x.f2.f0, .string x.f2.f1, .bool x.f2.f2, .int .u64 x.f2.f3, .slice A6 x.f2.f4.length c6, .slice A7 x.f2.f5.length c7, .string x.f2.f6, .string x.f2.f7, .string x.f3] := ⟨[.string x.f0], [.bool x.f1, .int .i64 x.f2.f0, .string x.f2.f1, .bool x.f2.f2, .int .u64 x.f2.f3, .slice A6 x.f2.f4.length c6, .slice A7 x.f2.f5.length c7, .string x.f2.f6, .string x.f2.f7, .string x.f3], rfl, rfl, ⟨[.bool x.f1], [.int .i64 x.f2.f0, .string x.f2.f1, .bool x.f2.f2, .int .u64 x.f2.f3, .slice A6 x.f2.f4.length c6, .slice A7 x.f2.f5.length c7, .string x.f2.f6, .string x.f2.f7, .string x.f3], rfl, rfl, ⟨[.int .i64 x.f2.f0, .string x.f2.f1, .bool x.f2.f2, .int .u64 x.f2.f3, .slice A6 x.f2.f4.length c6, .slice A7 x.f2.f5.length c7, .string x.f2.f6, .string x.f2.f7], [.string x.f3], rfl, (k150_mk w x.f2 l6 g6 l7 g7), rfl⟩⟩⟩
theorem k152_mkM (w : World) (base : Nat) (ok : Nat → Prop) (x : S152) {v6 : Value} (g6 : k150.R 150 w base ok v6 x.f2.f4) {v7 : Value} (g7 : k152.R 152 w base ok v7 x.f2.f5) : k152.M w base ok x [.string x.f0, .bool x.f1, .int .i64 x.f2.f0, .string x.f2.f1, .bool x.f2.f2, .int .u64 x.f2.f3, v6, v7, .string x.f2.f6, .string x.f2.f7, .string x.f3] := ⟨[.string x.f0], [.bool x.f1, .int .i64 x.f2.f0, .string x.f2.f1, .bool x.f2.f2, .int .u64 x.f2.f3, v6, v7, .string x.f2.f6, .string x.f2.f7, .string x.f3], rfl, rfl, ⟨[.bool x.f1], [.int .i64 x.f2.f0, .string x.f2.f1, .bool x.f2.f2, .int .u64 x.f2.f3, v6, v7, .string x.f2.f6, .string x.f2.f7, .string x.f3], rfl, rfl, ⟨[.int .i64 x.f2.f0, .string x.f2.f1, .bool x.f2.f2, .int .u64 x.f2.f3, v6, v7, .string x.f2.f6, .string x.f2.f7], [.string x.f3], rfl, (k150_mkM w base ok x.f2 g6 g7), rfl⟩⟩⟩
theorem k152_openF {W : World} {ok : Nat → Prop} {x : S152} {cs : List Value} (h : Kd.FK k152 W ok x cs) : ∃ A6 c6 A7 c7, cs = [.string x.f0, .bool x.f1, .int .i64 x.f2.f0, .string x.f2.f1, .bool x.f2.f2, .int .u64 x.f2.f3, .slice A6 x.f2.f4.length c6, .slice A7 x.f2.f5.length c7, .string x.f2.f6, .string x.f2.f7, .string x.f3] ∧ x.f2.f4.length ≤ c6 ∧ Kd.F k150 W ok A6 x.f2.f4.length x.f2.f4 ∧ x.f2.f5.length ≤ c7 ∧ Kd.F k152 W ok A7 x.f2.f5.length x.f2.f5 := by
  obtain ⟨A6, c6, A7, c7, rfl, l6, _, l7, _⟩ := k152_open (Kd.FK_now h)
  exact ⟨A6, c6, A7, c7, rfl, l6, (fun W' hW => by obtain ⟨A6_, c6_, A7_, c7_, he, l6_, g6_, l7_, g7_⟩ := k152_open (h W' hW); injection (Option.some.inj (show some (Value.slice A6 x.f2.f4.length c6) = some (Value.slice A6_ x.f2.f4.length c6_) from congrArg (fun l => l[6]?) he)) with ha_ _ _; rw [ha_]; exact g6_), l7, (fun W' hW => by obtain ⟨A6_, c6_, A7_, c7_, he, l6_, g6_, l7_, g7_⟩ := k152_open (h W' hW); injection (Option.some.inj (show some (Value.slice A7 x.f2.f5.length c7) = some (Value.slice A7_ x.f2.f5.length c7_) from congrArg (fun l => l[7]?) he)) with ha_ _ _; rw [ha_]; exact g7_)⟩
theorem k152_mkF (W : World) (ok : Nat → Prop) (x : S152) {A6 : Option Addr} {c6 : Nat} (l6 : x.f2.f4.length ≤ c6) (g6 : Kd.F k150 W ok A6 x.f2.f4.length x.f2.f4) {A7 : Option Addr} {c7 : Nat} (l7 : x.f2.f5.length ≤ c7) (g7 : Kd.F k152 W ok A7 x.f2.f5.length x.f2.f5) : Kd.FK k152 W ok x [.string x.f0, .bool x.f1, .int .i64 x.f2.f0, .string x.f2.f1, .bool x.f2.f2, .int .u64 x.f2.f3, .slice A6 x.f2.f4.length c6, .slice A7 x.f2.f5.length c7, .string x.f2.f6, .string x.f2.f7, .string x.f3] := fun W2 hW => k152_mk W2 x l6 (g6 W2 hW) l7 (g7 W2 hW)
def rd_T152 (xs : List S152) (i : Int) : S152 := xs.getD i.toNat z152
theorem at_T152 {w : World} {A : Option Addr} {n : Nat} {xs : List S152} (h : Kd.C k152 w A n xs) (i : Int) (h0 : 0 ≤ i) (h1 : i < n) : ∃ ad A6 c6 A7 c7, A = some ad ∧ w.cell? (ad.add (i.toNat * 11)) = some (.string (rd_T152 xs i).f0) ∧ w.cell? ⟨(ad.add (i.toNat * 11)).block, (ad.add (i.toNat * 11)).off + 1, none⟩ = some (.bool (rd_T152 xs i).f1) ∧ w.cell? ⟨(ad.add (i.toNat * 11)).block, (ad.add (i.toNat * 11)).off + 2, none⟩ = some (.int .i64 (rd_T152 xs i).f2.f0) ∧ w.cell? ⟨(ad.add (i.toNat * 11)).block, (ad.add (i.toNat * 11)).off + 3, none⟩ = some (.string (rd_T152 xs i).f2.f1) ∧ w.cell? ⟨(ad.add (i.toNat * 11)).block, (ad.add (i.toNat * 11)).off + 4, none⟩ = some (.bool (rd_T152 xs i).f2.f2) ∧ w.cell? ⟨(ad.add (i.toNat * 11)).block, (ad.add (i.toNat * 11)).off + 5, none⟩ = some (.int .u64 (rd_T152 xs i).f2.f3) ∧ w.cell? ⟨(ad.add (i.toNat * 11)).block, (ad.add (i.toNat * 11)).off + 6, none⟩ = some (.slice A6 (rd_T152 xs i).f2.f4.length c6) ∧ w.cell? ⟨(ad.add (i.toNat * 11)).block, (ad.add (i.toNat * 11)).off + 7, none⟩ = some (.slice A7 (rd_T152 xs i).f2.f5.length c7) ∧ w.cell? ⟨(ad.add (i.toNat * 11)).block, (ad.add (i.toNat * 11)).off + 8, none⟩ = some (.string (rd_T152 xs i).f2.f6) ∧ w.cell? ⟨(ad.add (i.toNat * 11)).block, (ad.add (i.toNat * 11)).off + 9, none⟩ = some (.string (rd_T152 xs i).f2.f7) ∧ w.cell? ⟨(ad.add (i.toNat * 11)).block, (ad.add (i.toNat * 11)).off + 10, none⟩ = some (.string (rd_T152 xs i).f3) ∧ (rd_T152 xs i).f2.f4.length ≤ c6 ∧ k150.C w A6 (rd_T152 xs i).f2.f4.length (rd_T152 xs i).f2.f4 ∧ (rd_T152 xs i).f2.f5.length ≤ c7 ∧ k152.C w A7 (rd_T152 xs i).f2.f5.length (rd_T152 xs i).f2.f5 := by
  obtain ⟨ad, c, e, _, hK, hc0⟩ := Kd.C_get h z152 i h0 h1
  have hc : ∀ j u, c[j]? = some u → w.cell? (ad.add (i.toNat * 11 + j)) = some u := hc0
  obtain ⟨A6, c6, A7, c7, rfl, l6, g6, l7, g7⟩ := k152_open hK
  exact ⟨ad, A6, c6, A7, c7, e, hc 0 _ rfl, by rw [← add_field _ _ 1 (by omega)]; exact hc 1 _ rfl, by rw [← add_field _ _ 2 (by omega)]; exact hc 2 _ rfl, by rw [← add_field _ _ 3 (by omega)]; exact hc 3 _ rfl, by rw [← add_field _ _ 4 (by omega)]; exact hc 4 _ rfl, by rw [← add_field _ _ 5 (by omega)]; exact hc 5 _ rfl, by rw [← add_field _ _ 6 (by omega)]; exact hc 6 _ rfl, by rw [← add_field _ _ 7 (by omega)]; exact hc 7 _ rfl, by rw [← add_field _ _ 8 (by omega)]; exact hc 8 _ rfl, by rw [← add_field _ _ 9 (by omega)]; exact hc 9 _ rfl, by rw [← add_field _ _ 10 (by omega)]; exact hc 10 _ rfl, l6, g6, l7, g7⟩

def rd_L6 (xs : List (List S152)) (i : Int) : (List S152) := xs.getD i.toNat ([] : List S152)
theorem at_L6 {w : World} {A : Option Addr} {n : Nat} {xs : List (List S152)} (h : Kd.C (Kd.slice 152 k152) w A n xs) (i : Int) (h0 : 0 ≤ i) (h1 : i < n) : ∃ ad A0 c0, A = some ad ∧ w.cell? (ad.add i.toNat) = some (.slice A0 (rd_L6 xs i).length c0) ∧ (rd_L6 xs i).length ≤ c0 ∧ k152.C w A0 (rd_L6 xs i).length (rd_L6 xs i) := by
  obtain ⟨ad, c, e, _, hK, hc0⟩ := Kd.C_get h ([] : List S152) i h0 h1
  have hc : ∀ j u, c[j]? = some u → w.cell? (ad.add (i.toNat * 1 + j)) = some u := hc0
  obtain ⟨A0, c0, rfl, l0, g0⟩ := hK
  exact ⟨ad, A0, c0, e, by have hq := hc 0 _ rfl; rwa [Nat.mul_one, Nat.add_zero] at hq, l0, g0⟩

/-! #### struct type 145 -/
structure S145 where
  f0 : (List S152)
  f1 : Int
  f2 : Int
  f3 : Int
  f4 : ByteArray
  f5 : ByteArray
  f6 : ByteArray
def z145 : S145 := ⟨([] : List S152), (0 : Int), (0 : Int), (0 : Int), (⟨#[]⟩ : ByteArray), (⟨#[]⟩ : ByteArray), (⟨#[]⟩ : ByteArray)⟩
def k145 : Kd S145 := Kd.iso (Kd.pair (Kd.slice 152 k152) (Kd.pair (Kd.int .u64) (Kd.pair (Kd.int .i64) (Kd.pair (Kd.int .u64) (Kd.pair Kd.string (Kd.pair Kd.string Kd.string)))))) (fun x : S145 => (x.f0, x.f1, x.f2, x.f3, x.f4, x.f5, x.f6))
theorem k145_heap : Kd.Heap k145 := Kd.heap_iso _ (Kd.heap_pair (Kd.heap_slice 152 k152_heap) (Kd.heap_pair (Kd.heap_int .u64) (Kd.heap_pair (Kd.heap_int .i64) (Kd.heap_pair (Kd.heap_int .u64) (Kd.heap_pair Kd.heap_string (Kd.heap_pair Kd.heap_string Kd.heap_string))))))
theorem k145_open {w : World} {x : S145} {cs : List Value} (h : k145.K w x cs) : ∃ A0 c0, cs = [.slice A0 x.f0.length c0, .int .u64 x.f1, .int .i64 x.f2, .int .u64 x.f3, .string x.f4, .string x.f5, .string x.f6] ∧ x.f0.length ≤ c0 ∧ k152.C w A0 x.f0.length x.f0 := by
  obtain ⟨_, _, rfl, ⟨A0, c0, rfl, l0, g0⟩, ⟨_, _, rfl, rfl, ⟨_, _, rfl, rfl, ⟨_, _, rfl, rfl, ⟨_, _, rfl, rfl, ⟨_, _, rfl, rfl, rfl⟩⟩⟩⟩⟩⟩ := h
  exact ⟨A0, c0, rfl, l0, g0⟩
theorem k145_openM {w : World} {base : Nat} {ok : Nat → Prop} {x : S145} {cs : List Value} (h : k145.M w base ok x cs) : ∃ v0, cs = [v0, .int .u64 x.f1, .int .i64 x.f2, .int .u64 x.f3, .string x.f4, .string x.f5, .string x.f6] ∧ k152.R 152 w base ok v0 x.f0 := by
  obtain ⟨_, _, rfl, ⟨v0, rfl, g0⟩, ⟨_, _, rfl, rfl, ⟨_, _, rfl, rfl, ⟨_, _, rfl, rfl, ⟨_, _, rfl, rfl, ⟨_, _, rfl, rfl, rfl⟩⟩⟩⟩⟩⟩ := h
  exact ⟨v0, rfl, g0⟩
theorem k145_mk (w : World) (x : S145) {A0 : Option Addr} {c0 : Nat} (l0 : x.f0.length ≤ c0) (g0 : k152.C w A0 x.f0.length x.f0) : k145.K w x [.slice A0 x.f0.length c0, .int .u64 x.f1, .int .i64 x.f2, .int .u64 x.f3, .string x.f4, .string x.f5, .string x.f6] := ⟨[.slice A0 x.f0.length c0], [.int .u64 x.f1, .int .i64 x.f2, .int .u64 x.f3, .string x.f4, .string x.f5, .string x.f6], rfl, ⟨A0, c0, rfl, l0, g0⟩, ⟨[.int .u64 x.f1], [.int .i64 x.f2, .int .u64 x.f3, .string x.f4, .string x.f5, .string x.f6], rfl, rfl, ⟨[.int .i64 x.f2], [.int .u64 x.f3, .string x.f4, .string x.f5, .string x.f6], rfl, rfl, ⟨[.int .u64 x.f3], [.string x.f4, .string x.f5, .string x.f6], rfl, rfl, ⟨[.string x.f4], [.string x.f5, .string x.f6], rfl, rfl, ⟨[.string x.f5], [.string x.f6], rfl, rfl, rfl⟩⟩⟩⟩⟩⟩
theorem k145_mkM (w : World) (base : Nat) (ok : Nat → Prop) (x : S145) {v0 : Value} (g0 : k152.R 152 w base ok v0 x.f0) : k145.M w base ok x [v0, .int .u64 x.f1, .int .i64 x.f2, .int .u64 x.f3, .string x.f4, .string x.f5, .string x.f6] := ⟨[v0], [.int .u64 x.f1, .int .i64 x.f2, .int .u64 x.f3, .string x.f4, .string x.f5, .string x.f6], rfl, ⟨v0, rfl, g0⟩, ⟨[.int .u64 x.f1], [.int .i64 x.f2, .int .u64 x.f3, .string x.f4, .string x.f5, .string x.f6], rfl, rfl, ⟨[.int .i64 x.f2], [.int .u64 x.f3, .string x.f4, .string x.f5, .string x.f6], rfl, rfl, ⟨[.int .u64 x.f3], [.string x.f4, .string x.f5, .string x.f6], rfl, rfl, ⟨[.string x.f4], [.string x.f5, .string x.f6], rfl, rfl, ⟨[.string x.f5], [.string x.f6], rfl, rfl, rfl⟩⟩⟩⟩⟩⟩
theorem k145_openF {W : World} {ok : Nat → Prop} {x : S145} {cs : List Value} (h : Kd.FK k145 W ok x cs) : ∃ A0 c0, cs = [.slice A0 x.f0.length c0, .int .u64 x.f1, .int .i64 x.f2, .int .u64 x.f3, .string x.f4, .string x.f5, .string x.f6] ∧ x.f0.length ≤ c0 ∧ Kd.F k152 W ok A0 x.f0.length x.f0 := by
  obtain ⟨A0, c0, rfl, l0, _⟩ := k145_open (Kd.FK_now h)
  exact ⟨A0, c0, rfl, l0, (fun W' hW => by obtain ⟨A0_, c0_, he, l0_, g0_⟩ := k145_open (h W' hW); injection (Option.some.inj (show some (Value.slice A0 x.f0.length c0) = some (Value.slice A0_ x.f0.length c0_) from congrArg (fun l => l[0]?) he)) with ha_ _ _; rw [ha_]; exact g0_)⟩
theorem k145_mkF (W : World) (ok : Nat → Prop) (x : S145) {A0 : Option Addr} {c0 : Nat} (l0 : x.f0.length ≤ c0) (g0 : Kd.F k152 W ok A0 x.f0.length x.f0) : Kd.FK k145 W ok x [.slice A0 x.f0.length c0, .int .u64 x.f1, .int .i64 x.f2, .int .u64 x.f3, .string x.f4, .string x.f5, .string x.f6] := fun W2 hW => k145_mk W2 x l0 (g0 W2 hW)
def rd_T145 (xs : List S145) (i : Int) : S145 := xs.getD i.toNat z145
theorem at_T145 {w : World} {A : Option Addr} {n : Nat} {xs : List S145} (h : Kd.C k145 w A n xs) (i : Int) (h0 : 0 ≤ i) (h1 : i < n) : ∃ ad A0 c0, A = some ad ∧ w.cell? (ad.add (i.toNat * 7)) = some (.slice A0 (rd_T145 xs i).f0.length c0) ∧ w.cell? ⟨(ad.add (i.toNat * 7)).block, (ad.add (i.toNat * 7)).off + 1, none⟩ = some (.int .u64 (rd_T145 xs i).f1) ∧ w.cell? ⟨(ad.add (i.toNat * 7)).block, (ad.add (i.toNat * 7)).off + 2, none⟩ = some (.int .i64 (rd_T145 xs i).f2) ∧ w.cell? ⟨(ad.add (i.toNat * 7)).block, (ad.add (i.toNat * 7)).off + 3, none⟩ = some (.int .u64 (rd_T145 xs i).f3) ∧ w.cell? ⟨(ad.add (i.toNat * 7)).block, (ad.add (i.toNat * 7)).off + 4, none⟩ = some (.string (rd_T145 xs i).f4) ∧ w.cell? ⟨(ad.add (i.toNat * 7)).block, (ad.add (i.toNat * 7)).off + 5, none⟩ = some (.string (rd_T145 xs i).f5) ∧ w.cell? ⟨(ad.add (i.toNat * 7)).block, (ad.add (i.toNat * 7)).off + 6, none⟩ = some (.string (rd_T145 xs i).f6) ∧ (rd_T145 xs i).f0.length ≤ c0 ∧ k152.C w A0 (rd_T145 xs i).f0.length (rd_T145 xs i).f0 := by
  obtain ⟨ad, c, e, _, hK, hc0⟩ := Kd.C_get h z145 i h0 h1
  have hc : ∀ j u, c[j]? = some u → w.cell? (ad.add (i.toNat * 7 + j)) = some u := hc0
  obtain ⟨A0, c0, rfl, l0, g0⟩ := k145_open hK
  exact ⟨ad, A0, c0, e, hc 0 _ rfl, by rw [← add_field _ _ 1 (by omega)]; exact hc 1 _ rfl, by rw [← add_field _ _ 2 (by omega)]; exact hc 2 _ rfl, by rw [← add_field _ _ 3 (by omega)]; exact hc 3 _ rfl, by rw [← add_field _ _ 4 (by omega)]; exact hc 4 _ rfl, by rw [← add_field _ _ 5 (by omega)]; exact hc 5 _ rfl, by rw [← add_field _ _ 6 (by omega)]; exact hc 6 _ rfl, l0, g0⟩

/-! #### struct type 139 -/
structure S139 where
  f0 : Int
  f1 : Int
def z139 : S139 := ⟨(0 : Int), (0 : Int)⟩
def k139 : Kd S139 := Kd.iso (Kd.pair (Kd.int .i64) (Kd.int .u64)) (fun x : S139 => (x.f0, x.f1))
theorem k139_heap : Kd.Heap k139 := Kd.heap_iso _ (Kd.heap_pair (Kd.heap_int .i64) (Kd.heap_int .u64))
theorem k139_open {w : World} {x : S139} {cs : List Value} (h : k139.K w x cs) : cs = [.int .i64 x.f0, .int .u64 x.f1] := by
  obtain ⟨_, _, rfl, rfl, rfl⟩ := h
  exact rfl
theorem k139_openM {w : World} {base : Nat} {ok : Nat → Prop} {x : S139} {cs : List Value} (h : k139.M w base ok x cs) : cs = [.int .i64 x.f0, .int .u64 x.f1] := by
  obtain ⟨_, _, rfl, rfl, rfl⟩ := h
  exact rfl
theorem k139_mk (w : World) (x : S139)  : k139.K w x [.int .i64 x.f0, .int .u64 x.f1] := ⟨[.int .i64 x.f0], [.int .u64 x.f1], rfl, rfl, rfl⟩
theorem k139_mkM (w : World) (base : Nat) (ok : Nat → Prop) (x : S139)  : k139.M w base ok x [.int .i64 x.f0, .int .u64 x.f1] := ⟨[.int .i64 x.f0], [.int .u64 x.f1], rfl, rfl, rfl⟩
theorem k139_mkF (W : World) (ok : Nat → Prop) (x : S139) : Kd.FK k139 W ok x [.int .i64 x.f0, .int .u64 x.f1] := fun W2 _ => k139_mk W2 x
def rd_T139 (xs : List S139) (i : Int) : S139 := xs.getD i.toNat z139
theorem at_T139 {w : World} {A : Option Addr} {n : Nat} {xs : List S139} (h : Kd.C k139 w A n xs) (i : Int) (h0 : 0 ≤ i) (h1 : i < n) : ∃ ad , A = some ad ∧ w.cell? (ad.add (i.toNat * 2)) = some (.int .i64 (rd_T139 xs i).f0) ∧ w.cell? ⟨(ad.add (i.toNat * 2)).block, (ad.add (i.toNat * 2)).off + 1, none⟩ = some (.int .u64 (rd_T139 xs i).f1) := by
  obtain ⟨ad, c, e, _, hK, hc0⟩ := Kd.C_get h z139 i h0 h1
  have hc : ∀ j u, c[j]? = some u → w.cell? (ad.add (i.toNat * 2 + j)) = some u := hc0
  obtain rfl := k139_open hK
  exact ⟨ad, e, hc 0 _ rfl, by rw [← add_field _ _ 1 (by omega)]; exact hc 1 _ rfl⟩

/-! #### struct type 43 -/
structure S43 where
  f0 : Bool
  f1 : Int
def z43 : S43 := ⟨false, (0 : Int)⟩
def k43 : Kd S43 := Kd.iso (Kd.pair Kd.bool (Kd.int .u64)) (fun x : S43 => (x.f0, x.f1))
theorem k43_heap : Kd.Heap k43 := Kd.heap_iso _ (Kd.heap_pair Kd.heap_bool (Kd.heap_int .u64))
theorem k43_open {w : World} {x : S43} {cs : List Value} (h : k43.K w x cs) : cs = [.bool x.f0, .int .u64 x.f1] := by
  obtain ⟨_, _, rfl, rfl, rfl⟩ := h
  exact rfl
theorem k43_openM {w : World} {base : Nat} {ok : Nat → Prop} {x : S43} {cs : List Value} (h : k43.M w base ok x cs) : cs = [.bool x.f0, .int .u64 x.f1] := by
  obtain ⟨_, _, rfl, rfl, rfl⟩ := h
  exact rfl
theorem k43_mk (w : World) (x : S43)  : k43.K w x [.bool x.f0, .int .u64 x.f1] := ⟨[.bool x.f0], [.int .u64 x.f1], rfl, rfl, rfl⟩
theorem k43_mkM (w : World) (base : Nat) (ok : Nat → Prop) (x : S43)  : k43.M w base ok x [.bool x.f0, .int .u64 x.f1] := ⟨[.bool x.f0], [.int .u64 x.f1], rfl, rfl, rfl⟩
theorem k43_mkF (W : World) (ok : Nat → Prop) (x : S43) : Kd.FK k43 W ok x [.bool x.f0, .int .u64 x.f1] := fun W2 _ => k43_mk W2 x
def rd_T43 (xs : List S43) (i : Int) : S43 := xs.getD i.toNat z43
theorem at_T43 {w : World} {A : Option Addr} {n : Nat} {xs : List S43} (h : Kd.C k43 w A n xs) (i : Int) (h0 : 0 ≤ i) (h1 : i < n) : ∃ ad , A = some ad ∧ w.cell? (ad.add (i.toNat * 2)) = some (.bool (rd_T43 xs i).f0) ∧ w.cell? ⟨(ad.add (i.toNat * 2)).block, (ad.add (i.toNat * 2)).off + 1, none⟩ = some (.int .u64 (rd_T43 xs i).f1) := by
  obtain ⟨ad, c, e, _, hK, hc0⟩ := Kd.C_get h z43 i h0 h1
  have hc : ∀ j u, c[j]? = some u → w.cell? (ad.add (i.toNat * 2 + j)) = some u := hc0
  obtain rfl := k43_open hK
  exact ⟨ad, e, hc 0 _ rfl, by rw [← add_field _ _ 1 (by omega)]; exact hc 1 _ rfl⟩

def rd_L11 (xs : List (List Int)) (i : Int) : (List Int) := xs.getD i.toNat ([] : List Int)
theorem at_L11 {w : World} {A : Option Addr} {n : Nat} {xs : List (List Int)} (h : Kd.C (Kd.slice 41 (Kd.int .u64)) w A n xs) (i : Int) (h0 : 0 ≤ i) (h1 : i < n) : ∃ ad A0 c0, A = some ad ∧ w.cell? (ad.add i.toNat) = some (.slice A0 (rd_L11 xs i).length c0) ∧ (rd_L11 xs i).length ≤ c0 ∧ (Kd.int .u64).C w A0 (rd_L11 xs i).length (rd_L11 xs i) := by
  obtain ⟨ad, c, e, _, hK, hc0⟩ := Kd.C_get h ([] : List Int) i h0 h1
  have hc : ∀ j u, c[j]? = some u → w.cell? (ad.add (i.toNat * 1 + j)) = some u := hc0
  obtain ⟨A0, c0, rfl, l0, g0⟩ := hK
  exact ⟨ad, A0, c0, e, by have hq := hc 0 _ rfl; rwa [Nat.mul_one, Nat.add_zero] at hq, l0, g0⟩

/-! #### struct type 24 -/
structure S24 where
  f0 : Int
  f1 : (List Int)
  f2 : ByteArray
def z24 : S24 := ⟨(0 : Int), ([] : List Int), (⟨#[]⟩ : ByteArray)⟩
def k24 : Kd S24 := Kd.iso (Kd.pair (Kd.int .i32) (Kd.pair (Kd.slice 41 (Kd.int .u64)) Kd.string)) (fun x : S24 => (x.f0, x.f1, x.f2))
theorem k24_heap : Kd.Heap k24 := Kd.heap_iso _ (Kd.heap_pair (Kd.heap_int .i32) (Kd.heap_pair (Kd.heap_slice 41 (Kd.heap_int .u64)) Kd.heap_string))
theorem k24_open {w : World} {x : S24} {cs : List Value} (h : k24.K w x cs) : ∃ A1 c1, cs = [.int .i32 x.f0, .slice A1 x.f1.length c1, .string x.f2] ∧ x.f1.length ≤ c1 ∧ (Kd.int .u64).C w A1 x.f1.length x.f1 := by
  obtain ⟨_, _, rfl, rfl, ⟨_, _, rfl, ⟨A1, c1, rfl, l1, g1⟩, rfl⟩⟩ := h
  exact ⟨A1, c1, rfl, l1, g1⟩
theorem k24_openM {w : World} {base : Nat} {ok : Nat → Prop} {x : S24} {cs : List Value} (h : k24.M w base ok x cs) : ∃ v1, cs = [.int .i32 x.f0, v1, .string x.f2] ∧ (Kd.int .u64).R 41 w base ok v1 x.f1 := by
  obtain ⟨_, _, rfl, rfl, ⟨_, _, rfl, ⟨v1, rfl, g1⟩, rfl⟩⟩ := h
  exact ⟨v1, rfl, g1⟩
theorem k24_mk (w : World) (x : S24) {A1 : Option Addr} {c1 : Nat} (l1 : x.f1.length ≤ c1) (g1 : (Kd.int .u64).C w A1 x.f1.length x.f1) : k24.K w x [.int .i32 x.f0, .slice A1 x.f1.length c1, .string x.f2] := ⟨[.int .i32 x.f0], [.slice A1 x.f1.length c1, .string x.f2], rfl, rfl, ⟨[.slice A1 x.f1.length c1], [.string x.f2], rfl, ⟨A1, c1, rfl, l1, g1⟩, rfl⟩⟩
theorem k24_mkM (w : World) (base : Nat) (ok : Nat → Prop) (x : S24) {v1 : Value} (g1 : (Kd.int .u64).R 41 w base ok v1 x.f1) : k24.M w base ok x [.int .i32 x.f0, v1, .string x.f2] := ⟨[.int .i32 x.f0], [v1, .string x.f2], rfl, rfl, ⟨[v1], [.string x.f2], rfl, ⟨v1, rfl, g1⟩, rfl⟩⟩
theorem k24_openF {W : World} {ok : Nat → Prop} {x : S24} {cs : List Value} (h : Kd.FK k24 W ok x cs) : ∃ A1 c1, cs = [.int .i32 x.f0, .slice A1 x.f1.length c1, .string x.f2] ∧ x.f1.length ≤ c1 ∧ Kd.F (Kd.int .u64) W ok A1 x.f1.length x.f1 := by
  obtain ⟨A1, c1, rfl, l1, _⟩ := k24_open (Kd.FK_now h)
  exact ⟨A1, c1, rfl, l1, (fun W' hW => by obtain ⟨A1_, c1_, he, l1_, g1_⟩ := k24_open (h W' hW); injection (Option.some.inj (show some (Value.slice A1 x.f1.length c1) = some (Value.slice A1_ x.f1.length c1_) from congrArg (fun l => l[1]?) he)) with ha_ _ _; rw [ha_]; exact g1_)⟩
theorem k24_mkF (W : World) (ok : Nat → Prop) (x : S24) {A1 : Option Addr} {c1 : Nat} (l1 : x.f1.length ≤ c1) (g1 : Kd.F (Kd.int .u64) W ok A1 x.f1.length x.f1) : Kd.FK k24 W ok x [.int .i32 x.f0, .slice A1 x.f1.length c1, .string x.f2] := fun W2 hW => k24_mk W2 x l1 (g1 W2 hW)
def rd_T24 (xs : List S24) (i : Int) : S24 := xs.getD i.toNat z24
theorem at_T24 {w : World} {A : Option Addr} {n : Nat} {xs : List S24} (h : Kd.C k24 w A n xs) (i : Int) (h0 : 0 ≤ i) (h1 : i < n) : ∃ ad A1 c1, A = some ad ∧ w.cell? (ad.add (i.toNat * 3)) = some (.int .i32 (rd_T24 xs i).f0) ∧ w.cell? ⟨(ad.add (i.toNat * 3)).block, (ad.add (i.toNat * 3)).off + 1, none⟩ = some (.slice A1 (rd_T24 xs i).f1.length c1) ∧ w.cell? ⟨(ad.add (i.toNat * 3)).block, (ad.add (i.toNat * 3)).off + 2, none⟩ = some (.string (rd_T24 xs i).f2) ∧ (rd_T24 xs i).f1.length ≤ c1 ∧ (Kd.int .u64).C w A1 (rd_T24 xs i).f1.length (rd_T24 xs i).f1 := by
  obtain ⟨ad, c, e, _, hK, hc0⟩ := Kd.C_get h z24 i h0 h1
  have hc : ∀ j u, c[j]? = some u → w.cell? (ad.add (i.toNat * 3 + j)) = some u := hc0
  obtain ⟨A1, c1, rfl, l1, g1⟩ := k24_open hK
  exact ⟨ad, A1, c1, e, hc 0 _ rfl, by rw [← add_field _ _ 1 (by omega)]; exact hc 1 _ rfl, by rw [← add_field _ _ 2 (by omega)]; exact hc 2 _ rfl, l1, g1⟩

def rd_L13 (xs : List (List S145)) (i : Int) : (List S145) := xs.getD i.toNat ([] : List S145)
theorem at_L13 {w : World} {A : Option Addr} {n : Nat} {xs : List (List S145)} (h : Kd.C (Kd.slice 145 k145) w A n xs) (i : Int) (h0 : 0 ≤ i) (h1 : i < n) : ∃ ad A0 c0, A = some ad ∧ w.cell? (ad.add i.toNat) = some (.slice A0 (rd_L13 xs i).length c0) ∧ (rd_L13 xs i).length ≤ c0 ∧ k145.C w A0 (rd_L13 xs i).length (rd_L13 xs i) := by
  obtain ⟨ad, c, e, _, hK, hc0⟩ := Kd.C_get h ([] : List S145) i h0 h1
  have hc : ∀ j u, c[j]? = some u → w.cell? (ad.add (i.toNat * 1 + j)) = some u := hc0
  obtain ⟨A0, c0, rfl, l0, g0⟩ := hK
  exact ⟨ad, A0, c0, e, by have hq := hc 0 _ rfl; rwa [Nat.mul_one, Nat.add_zero] at hq, l0, g0⟩

/-! #### struct type 47 -/
structure S47 where
  f0 : (List S152)
  f1 : Int
  f2 : Int
  f3 : Int
  f4 : S43
  f5 : S43
  f6 : S43
  f7 : Int
  f8 : Int
  f9 : Bool
  f10 : S24
  f11 : Bool
  f12 : S24
  f13 : (List S145)
  f14 : Int
  f15 : Int
  f16 : ByteArray
def z47 : S47 := ⟨([] : List S152), (0 : Int), (0 : Int), (0 : Int), z43, z43, z43, (0 : Int), (0 : Int), false, z24, false, z24, ([] : List S145), (0 : Int), (0 : Int), (⟨#[]⟩ : ByteArray)⟩
def k47 : Kd S47 := Kd.iso (Kd.pair (Kd.slice 152 k152) (Kd.pair (Kd.int .u64) (Kd.pair (Kd.int .u64) (Kd.pair (Kd.int .u64) (Kd.pair k43 (Kd.pair k43 (Kd.pair k43 (Kd.pair (Kd.int .i32) (Kd.pair (Kd.int .u64) (Kd.pair Kd.bool (Kd.pair k24 (Kd.pair Kd.bool (Kd.pair k24 (Kd.pair (Kd.slice 145 k145) (Kd.pair (Kd.int .u32) (Kd.pair (Kd.int .u64) Kd.string)))))))))))))))) (fun x : S47 => (x.f0, x.f1, x.f2, x.f3, x.f4, x.f5, x.f6, x.f7, x.f8, x.f9, x.f10, x.f11, x.f12, x.f13, x.f14, x.f15, x.f16))
theorem k47_heap : Kd.Heap k47 := Kd.heap_iso _ (Kd.heap_pair (Kd.heap_slice 152 k152_heap) (Kd.heap_pair (Kd.heap_int .u64) (Kd.heap_pair (Kd.heap_int .u64) (Kd.heap_pair (Kd.heap_int .u64) (Kd.heap_pair k43_heap (Kd.heap_pair k43_heap (Kd.heap_pair k43_heap (Kd.heap_pair (Kd.heap_int .i32) (Kd.heap_pair (Kd.heap_int .u64) (Kd.heap_pair Kd.heap_bool (Kd.heap_pair k24_heap (Kd.heap_pair Kd.heap_bool (Kd.heap_pair k24_heap (Kd.heap_pair (Kd.heap_slice 145 k145_heap) (Kd.heap_pair (Kd.heap_int .u32) (Kd.heap_pair (Kd.heap_int .u64) Kd.heap_string))))))))))))))))
theorem k47_open {w : World} {x : S47} {cs : List Value} (h : k47.K w x cs) : ∃ A0 c0 A14 c14 A18 c18 A20 c20, cs = [.slice A0 x.f0.length c0, .int .u64 x.f1, .int .u64 x.f2, .int .u64 x.f3, .bool x.f4.f0, .int .u64 x.f4.f1, .bool x.f5.f0, .int .u64 x.f5.f1, .bool x.f6.f0, .int .u64 x.f6.f1, .int .i32 x.f7, .int .u64 x.f8, .bool x.f9, .int .i32 x.f10.f0, .slice A14 x.f10.f1.length c14, .string x.f10.f2, .bool x.f11, .int .i32 x.f12.f0, .slice A18 x.f12.f1.length c18, .string x.f12.f2, .slice A20 x.f13.length c20, .int .u32 x.f14, .int .u64 x.f15, .string x.f16] ∧ x.f0.length ≤ c0 ∧ k152.C w A0 x.f0.length x.f0 ∧ x.f10.f1.length ≤ c14 ∧ (Kd.int .u64).C w A14 x.f10.f1.length x.f10.f1 ∧ x.f12.f1.length ≤ c18 ∧ (Kd.int .u64).C w A18 x.f12.f1.length x.f12.f1 ∧ x.f13.length ≤ c20 ∧ k145.C w A20 x.f13.length x.f13 := by
  obtain ⟨_, _, rfl, ⟨A0, c0, rfl, l0, g0⟩, ⟨_, _, rfl, rfl, ⟨_, _, rfl, rfl, ⟨_, _, rfl, rfl, ⟨_, _, rfl, s4, ⟨_, _, rfl, s6, ⟨_, _, rfl, s8, ⟨_, _, rfl, rfl, ⟨_, _, rfl, rfl, ⟨_, _, rfl, rfl, ⟨_, _, rfl, s13, ⟨_, _, rfl, rfl, ⟨_, _, rfl, s17, ⟨_, _, rfl, ⟨A20, c20, rfl, l20, g20⟩, ⟨_, _, rfl, rfl, ⟨_, _, rfl, rfl, rfl⟩⟩⟩⟩⟩⟩⟩⟩⟩⟩⟩⟩⟩⟩⟩⟩ := h
  obtain rfl := k43_open s4
  obtain rfl := k43_open s6
  obtain rfl := k43_open s8
  obtain ⟨A14, c14, rfl, l14, g14⟩ := k24_open s13
  obtain ⟨A18, c18, rfl, l18, g18⟩ := k24_open s17
  exact ⟨A0, c0, A14, c14, A18, c18, A20, c20, rfl, l0, g0, l14, g14, l18, g18, l20, g20⟩
theorem k47_openM {w : World} {base : Nat} {ok : Nat → Prop} {x : S47} {cs : List Value} (h : k47.M w base ok x cs) : ∃ v0 v14 v18 v20, cs = [v0, .int .u64 x.f1, .int .u64 x.f2, .int .u64 x.f3, .bool x.f4.f0, .int .u64 x.f4.f1, .bool x.f5.f0, .int .u64 x.f5.f1, .bool x.f6.f0, .int .u64 x.f6.f1, .int .i32 x.f7, .int .u64 x.f8, .bool x.f9, .int .i32 x.f10.f0, v14, .string x.f10.f2, .bool x.f11, .int .i32 x.f12.f0, v18, .string x.f12.f2, v20, .int .u32 x.f14, .int .u64 x.f15, .string x.f16] ∧ k152.R 152 w base ok v0 x.f0 ∧ (Kd.int .u64).R 41 w base ok v14 x.f10.f1 ∧ (Kd.int .u64).R 41 w base ok v18 x.f12.f1 ∧ k145.R 145 w base ok v20 x.f13 := by
  obtain ⟨_, _, rfl, ⟨v0, rfl, g0⟩, ⟨_, _, rfl, rfl, ⟨_, _, rfl, rfl, ⟨_, _, rfl, rfl, ⟨_, _, rfl, s4, ⟨_, _, rfl, s6, ⟨_, _, rfl, s8, ⟨_, _, rfl, rfl, ⟨_, _, rfl, rfl, ⟨_, _, rfl, rfl, ⟨_, _, rfl, s13, ⟨_, _, rfl, rfl, ⟨_, _, rfl, s17, ⟨_, _, rfl, ⟨v20, rfl, g20⟩, ⟨_, _, rfl, rfl, ⟨_, _, rfl, rfl, rfl⟩⟩⟩⟩⟩⟩⟩⟩⟩⟩⟩⟩⟩⟩⟩⟩ := h
  obtain rfl := k43_openM s4
  obtain rfl := k43_openM s6
  obtain rfl := k43_openM s8
  obtain ⟨v14, rfl, g14⟩ := k24_openM s13
  obtain ⟨v18, rfl, g18⟩ := k24_openM s17
  exact ⟨v0, v14, v18, v20, rfl, g0, g14, g18, g20⟩
theorem k47_mk (w : World) (x : S47) {A0 : Option Addr} {c0 : Nat} (l0 : x.f0.length ≤ c0) (g0 : k152.C w A0 x.f0.length x.f0) {A14 : Option Addr} {c14 : Nat} (l14 : x.f10.f1.length ≤ c14) (g14 : (Kd.int .u64).C w A14 x.f10.f1.length x.f10.f1) {A18 : Option Addr} {c18 : Nat} (l18 : x.f12.f1.length ≤ c18) (g18 : (Kd.int .u64).C w A18 x.f12.f1.length x.f12.f1) {A20 : Option Addr} {c20 : Nat} (l20 : x.f13.length ≤ c20) (g20 : k145.C w A20 x.f13.length x.f13) : k47.K w x [.slice A0 x.f0.length c0, .int .u64 x.f1, .int .u64 x.f2, .int .u64 x.f3, .bool x.f4.f0, .int .u64 x.f4.f1, .bool x.f5.f0, .int .u64 x.f5.f1, .bool x.f6.f0, .int .u64 x.f6.f1, .int .i32 x.f7, .int .u64 x.f8, .bool x.f9, .int .i32 x.f10.f0, .slice A14 x.f10.f1.length c14, .string x.f10.f2, .bool x.f11, .int .i32 x.f12.f0, .slice A18 x.f12.f1.length c18, .string x.f12.f2, .slice A20 x.f13.length c20, .int .u32 x.f14, .int .u64 x.f15, .string x.f16] := ⟨[.slice A0 x.f0.length c0], [.int .u64 x.f1, .int .u64 x.f2, .int .u64 x.f3, .bool x.f4.f0, .int .u64 x.f4.f1, .bool x.f5.f0, .int .u64 x.f5.f1, .bool x.f6.f0, .int .u64 x.f6.f1, .int .i32 x.f7, .int .u64 x.f8, .bool x.f9, .int .i32 x.f10.f0, .slice A14 x.f10.f1.length c14, .string x.f10.f2, .bool x.f11, .int .i32 x.f12.f0, .slice A18 x.f12.f1.length c18, .string x.f12.f2, .slice A20 x.f13.length c20, .int .u32 x.f14, .int .u64 x.f15, .string x.f16], rfl, ⟨A0, c0, rfl, l0, g0⟩, ⟨[.int .u64 x.f1], [.int .u64 x.f2, .int .u64 x.f3, .bool x.f4.f0, .int .u64 x.f4.f1, .bool x.f5.f0, .int .u64 x.f5.f1, .bool x.f6.f0, .int .u64 x.f6.f1, .int .i32 x.f7, .int .u64 x.f8, .bool x.f9, .int .i32 x.f10.f0, .slice A14 x.f10.f1.length c14, .string x.f10.f2, .bool x.f11, .int .i32 x.f12.f0, .slice A18 x.f12.f1.length c18, .string x.f12.f2, .slice A20 x.f13.length c20, .int .u32 x.f14, .int .u64 x.f15, .string x.f16], rfl, rfl, ⟨[.int .u64 x.f2], [.int .u64 x.f3, .bool x.f4.f0, .int .u64 x.f4.f1, .bool x.f5.f0, .int .u64 x.f5.f1, .bool x.f6.f0, .int .u64 x.f6.f1, .int .i32 x.f7, .int .u64 x.f8, .bool x.f9, .int .i32 x.f10.f0, .slice A14 x.f10.f1.length c14, .string x.f10.f2, .bool x.f11, .int .i32 x.f12.f0, .slice A18 x.f12.f1.length c18, .string x.f12.f2, .slice A20 x.f13.length c20, .int .u32 x.f14, .int .u64 x.f15, .string x.f16], rfl, rfl, ⟨[.int .u64 x.f3], [.bool x.f4.f0, .int .u64 x.f4.f1, .bool x.f5.f0, .int .u64 x.f5.f1, .bool x.f6.f0, .int .u64 x.f6.f1, .int .i32 x.f7, .int .u64 x.f8, .bool x.f9, .int .i32 x.f10.f0, .slice A14 x.f10.f1.length c14, .string x.f10.f2, .bool x.f11, .int .i32 x.f12.f0, .slice A18 x.f12.f1.length c18, .string x.f12.f2, .slice A20 x.f13.length c20, .int .u32 x.f14, .int .u64 x.f15, .string x.f16], rfl, rfl, ⟨[.bool x.f4.f0, .int .u64 x.f4.f1], [.bool x.f5.f0, .int .u64 x.f5.f1, .bool x.f6.f0, .int .u64 x.f6.f1, .int .i32 x.f7, .int .u64 x.f8, .bool x.f9, .int .i32 x.f10.f0, .slice A14 x.f10.f1.length c14, .string x.f10.f2, .bool x.f11, .int .i32 x.f12.f0, .slice A18 x.f12.f1.length c18, .string x.f12.f2, .slice A20 x.f13.length c20, .int .u32 x.f14, .int .u64 x.f15, .string x.f16], rfl, (k43_mk w x.f4 ), ⟨[.bool x.f5.f0, .int .u64 x.f5.f1], [.bool x.f6.f0, .int .u64 x.f6.f1, .int .i32 x.f7, .int .u64 x.f8, .bool x.f9, .int .i32 x.f10.f0, .slice A14 x.f10.f1.length c14, .string x.f10.f2, .bool x.f11, .int .i32 x.f12.f0, .slice A18 x.f12.f1.length c18, .string x.f12.f2, .slice A20 x.f13.length c20, .int .u32 x.f14, .int .u64 x.f15, .string x.f16], rfl, (k43_mk w x.f5 ), ⟨[.bool x.f6.f0, .int .u64 x.f6.f1], [.int .i32 x.f7, .int .u64 x.f8, .bool x.f9, .int .i32 x.f10.f0, .slice A14 x.f10.f1.length c14, .string x.f10.f2, .bool x.f11, .int .i32 x.f12.f0, .slice A18 x.f12.f1.length c18, .string x.f12.f2, .slice A20 x.f13.length c20, .int .u32 x.f14, .int .u64 x.f15, .string x.f16], rfl, (k43_mk w x.f6 ), ⟨[.int .i32 x.f7], [.int .u64 x.f8, .bool x.f9, .int .i32 x.f10.f0, .slice A14 x.f10.f1.length c14, .string x.f10.f2, .bool x.f11, .int .i32 x.f12.f0, .slice A18 x.f12.f1.length c18, .string x.f12.f2, .slice A20 x.f13.length c20, .int .u32 x.f14, .int .u64 x.f15, .string x.f16], rfl, rfl, ⟨[.int .u64 x.f8], [.bool x.f9, .int .i32 x.f10.f0, .slice A14 x.f10.f1.length c14, .string x.f10.f2, .bool x.f11, .int .i32 x.f12.f0, .slice A18 x.f12.f1.length c18, .string x.f12.f2, .slice A20 x.f13.length c20, .int .u32 x.f14, .int .u64 x.f15, .string x.f16], rfl, rfl, ⟨[.bool x.f9], [.int .i32 x.f10.f0, .slice A14 x.f10.f1.length c14, .string x.f10.f2, .bool x.f11, .int .i32 x.f12.f0, .slice A18 x.f12.f1.length c18, .string x.f12.f2, .slice A20 x.f13.length c20, .int .u32 x.f14, .int .u64 x.f15, .string x.f16], rfl, rfl, ⟨[.int .i32 x.f10.f0, .slice A14 x.f10.f1.length c14, .string x.f10.f2], [.bool x.f11, .int .i32 x.f12.f0, .slice A18 x.f12.f1.length c18, .string x.f12.f2, .slice A20 x.f13.length c20, .int .u32 x.f14, .int .u64 x.f15, .string x.f16], rfl, (k24_mk w x.f10 l14 g14), ⟨[.bool x.f11], [.int .i32 x.f12.f0, .slice A18 x.f12.f1.length c18, .string x.f12.f2, .slice A20 x.f13.length c20, .int .u32 x.f14, .int .u64 x.f15, .string x.f16], rfl, rfl, ⟨[.int .i32 x.f12.f0, .slice A18 x.f12.f1.length c18, .string x.f12.f2], [.slice A20 x.f13.length c20, .int .u32 x.f14, .int .u64 x.f15, .string x.f16], rfl, (k24_mk w x.f12 l18 g18), ⟨[.slice A20 x.f13.length c20], [.int .u32 x.f14, .int .u64 x.f15, .string x.f16], rfl, ⟨A20, c20, rfl, l20, g20⟩, ⟨[.int .u32 x.f14], [.int .u64 x.f15, .string x.f16], rfl, rfl, ⟨[.int .u64 x.f15], [.string x.f16], rfl, rfl, rfl⟩⟩⟩⟩⟩⟩⟩⟩⟩⟩⟩⟩⟩⟩⟩⟩
theorem k47_mkM (w : World) (base : Nat) (ok : Nat → Prop) (x : S47) {v0 : Value} (g0 : k152.R 152 w base ok v0 x.f0) {v14 : Value} (g14 : (Kd.int .u64).R 41 w base ok v14 x.f10.f1) {v18 : Value} (g18 : (Kd.int .u64).R 41 w base ok v18 x.f12.f1) {v20 : Value} (g20 : k145.R 145 w base ok v20 x.f13) : k47.M w base ok x [v0, .int .u64 x.f1, .int .u64 x.f2, .int .u64 x.f3, .bool x.f4.f0, .int .u64 x.f4.f1, .bool x.f5.f0, .int .u64 x.f5.f1, .bool x.f6.f0, .int .u64 x.f6.f1, .int .i32 x.f7, .int .u64 x.f8, .bool x.f9, .int .i32 x.f10.f0, v14, .string x.f10.f2, .bool x.f11, .int .i32 x.f12.f0, v18, .string x.f12.f2, v20, .int .u32 x.f14, .int .u64 x.f15, .string x.f16] := ⟨[v0], [.int .u64 x.f1, .int .u64 x.f2, .int .u64 x.f3, .bool x.f4.f0, .int .u64 x.f4.f1, .bool x.f5.f0, .int .u64 x.f5.f1, .bool x.f6.f0, .int .u64 x.f6.f1, .int .i32 x.f7, .int .u64 x.f8, .bool x.f9, .int .i32 x.f10.f0, v14, .string x.f10.f2, .bool x.f11, .int .i32 x.f12.f0, v18, .string x.f12.f2, v20, .int .u32 x.f14, .int .u64 x.f15, .string x.f16], rfl, ⟨v0, rfl, g0⟩, ⟨[.int .u64 x.f1], [.int .u64 x.f2, .int .u64 x.f3, .bool x.f4.f0, .int .u64 x.f4.f1, .bool x.f5.f0, .int .u64 x.f5.f1, .bool x.f6.f0, .int .u64 x.f6.f1, .int .i32 x.f7, .int .u64 x.f8, .bool x.f9, .int .i32 x.f10.f0, v14, .string x.f10.f2, .bool x.f11, .int .i32 x.f12.f0, v18, .string x.f12.f2, v20, .int .u32 x.f14, .int .u64 x.f15, .string x.f16], rfl, rfl, ⟨[.int .u64 x.f2], [.int .u64 x.f3, .bool x.f4.f0, .int .u64 x.f4.f1, .bool x.f5.f0, .int .u64 x.f5.f1, .bool x.f6.f0, .int .u64 x.f6.f1, .int .i32 x.f7, .int .u64 x.f8, .bool x.f9, .int .i32 x.f10.f0, v14, .string x.f10.f2, .bool x.f11, .int .i32 x.f12.f0, v18, .string x.f12.f2, v20, .int .u32 x.f14, .int .u64 x.f15, .string x.f16], rfl, rfl, ⟨[.int .u64 x.f3], [.bool x.f4.f0, .int .u64 x.f4.f1, .bool x.f5.f0, .int .u64 x.f5.f1, .bool x.f6.f0, .int .u64 x.f6.f1, .int .i32 x.f7, .int .u64 x.f8, .bool x.f9, .int .i32 x.f10.f0, v14, .string x.f10.f2, .bool x.f11, .int .i32 x.f12.f0, v18, .string x.f12.f2, v20, .int .u32 x.f14, .int .u64 x.f15, .string x.f16], rfl, rfl, ⟨[.bool x.f4.f0, .int .u64 x.f4.f1], [.bool x.f5.f0, .int .u64 x.f5.f1, .bool x.f6.f0, .int .u64 x.f6.f1, .int .i32 x.f7, .int .u64 x.f8, .bool x.f9, .int .i32 x.f10.f0, v14, .string x.f10.f2, .bool x.f11, .int .i32 x.f12.f0, v18, .string x.f12.f2, v20, .int .u32 x.f14, .int .u64 x.f15, .string x.f16], rfl, (k43_mkM w base ok x.f4 ), ⟨[.bool x.f5.f0, .int .u64 x.f5.f1], [.bool x.f6.f0, .int .u64 x.f6.f1, .int .i32 x.f7, .int .u64 x.f8, .bool x.f9, .int .i32 x.f10.f0, v14, .string x.f10.f2, .bool x.f11, .int .i32 x.f12.f0, v18, .string x.f12.f2, v20, .int .u32 x.f14, .int .u64 x.f15, .string x.f16], rfl, (k43_mkM w base ok x.f5 ), ⟨[.bool x.f6.f0, .int .u64 x.f6.f1], [.int .i32 x.f7, .int .u64 x.f8, .bool x.f9, .int .i32 x.f10.f0, v14, .string x.f10.f2, .bool x.f11, .int .i32 x.f12.f0, v18, .string x.f12.f2, v20, .int .u32 x.f14, .int .u64 x.f15, .string x.f16], rfl, (k43_mkM w base ok x.f6 ), ⟨[.int .i32 x.f7], [.int .u64 x.f8, .bool x.f9, .int .i32 x.f10.f0, v14, .string x.f10.f2, .bool x.f11, .int .i32 x.f12.f0, v18, .string x.f12.f2, v20, .int .u32 x.f14, .int .u64 x.f15, .string x.f16], rfl, rfl, ⟨[.int .u64 x.f8], [.bool x.f9, .int .i32 x.f10.f0, v14, .string x.f10.f2, .bool x.f11, .int .i32 x.f12.f0, v18, .string x.f12.f2, v20, .int .u32 x.f14, .int .u64 x.f15, .string x.f16], rfl, rfl, ⟨[.bool x.f9], [.int .i32 x.f10.f0, v14, .string x.f10.f2, .bool x.f11, .int .i32 x.f12.f0, v18, .string x.f12.f2, v20, .int .u32 x.f14, .int .u64 x.f15, .string x.f16], rfl, rfl, ⟨[.int .i32 x.f10.f0, v14, .string x.f10.f2], [.bool x.f11, .int .i32 x.f12.f0, v18, .string x.f12.f2, v20, .int .u32 x.f14, .int .u64 x.f15, .string x.f16], rfl, (k24_mkM w base ok x.f10 g14), ⟨[.bool x.f11], [.int .i32 x.f12.f0, v18, .string x.f12.f2, v20, .int .u32 x.f14, .int .u64 x.f15, .string x.f16], rfl, rfl, ⟨[.int .i32 x.f12.f0, v18, .string x.f12.f2], [v20, .int .u32 x.f14, .int .u64 x.f15, .string x.f16], rfl, (k24_mkM w base ok x.f12 g18), ⟨[v20], [.int .u32 x.f14, .int .u64 x.f15, .string x.f16], rfl, ⟨v20, rfl, g20⟩, ⟨[.int .u32 x.f14], [.int .u64 x.f15, .string x.f16], rfl, rfl, ⟨[.int .u64 x.f15], [.string x.f16], rfl, rfl, rfl⟩⟩⟩⟩⟩⟩⟩⟩⟩⟩⟩⟩⟩⟩⟩⟩
theorem k47_openF {W : World} {ok : Nat → Prop} {x : S47} {cs : List Value} (h : Kd.FK k47 W ok x cs) : ∃ A0 c0 A14 c14 A18 c18 A20 c20, cs = [.slice A0 x.f0.length c0, .int .u64 x.f1, .int .u64 x.f2, .int .u64 x.f3, .bool x.f4.f0, .int .u64 x.f4.f1, .bool x.f5.f0, .int .u64 x.f5.f1, .bool x.f6.f0, .int .u64 x.f6.f1, .int .i32 x.f7, .int .u64 x.f8, .bool x.f9, .int .i32 x.f10.f0, .slice A14 x.f10.f1.length c14, .string x.f10.f2, .bool x.f11, .int .i32 x.f12.f0, .slice A18 x.f12.f1.length c18, .string x.f12.f2, .slice A20 x.f13.length c20, .int .u32 x.f14, .int .u64 x.f15, .string x.f16] ∧ x.f0.length ≤ c0 ∧ Kd.F k152 W ok A0 x.f0.length x.f0 ∧ x.f10.f1.length ≤ c14 ∧ Kd.F (Kd.int .u64) W ok A14 x.f10.f1.length x.f10.f1 ∧ x.f12.f1.length ≤ c18 ∧ Kd.F (Kd.int .u64) W ok A18 x.f12.f1.length x.f12.f1 ∧ x.f13.length ≤ c20 ∧ Kd.F k145 W ok A20 x.f13.length x.f13 := by
  obtain ⟨A0, c0, A14, c14, A18, c18, A20, c20, rfl, l0, _, l14, _, l18, _, l20, _⟩ := k47_open (Kd.FK_now h)
  exact ⟨A0, c0, A14, c14, A18, c18, A20, c20, rfl, l0, (fun W' hW => by obtain ⟨A0_, c0_, A14_, c14_, A18_, c18_, A20_, c20_, he, l0_, g0_, l14_, g14_, l18_, g18_, l20_, g20_⟩ := k47_open (h W' hW); injection (Option.some.inj (show some (Value.slice A0 x.f0.length c0) = some (Value.slice A0_ x.f0.length c0_) from congrArg (fun l => l[0]?) he)) with ha_ _ _; rw [ha_]; exact g0_), l14, (fun W' hW => by obtain ⟨A0_, c0_, A14_, c14_, A18_, c18_, A20_, c20_, he, l0_, g0_, l14_, g14_, l18_, g18_, l20_, g20_⟩ := k47_open (h W' hW); injection (Option.some.inj (show some (Value.slice A14 x.f10.f1.length c14) = some (Value.slice A14_ x.f10.f1.length c14_) from congrArg (fun l => l[14]?) he)) with ha_ _ _; rw [ha_]; exact g14_), l18, (fun W' hW => by obtain ⟨A0_, c0_, A14_, c14_, A18_, c18_, A20_, c20_, he, l0_, g0_, l14_, g14_, l18_, g18_, l20_, g20_⟩ := k47_open (h W' hW); injection (Option.some.inj (show some (Value.slice A18 x.f12.f1.length c18) = some (Value.slice A18_ x.f12.f1.length c18_) from congrArg (fun l => l[18]?) he)) with ha_ _ _; rw [ha_]; exact g18_), l20, (fun W' hW => by obtain ⟨A0_, c0_, A14_, c14_, A18_, c18_, A20_, c20_, he, l0_, g0_, l14_, g14_, l18_, g18_, l20_, g20_⟩ := k47_open (h W' hW); injection (Option.some.inj (show some (Value.slice A20 x.f13.length c20) = some (Value.slice A20_ x.f13.length c20_) from congrArg (fun l => l[20]?) he)) with ha_ _ _; rw [ha_]; exact g20_)⟩
theorem k47_mkF (W : World) (ok : Nat → Prop) (x : S47) {A0 : Option Addr} {c0 : Nat} (l0 : x.f0.length ≤ c0) (g0 : Kd.F k152 W ok A0 x.f0.length x.f0) {A14 : Option Addr} {c14 : Nat} (l14 : x.f10.f1.length ≤ c14) (g14 : Kd.F (Kd.int .u64) W ok A14 x.f10.f1.length x.f10.f1) {A18 : Option Addr} {c18 : Nat} (l18 : x.f12.f1.length ≤ c18) (g18 : Kd.F (Kd.int .u64) W ok A18 x.f12.f1.length x.f12.f1) {A20 : Option Addr} {c20 : Nat} (l20 : x.f13.length ≤ c20) (g20 : Kd.F k145 W ok A20 x.f13.length x.f13) : Kd.FK k47 W ok x [.slice A0 x.f0.length c0, .int .u64 x.f1, .int .u64 x.f2, .int .u64 x.f3, .bool x.f4.f0, .int .u64 x.f4.f1, .bool x.f5.f0, .int .u64 x.f5.f1, .bool x.f6.f0, .int .u64 x.f6.f1, .int .i32 x.f7, .int .u64 x.f8, .bool x.f9, .int .i32 x.f10.f0, .slice A14 x.f10.f1.length c14, .string x.f10.f2, .bool x.f11, .int .i32 x.f12.f0, .slice A18 x.f12.f1.length c18, .string x.f12.f2, .slice A20 x.f13.length c20, .int .u32 x.f14, .int .u64 x.f15, .string x.f16] := fun W2 hW => k47_mk W2 x l0 (g0 W2 hW) l14 (g14 W2 hW) l18 (g18 W2 hW) l20 (g20 W2 hW)
def rd_T47 (xs : List S47) (i : Int) : S47 := xs.getD i.toNat z47
theorem at_T47 {w : World} {A : Option Addr} {n : Nat} {xs : List S47} (h : Kd.C k47 w A n xs) (i : Int) (h0 : 0 ≤ i) (h1 : i < n) : ∃ ad A0 c0 A14 c14 A18 c18 A20 c20, A = some ad ∧ w.cell? (ad.add (i.toNat * 24)) = some (.slice A0 (rd_T47 xs i).f0.length c0) ∧ w.cell? ⟨(ad.add (i.toNat * 24)).block, (ad.add (i.toNat * 24)).off + 1, none⟩ = some (.int .u64 (rd_T47 xs i).f1) ∧ w.cell? ⟨(ad.add (i.toNat * 24)).block, (ad.add (i.toNat * 24)).off + 2, none⟩ = some (.int .u64 (rd_T47 xs i).f2) ∧ w.cell? ⟨(ad.add (i.toNat * 24)).block, (ad.add (i.toNat * 24)).off + 3, none⟩ = some (.int .u64 (rd_T47 xs i).f3) ∧ w.cell? ⟨(ad.add (i.toNat * 24)).block, (ad.add (i.toNat * 24)).off + 4, none⟩ = some (.bool (rd_T47 xs i).f4.f0) ∧ w.cell? ⟨(ad.add (i.toNat * 24)).block, (ad.add (i.toNat * 24)).off + 5, none⟩ = some (.int .u64 (rd_T47 xs i).f4.f1) ∧ w.cell? ⟨(ad.add (i.toNat * 24)).block, (ad.add (i.toNat * 24)).off + 6, none⟩ = some (.bool (rd_T47 xs i).f5.f0) ∧ w.cell? ⟨(ad.add (i.toNat * 24)).block, (ad.add (i.toNat * 24)).off + 7, none⟩ = some (.int .u64 (rd_T47 xs i).f5.f1) ∧ w.cell? ⟨(ad.add (i.toNat * 24)).block, (ad.add (i.toNat * 24)).off + 8, none⟩ = some (.bool (rd_T47 xs i).f6.f0) ∧ w.cell? ⟨(ad.add (i.toNat * 24)).block, (ad.add (i.toNat * 24)).off + 9, none⟩ = some (.int .u64 (rd_T47 xs i).f6.f1) ∧ w.cell? ⟨(ad.add (i.toNat * 24)).block, (ad.add (i.toNat * 24)).off + 10, none⟩ = some (.int .i32 (rd_T47 xs i).f7) ∧ w.cell? ⟨(ad.add (i.toNat * 24)).block, (ad.add (i.toNat * 24)).off + 11, none⟩ = some (.int .u64 (rd_T47 xs i).f8) ∧ w.cell? ⟨(ad.add (i.toNat * 24)).block, (ad.add (i.toNat * 24)).off + 12, none⟩ = some (.bool (rd_T47 xs i).f9) ∧ w.cell? ⟨(ad.add (i.toNat * 24)).block, (ad.add (i.toNat * 24)).off + 13, none⟩ = some (.int .i32 (rd_T47 xs i).f10.f0) ∧ w.cell? ⟨(ad.add (i.toNat * 24)).block, (ad.add (i.toNat * 24)).off + 14, none⟩ = some (.slice A14 (rd_T47 xs i).f10.f1.length c14) ∧ w.cell? ⟨(ad.add (i.toNat * 24)).block, (ad.add (i.toNat * 24)).off + 15, none⟩ = some (.string (rd_T47 xs i).f10.f2) ∧ w.cell? ⟨(ad.add (i.toNat * 24)).block, (ad.add (i.toNat * 24)).off + 16, none⟩ = some (.bool (rd_T47 xs i).f11) ∧ w.cell? ⟨(ad.add (i.toNat * 24)).block, (ad.add (i.toNat * 24)).off + 17, none⟩ = some (.int .i32 (rd_T47 xs i).f12.f0) ∧ w.cell? ⟨(ad.add (i.toNat * 24)).block, (ad.add (i.toNat * 24)).off + 18, none⟩ = some (.slice A18 (rd_T47 xs i).f12.f1.length c18) ∧ w.cell? ⟨(ad.add (i.toNat * 24)).block, (ad.add (i.toNat * 24)).off + 19, none⟩ = some (.string (rd_T47 xs i).f12.f2) ∧ w.cell? ⟨(ad.add (i.toNat * 24)).block, (ad.add (i.toNat * 24)).off + 20, none⟩ = some (.slice A20 (rd_T47 xs i).f13.length c20) ∧ w.cell? ⟨(ad.add (i.toNat * 24)).block, (ad.add (i.toNat * 24)).off + 21, none⟩ = some (.int .u32 (rd_T47 xs i).f14) ∧ w.cell? ⟨(ad.add (i.toNat * 24)).block, (ad.add (i.toNat * 24)).off + 22, none⟩ = some (.int .u64 (rd_T47 xs i).f15) ∧ w.cell? ⟨(ad.add (i.toNat * 24)).block, (ad.add (i.toNat * 24)).off + 23, none⟩ = some (.string (rd_T47 xs i).f16) ∧ (rd_T47 xs i).f0.length ≤ c0 ∧ k152.C w A0 (rd_T47 xs i).f0.length (rd_T47 xs i).f0 ∧ (rd_T47 xs i).f10.f1.length ≤ c14 ∧ (Kd.int .u64).C w A14 (rd_T47 xs i).f10.f1.length (rd_T47 xs i).f10.f1 ∧ (rd_T47 xs i).f12.f1.length ≤ c18 ∧ (Kd.int .u64).C w A18 (rd_T47 xs i).f12.f1.length (rd_T47 xs i).f12.f1 ∧ (rd_T47 xs i).f13.length ≤ c20 ∧ k145.C w A20 (rd_T47 xs i).f13.length (rd_T47 xs i).f13 := by
  obtain ⟨ad, c, e, _, hK, hc0⟩ := Kd.C_get h z47 i h0 h1
  have hc : ∀ j u, c[j]? = some u → w.cell? (ad.add (i.toNat * 24 + j)) = some u := hc0
  obtain ⟨A0, c0, A14, c14, A18, c18, A20, c20, rfl, l0, g0, l14, g14, l18, g18, l20, g20⟩ := k47_open hK
  exact ⟨ad, A0, c0, A14, c14, A18, c18, A20, c20, e, hc 0 _ rfl, by rw [← add_field _ _ 1 (by omega)]; exact hc 1 _ rfl, by rw [← add_field _ _ 2 (by omega)]; exact hc 2 _ rfl, by rw [← add_field _ _ 3 (by omega)]; exact hc 3 _ rfl, by rw [← add_field _ _ 4 (by omega)]; exact hc 4 _ rfl, by rw [← add_field _ _ 5 (by omega)]; exact hc 5 _ rfl, by rw [← add_field _ _ 6 (by omega)]; exact hc 6 _ rfl, by rw [← add_field _ _ 7 (by omega)]; exact hc 7 _ rfl, by rw [← add_field _ _ 8 (by omega)]; exact hc 8 _ rfl, by rw [← add_field _ _ 9 (by omega)]; exact hc 9 _ rfl, by rw [← add_field _ _ 10 (by omega)]; exact hc 10 _ rfl, by rw [← add_field _ _ 11 (by omega)]; exact hc 11 _ rfl, by rw [← add_field _ _ 12 (by omega)]; exact hc 12 _ rfl, by rw [← add_field _ _ 13 (by omega)]; exact hc 13 _ rfl, by rw [← add_field _ _ 14 (by omega)]; exact hc 14 _ rfl, by rw [← add_field _ _ 15 (by omega)]; exact hc 15 _ rfl, by rw [← add_field _ _ 16 (by omega)]; exact hc 16 _ rfl, by rw [← add_field _ _ 17 (by omega)]; exact hc 17 _ rfl, by rw [← add_field _ _ 18 (by omega)]; exact hc 18 _ rfl, by rw [← add_field _ _ 19 (by omega)]; exact hc 19 _ rfl, by rw [← add_field _ _ 20 (by omega)]; exact hc 20 _ rfl, by rw [← add_field _ _ 21 (by omega)]; exact hc 21 _ rfl, by rw [← add_field _ _ 22 (by omega)]; exact hc 22 _ rfl, by rw [← add_field _ _ 23 (by omega)]; exact hc 23 _ rfl, l0, g0, l14, g14, l18, g18, l20, g20⟩

/-! #### struct type 56 -/
structure S56 where
  f0 : (List S152)
  f1 : Int
  f2 : Int
  f3 : Int
  f4 : S43
  f5 : S43
  f6 : S43
  f7 : (List Int)
  f8 : (List Int)
  f9 : (List S145)
  f10 : Int
  f11 : ByteArray
def z56 : S56 := ⟨([] : List S152), (0 : Int), (0 : Int), (0 : Int), z43, z43, z43, ([] : List Int), ([] : List Int), ([] : List S145), (0 : Int), (⟨#[]⟩ : ByteArray)⟩
def k56 : Kd S56 := Kd.iso (Kd.pair (Kd.slice 152 k152) (Kd.pair (Kd.int .u64) (Kd.pair (Kd.int .u64) (Kd.pair (Kd.int .u64) (Kd.pair k43 (Kd.pair k43 (Kd.pair k43 (Kd.pair (Kd.slice 41 (Kd.int .u64)) (Kd.pair (Kd.slice 41 (Kd.int .u64)) (Kd.pair (Kd.slice 145 k145) (Kd.pair (Kd.int .u32) Kd.string))))))))))) (fun x : S56 => (x.f0, x.f1, x.f2, x.f3, x.f4, x.f5, x.f6, x.f7, x.f8, x.f9, x.f10, x.f11))
theorem k56_heap : Kd.Heap k56 := Kd.heap_iso _ (Kd.heap_pair (Kd.heap_slice 152 k152_heap) (Kd.heap_pair (Kd.heap_int .u64) (Kd.heap_pair (Kd.heap_int .u64) (Kd.heap_pair (Kd.heap_int .u64) (Kd.heap_pair k43_heap (Kd.heap_pair k43_heap (Kd.heap_pair k43_heap (Kd.heap_pair (Kd.heap_slice 41 (Kd.heap_int .u64)) (Kd.heap_pair (Kd.heap_slice 41 (Kd.heap_int .u64)) (Kd.heap_pair (Kd.heap_slice 145 k145_heap) (Kd.heap_pair (Kd.heap_int .u32) Kd.heap_string)))))))))))
theorem k56_open {w : World} {x : S56} {cs : List Value} (h : k56.K w x cs) : ∃ A0 c0 A10 c10 A11 c11 A12 c12, cs = [.slice A0 x.f0.length c0, .int .u64 x.f1, .int .u64 x.f2, .int .u64 x.f3, .bool x.f4.f0, .int .u64 x.f4.f1, .bool x.f5.f0, .int .u64 x.f5.f1, .bool x.f6.f0, .int .u64 x.f6.f1, .slice A10 x.f7.length c10, .slice A11 x.f8.length c11, .slice A12 x.f9.length c12, .int .u32 x.f10, .string x.f11] ∧ x.f0.length ≤ c0 ∧ k152.C w A0 x.f0.length x.f0 ∧ x.f7.length ≤ c10 ∧ (Kd.int .u64).C w A10 x.f7.length x.f7 ∧ x.f8.length ≤ c11 ∧ (Kd.int .u64).C w A11 x.f8.length x.f8 ∧ x.f9.length ≤ c12 ∧ k145.C w A12 x.f9.length x.f9 := by
  obtain ⟨_, _, rfl, ⟨A0, c0, rfl, l0, g0⟩, ⟨_, _, rfl, rfl, ⟨_, _, rfl, rfl, ⟨_, _, rfl, rfl, ⟨_, _, rfl, s4, ⟨_, _, rfl, s6, ⟨_, _, rfl, s8, ⟨_, _, rfl, ⟨A10, c10, rfl, l10, g10⟩, ⟨_, _, rfl, ⟨A11, c11, rfl, l11, g11⟩, ⟨_, _, rfl, ⟨A12, c12, rfl, l12, g12⟩, ⟨_, _, rfl, rfl, rfl⟩⟩⟩⟩⟩⟩⟩⟩⟩⟩⟩ := h
  obtain rfl := k43_open s4
  obtain rfl := k43_open s6
  obtain rfl := k43_open s8
  exact ⟨A0, c0, A10, c10, A11, c11, A12, c12, rfl, l0, g0, l10, g10, l11, g11, l12, g12⟩
theorem k56_openM {w : World} {base : Nat} {ok : Nat → Prop} {x : S56} {cs : List Value} (h : k56.M w base ok x cs) : ∃ v0 v10 v11 v12, cs = [v0, .int .u64 x.f1, .int .u64 x.f2, .int .u64 x.f3, .bool x.f4.f0, .int .u64 x.f4.f1, .bool x.f5.f0, .int .u64 x.f5.f1, .bool x.f6.f0, .int .u64 x.f6.f1, v10, v11, v12, .int .u32 x.f10, .string x.f11] ∧ k152.R 152 w base ok v0 x.f0 ∧ (Kd.int .u64).R 41 w base ok v10 x.f7 ∧ (Kd.int .u64).R 41 w base ok v11 x.f8 ∧ k145.R 145 w base ok v12 x.f9 := by
  obtain ⟨_, _, rfl, ⟨v0, rfl, g0⟩, ⟨_, _, rfl, rfl, ⟨_, _, rfl, rfl, ⟨_, _, rfl, rfl, ⟨_, _, rfl, s4, ⟨_, _, rfl, s6, ⟨_, _, rfl, s8, ⟨_, _, rfl, ⟨v10, rfl, g10⟩, ⟨_, _, rfl, ⟨v11, rfl, g11⟩, ⟨_, _, rfl, ⟨v12, rfl, g12⟩, ⟨_, _, rfl, rfl, rfl⟩⟩⟩⟩⟩⟩⟩⟩⟩⟩⟩ := h
  obtain rfl := k43_openM s4
  obtain rfl := k43_openM s6
  obtain rfl := k43_openM s8
  exact ⟨v0, v10, v11, v12, rfl, g0, g10, g11, g12⟩
theorem k56_mk (w : World) (x : S56) {A0 : Option Addr} {c0 : Nat} (l0 : x.f0.length ≤ c0) (g0 : k152.C w A0 x.f0.length x.f0) {A10 : Option Addr} {c10 : Nat} (l10 : x.f7.length ≤ c10) (g10 : (Kd.int .u64).C w A10 x.f7.length x.f7) {A11 : Option Addr} {c11 : Nat} (l11 : x.f8.length ≤ c11) (g11 : (Kd.int .u64).C w A11 x.f8.length x.f8) {A12 : Option Addr} {c12 : Nat} (l12 : x.f9.length ≤ c12) (g12 : k145.C w A12 x.f9.length x.f9) : k56.K w x [.slice A0 x.f0.length c0, .int .u64 x.f1, .int .u64 x.f2, .int .u64 x.f3, .bool x.f4.f0, .int .u64 x.f4.f1, .bool x.f5.f0, .int .u64 x.f5.f1, .bool x.f6.f0, .int .u64 x.f6.f1, .slice A10 x.f7.length c10, .slice A11 x.f8.length c11, .slice A12 x.f9.length c12, .int .u32 x.f10, .string x.f11] := ⟨[.slice A0 x.f0.length c0], [.int .u64 x.f1, .int .u64 x.f2, .int .u64 x.f3, .bool x.f4.f0, .int .u64 x.f4.f1, .bool x.f5.f0, .int .u64 x.f5.f1, .bool x.f6.f0, .int .u64 x.f6.f1, .slice A10 x.f7.length c10, .slice A11 x.f8.length c11, .slice A12 x.f9.length c12, .int .u32 x.f10, .string x.f11], rfl, ⟨A0, c0, rfl, l0, g0⟩, ⟨[.int .u64 x.f1], [.int .u64 x.f2, .int .u64 x.f3, .bool x.f4.f0, .int .u64 x.f4.f1, .bool x.f5.f0, .int .u64 x.f5.f1, .bool x.f6.f0, .int .u64 x.f6.f1, .slice A10 x.f7.length c10, .slice A11 x.f8.length c11, .slice A12 x.f9.length c12, .int .u32 x.f10, .string x.f11], rfl, rfl, ⟨[.int .u64 x.f2], [.int .u64 x.f3, .bool x.f4.f0, .int .u64 x.f4.f1, .bool x.f5.f0, .int .u64 x.f5.f1, .bool x.f6.f0, .int .u64 x.f6.f1, .slice A10 x.f7.length c10, .slice A11 x.f8.length c11, .slice A12 x.f9.length c12, .int .u32 x.f10, .string x.f11], rfl, rfl, ⟨[.int .u64 x.f3], [.bool x.f4.f0, .int .u64 x.f4.f1, .bool x.f5.f0, .int .u64 x.f5.f1, .bool x.f6.f0, .int .u64 x.f6.f1, .slice A10 x.f7.length c10, .slice A11 x.f8.length c11, .slice A12 x.f9.length c12, .int .u32 x.f10, .string x.f11], rfl, rfl, ⟨[.bool x.f4.f0, .int .u64 x.f4.f1], [.bool x.f5.f0, .int .u64 x.f5.f1, .bool x.f6.f0, .int .u64 x.f6.f1, .slice A10 x.f7.length c10, .slice A11 x.f8.length c11, .slice A12 x.f9.length c12, .int .u32 x.f10, .string x.f11], rfl, (k43_mk w x.f4 ), ⟨[.bool x.f5.f0, .int .u64 x.f5.f1], [.bool x.f6.f0, .int .u64 x.f6.f1, .slice A10 x.f7.length c10, .slice A11 x.f8.length c11, .slice A12 x.f9.length c12, .int .u32 x.f10, .string x.f11], rfl, (k43_mk w x.f5 ), ⟨[.bool x.f6.f0, .int .u64 x.f6.f1], [.slice A10 x.f7.length c10, .slice A11 x.f8.length c11, .slice A12 x.f9.length c12, .int .u32 x.f10, .string x.f11], rfl, (k43_mk w x.f6 ), ⟨[.slice A10 x.f7.length c10], [.slice A11 x.f8.length c11, .slice A12 x.f9.length c12, .int .u32 x.f10, .string x.f11], rfl, ⟨A10, c10, rfl, l10, g10⟩, ⟨[.slice A11 x.f8.length c11], [.slice A12 x.f9.length c12, .int .u32 x.f10, .string x.f11], rfl, ⟨A11, c11, rfl, l11, g11⟩, ⟨[.slice A12 x.f9.length c12], [.int .u32 x.f10, .string x.f11], rfl, ⟨A12, c12, rfl, l12, g12⟩, ⟨[.int .u32 x.f10], [.string x.f11], rfl, rfl, rfl⟩⟩⟩⟩⟩⟩⟩⟩⟩⟩⟩
theorem k56_mkM (w : World) (base : Nat) (ok : Nat → Prop) (x : S56) {v0 : Value} (g0 : k152.R 152 w base ok v0 x.f0) {v10 : Value} (g10 : (Kd.int .u64).R 41 w base ok v10 x.f7) {v11 : Value} (g11 : (Kd.int .u64).R 41 w base ok v11 x.f8) {v12 : Value} (g12 : k145.R 145 w base ok v12 x.f9) : k56.M w base ok x [v0, .int .u64 x.f1, .int .u64 x.f2, .int .u64 x.f3, .bool x.f4.f0, .int .u64 x.f4.f1, .bool x.f5.f0, .int .u64 x.f5.f1, .bool x.f6.f0, .int .u64 x.f6.f1, v10, v11, v12, .int .u32 x.f10, .string x.f11] := ⟨[v0], [.int .u64 x.f1, .int .u64 x.f2, .int .u64 x.f3, .bool x.f4.f0, .int .u64 x.f4.f1, .bool x.f5.f0, .int .u64 x.f5.f1, .bool x.f6.f0, .int .u64 x.f6.f1, v10, v11, v12, .int .u32 x.f10, .string x.f11], rfl, ⟨v0, rfl, g0⟩, ⟨[.int .u64 x.f1], [.int .u64 x.f2, .int .u64 x.f3, .bool x.f4.f0, .int .u64 x.f4.f1, .bool x.f5.f0, .int .u64 x.f5.f1, .bool x.f6.f0, .int .u64 x.f6.f1, v10, v11, v12, .int .u32 x.f10, .string x.f11], rfl, rfl, ⟨[.int .u64 x.f2], [.int .u64 x.f3, .bool x.f4.f0, .int .u64 x.f4.f1, .bool x.f5.f0, .int .u64 x.f5.f1, .bool x.f6.f0, .int .u64 x.f6.f1, v10, v11, v12, .int .u32 x.f10, .string x.f11], rfl, rfl, ⟨[.int .u64 x.f3], [.bool x.f4.f0, .int .u64 x.f4.f1, .bool x.f5.f0, .int .u64 x.f5.f1, .bool x.f6.f0, .int .u64 x.f6.f1, v10, v11, v12, .int .u32 x.f10, .string x.f11], rfl, rfl, ⟨[.bool x.f4.f0, .int .u64 x.f4.f1], [.bool x.f5.f0, .int .u64 x.f5.f1, .bool x.f6.f0, .int .u64 x.f6.f1, v10, v11, v12, .int .u32 x.f10, .string x.f11], rfl, (k43_mkM w base ok x.f4 ), ⟨[.bool x.f5.f0, .int .u64 x.f5.f1], [.bool x.f6.f0, .int .u64 x.f6.f1, v10, v11, v12, .int .u32 x.f10, .string x.f11], rfl, (k43_mkM w base ok x.f5 ), ⟨[.bool x.f6.f0, .int .u64 x.f6.f1], [v10, v11, v12, .int .u32 x.f10, .string x.f11], rfl, (k43_mkM w base ok x.f6 ), ⟨[v10], [v11, v12, .int .u32 x.f10, .string x.f11], rfl, ⟨v10, rfl, g10⟩, ⟨[v11], [v12, .int .u32 x.f10, .string x.f11], rfl, ⟨v11, rfl, g11⟩, ⟨[v12], [.int .u32 x.f10, .string x.f11], rfl, ⟨v12, rfl, g12⟩, ⟨[.int .u32 x.f10], [.string x.f11], rfl, rfl, rfl⟩⟩⟩⟩⟩⟩⟩⟩⟩⟩⟩
theorem k56_openF {W : World} {ok : Nat → Prop} {x : S56} {cs : List Value} (h : Kd.FK k56 W ok x cs) : ∃ A0 c0 A10 c10 A11 c11 A12 c12, cs = [.slice A0 x.f0.length c0, .int .u64 x.f1, .int .u64 x.f2, .int .u64 x.f3, .bool x.f4.f0, .int .u64 x.f4.f1, .bool x.f5.f0, .int .u64 x.f5.f1, .bool x.f6.f0, .int .u64 x.f6.f1, .slice A10 x.f7.length c10, .slice A11 x.f8.length c11, .slice A12 x.f9.length c12, .int .u32 x.f10, .string x.f11] ∧ x.f0.length ≤ c0 ∧ Kd.F k152 W ok A0 x.f0.length x.f0 ∧ x.f7.length ≤ c10 ∧ Kd.F (Kd.int .u64) W ok A10 x.f7.length x.f7 ∧ x.f8.length ≤ c11 ∧ Kd.F (Kd.int .u64) W ok A11 x.f8.length x.f8 ∧ x.f9.length ≤ c12 ∧ Kd.F k145 W ok A12 x.f9.length x.f9 := by
  obtain ⟨A0, c0, A10, c10, A11, c11, A12, c12, rfl, l0, _, l10, _, l11, _, l12, _⟩ := k56_open (Kd.FK_now h)
  exact ⟨A0, c0, A10, c10, A11, c11, A12, c12, rfl, l0, (fun W' hW => by obtain ⟨A0_, c0_, A10_, c10_, A11_, c11_, A12_, c12_, he, l0_, g0_, l10_, g10_, l11_, g11_, l12_, g12_⟩ := k56_open (h W' hW); injection (Option.some.inj (show some (Value.slice A0 x.f0.length c0) = some (Value.slice A0_ x.f0.length c0_) from congrArg (fun l => l[0]?) he)) with ha_ _ _; rw [ha_]; exact g0_), l10, (fun W' hW => by obtain ⟨A0_, c0_, A10_, c10_, A11_, c11_, A12_, c12_, he, l0_, g0_, l10_, g10_, l11_, g11_, l12_, g12_⟩ := k56_open (h W' hW); injection (Option.some.inj (show some (Value.slice A10 x.f7.length c10) = some (Value.slice A10_ x.f7.length c10_) from congrArg (fun l => l[10]?) he)) with ha_ _ _; rw [ha_]; exact g10_), l11, (fun W' hW => by obtain ⟨A0_, c0_, A10_, c10_, A11_, c11_, A12_, c12_, he, l0_, g0_, l10_, g10_, l11_, g11_, l12_, g12_⟩ := k56_open (h W' hW); injection (Option.some.inj (show some (Value.slice A11 x.f8.length c11) = some (Value.slice A11_ x.f8.length c11_) from congrArg (fun l => l[11]?) he)) with ha_ _ _; rw [ha_]; exact g11_), l12, (fun W' hW => by obtain ⟨A0_, c0_, A10_, c10_, A11_, c11_, A12_, c12_, he, l0_, g0_, l10_, g10_, l11_, g11_, l12_, g12_⟩ := k56_open (h W' hW); injection (Option.some.inj (show some (Value.slice A12 x.f9.length c12) = some (Value.slice A12_ x.f9.length c12_) from congrArg (fun l => l[12]?) he)) with ha_ _ _; rw [ha_]; exact g12_)⟩
theorem k56_mkF (W : World) (ok : Nat → Prop) (x : S56) {A0 : Option Addr} {c0 : Nat} (l0 : x.f0.length ≤ c0) (g0 : Kd.F k152 W ok A0 x.f0.length x.f0) {A10 : Option Addr} {c10 : Nat} (l10 : x.f7.length ≤ c10) (g10 : Kd.F (Kd.int .u64) W ok A10 x.f7.length x.f7) {A11 : Option Addr} {c11 : Nat} (l11 : x.f8.length ≤ c11) (g11 : Kd.F (Kd.int .u64) W ok A11 x.f8.length x.f8) {A12 : Option Addr} {c12 : Nat} (l12 : x.f9.length ≤ c12) (g12 : Kd.F k145 W ok A12 x.f9.length x.f9) : Kd.FK k56 W ok x [.slice A0 x.f0.length c0, .int .u64 x.f1, .int .u64 x.f2, .int .u64 x.f3, .bool x.f4.f0, .int .u64 x.f4.f1, .bool x.f5.f0, .int .u64 x.f5.f1, .bool x.f6.f0, .int .u64 x.f6.f1, .slice A10 x.f7.length c10, .slice A11 x.f8.length c11, .slice A12 x.f9.length c12, .int .u32 x.f10, .string x.f11] := fun W2 hW => k56_mk W2 x l0 (g0 W2 hW) l10 (g10 W2 hW) l11 (g11 W2 hW) l12 (g12 W2 hW)
def rd_T56 (xs : List S56) (i : Int) : S56 := xs.getD i.toNat z56
theorem at_T56 {w : World} {A : Option Addr} {n : Nat} {xs : List S56} (h : Kd.C k56 w A n xs) (i : Int) (h0 : 0 ≤ i) (h1 : i < n) : ∃ ad A0 c0 A10 c10 A11 c11 A12 c12, A = some ad ∧ w.cell? (ad.add (i.toNat * 15)) = some (.slice A0 (rd_T56 xs i).f0.length c0) ∧ w.cell? ⟨(ad.add (i.toNat * 15)).block, (ad.add (i.toNat * 15)).off + 1, none⟩ = some (.int .u64 (rd_T56 xs i).f1) ∧ w.cell? ⟨(ad.add (i.toNat * 15)).block, (ad.add (i.toNat * 15)).off + 2, none⟩ = some (.int .u64 (rd_T56 xs i).f2) ∧ w.cell? ⟨(ad.add (i.toNat * 15)).block, (ad.add (i.toNat * 15)).off + 3, none⟩ = some (.int .u64 (rd_T56 xs i).f3) ∧ w.cell? ⟨(ad.add (i.toNat * 15)).block, (ad.add (i.toNat * 15)).off + 4, none⟩ = some (.bool (rd_T56 xs i).f4.f0) ∧ w.cell? ⟨(ad.add (i.toNat * 15)).block, (ad.add (i.toNat * 15)).off + 5, none⟩ = some (.int .u64 (rd_T56 xs i).f4.f1) ∧ w.cell? ⟨(ad.add (i.toNat * 15)).block, (ad.add (i.toNat * 15)).off + 6, none⟩ = some (.bool (rd_T56 xs i).f5.f0) ∧ w.cell? ⟨(ad.add (i.toNat * 15)).block, (ad.add (i.toNat * 15)).off + 7, none⟩ = some (.int .u64 (rd_T56 xs i).f5.f1) ∧ w.cell? ⟨(ad.add (i.toNat * 15)).block, (ad.add (i.toNat * 15)).off + 8, none⟩ = some (.bool (rd_T56 xs i).f6.f0) ∧ w.cell? ⟨(ad.add (i.toNat * 15)).block, (ad.add (i.toNat * 15)).off + 9, none⟩ = some (.int .u64 (rd_T56 xs i).f6.f1) ∧ w.cell? ⟨(ad.add (i.toNat * 15)).block, (ad.add (i.toNat * 15)).off + 10, none⟩ = some (.slice A10 (rd_T56 xs i).f7.length c10) ∧ w.cell? ⟨(ad.add (i.toNat * 15)).block, (ad.add (i.toNat * 15)).off + 11, none⟩ = some (.slice A11 (rd_T56 xs i).f8.length c11) ∧ w.cell? ⟨(ad.add (i.toNat * 15)).block, (ad.add (i.toNat * 15)).off + 12, none⟩ = some (.slice A12 (rd_T56 xs i).f9.length c12) ∧ w.cell? ⟨(ad.add (i.toNat * 15)).block, (ad.add (i.toNat * 15)).off + 13, none⟩ = some (.int .u32 (rd_T56 xs i).f10) ∧ w.cell? ⟨(ad.add (i.toNat * 15)).block, (ad.add (i.toNat * 15)).off + 14, none⟩ = some (.string (rd_T56 xs i).f11) ∧ (rd_T56 xs i).f0.length ≤ c0 ∧ k152.C w A0 (rd_T56 xs i).f0.length (rd_T56 xs i).f0 ∧ (rd_T56 xs i).f7.length ≤ c10 ∧ (Kd.int .u64).C w A10 (rd_T56 xs i).f7.length (rd_T56 xs i).f7 ∧ (rd_T56 xs i).f8.length ≤ c11 ∧ (Kd.int .u64).C w A11 (rd_T56 xs i).f8.length (rd_T56 xs i).f8 ∧ (rd_T56 xs i).f9.length ≤ c12 ∧ k145.C w A12 (rd_T56 xs i).f9.length (rd_T56 xs i).f9 := by
  obtain ⟨ad, c, e, _, hK, hc0⟩ := Kd.C_get h z56 i h0 h1
  have hc : ∀ j u, c[j]? = some u → w.cell? (ad.add (i.toNat * 15 + j)) = some u := hc0
  obtain ⟨A0, c0, A10, c10, A11, c11, A12, c12, rfl, l0, g0, l10, g10, l11, g11, l12, g12⟩ := k56_open hK
  exact ⟨ad, A0, c0, A10, c10, A11, c11, A12, c12, e, hc 0 _ rfl, by rw [← add_field _ _ 1 (by omega)]; exact hc 1 _ rfl, by rw [← add_field _ _ 2 (by omega)]; exact hc 2 _ rfl, by rw [← add_field _ _ 3 (by omega)]; exact hc 3 _ rfl, by rw [← add_field _ _ 4 (by omega)]; exact hc 4 _ rfl, by rw [← add_field _ _ 5 (by omega)]; exact hc 5 _ rfl, by rw [← add_field _ _ 6 (by omega)]; exact hc 6 _ rfl, by rw [← add_field _ _ 7 (by omega)]; exact hc 7 _ rfl, by rw [← add_field _ _ 8 (by omega)]; exact hc 8 _ rfl, by rw [← add_field _ _ 9 (by omega)]; exact hc 9 _ rfl, by rw [← add_field _ _ 10 (by omega)]; exact hc 10 _ rfl, by rw [← add_field _ _ 11 (by omega)]; exact hc 11 _ rfl, by rw [← add_field _ _ 12 (by omega)]; exact hc 12 _ rfl, by rw [← add_field _ _ 13 (by omega)]; exact hc 13 _ rfl, by rw [← add_field _ _ 14 (by omega)]; exact hc 14 _ rfl, l0, g0, l10, g10, l11, g11, l12, g12⟩

/-! #### struct type 82 -/
structure S82 where
  f0 : Int
  f1 : (List Int)
def z82 : S82 := ⟨(0 : Int), ([] : List Int)⟩
def k82 : Kd S82 := Kd.iso (Kd.pair (Kd.int .i64) (Kd.slice 41 (Kd.int .u64))) (fun x : S82 => (x.f0, x.f1))
theorem k82_heap : Kd.Heap k82 := Kd.heap_iso _ (Kd.heap_pair (Kd.heap_int .i64) (Kd.heap_slice 41 (Kd.heap_int .u64)))
theorem k82_open {w : World} {x : S82} {cs : List Value} (h : k82.K w x cs) : ∃ A1 c1, cs = [.int .i64 x.f0, .slice A1 x.f1.length c1] ∧ x.f1.length ≤ c1 ∧ (Kd.int .u64).C w A1 x.f1.length x.f1 := by
  obtain ⟨_, _, rfl, rfl, ⟨A1, c1, rfl, l1, g1⟩⟩ := h
  exact ⟨A1, c1, rfl, l1, g1⟩
theorem k82_openM {w : World} {base : Nat} {ok : Nat → Prop} {x : S82} {cs : List Value} (h : k82.M w base ok x cs) : ∃ v1, cs = [.int .i64 x.f0, v1] ∧ (Kd.int .u64).R 41 w base ok v1 x.f1 := by
  obtain ⟨_, _, rfl, rfl, ⟨v1, rfl, g1⟩⟩ := h
  exact ⟨v1, rfl, g1⟩
theorem k82_mk (w : World) (x : S82) {A1 : Option Addr} {c1 : Nat} (l1 : x.f1.length ≤ c1) (g1 : (Kd.int .u64).C w A1 x.f1.length x.f1) : k82.K w x [.int .i64 x.f0, .slice A1 x.f1.length c1] := ⟨[.int .i64 x.f0], [.slice A1 x.f1.length c1], rfl, rfl, ⟨A1, c1, rfl, l1, g1⟩⟩
theorem k82_mkM (w : World) (base : Nat) (ok : Nat → Prop) (x : S82) {v1 : Value} (g1 : (Kd.int .u64).R 41 w base ok v1 x.f1) : k82.M w base ok x [.int .i64 x.f0, v1] := ⟨[.int .i64 x.f0], [v1], rfl, rfl, ⟨v1, rfl, g1⟩⟩
theorem k82_openF {W : World} {ok : Nat → Prop} {x : S82} {cs : List Value} (h : Kd.FK k82 W ok x cs) : ∃ A1 c1, cs = [.int .i64 x.f0, .slice A1 x.f1.length c1] ∧ x.f1.length ≤ c1 ∧ Kd.F (Kd.int .u64) W ok A1 x.f1.length x.f1 := by
  obtain ⟨A1, c1, rfl, l1, _⟩ := k82_open (Kd.FK_now h)
  exact ⟨A1, c1, rfl, l1, (fun W' hW => by obtain ⟨A1_, c1_, he, l1_, g1_⟩ := k82_open (h W' hW); injection (Option.some.inj (show some (Value.slice A1 x.f1.length c1) = some (Value.slice A1_ x.f1.length c1_) from congrArg (fun l => l[1]?) he)) with ha_ _ _; rw [ha_]; exact g1_)⟩
theorem k82_mkF (W : World) (ok : Nat → Prop) (x : S82) {A1 : Option Addr} {c1 : Nat} (l1 : x.f1.length ≤ c1) (g1 : Kd.F (Kd.int .u64) W ok A1 x.f1.length x.f1) : Kd.FK k82 W ok x [.int .i64 x.f0, .slice A1 x.f1.length c1] := fun W2 hW => k82_mk W2 x l1 (g1 W2 hW)
def rd_T82 (xs : List S82) (i : Int) : S82 := xs.getD i.toNat z82
theorem at_T82 {w : World} {A : Option Addr} {n : Nat} {xs : List S82} (h : Kd.C k82 w A n xs) (i : Int) (h0 : 0 ≤ i) (h1 : i < n) : ∃ ad A1 c1, A = some ad ∧ w.cell? (ad.add (i.toNat * 2)) = some (.int .i64 (rd_T82 xs i).f0) ∧ w.cell? ⟨(ad.add (i.toNat * 2)).block, (ad.add (i.toNat * 2)).off + 1, none⟩ = some (.slice A1 (rd_T82 xs i).f1.length c1) ∧ (rd_T82 xs i).f1.length ≤ c1 ∧ (Kd.int .u64).C w A1 (rd_T82 xs i).f1.length (rd_T82 xs i).f1 := by
  obtain ⟨ad, c, e, _, hK, hc0⟩ := Kd.C_get h z82 i h0 h1
  have hc : ∀ j u, c[j]? = some u → w.cell? (ad.add (i.toNat * 2 + j)) = some u := hc0
  obtain ⟨A1, c1, rfl, l1, g1⟩ := k82_open hK
  exact ⟨ad, A1, c1, e, hc 0 _ rfl, by rw [← add_field _ _ 1 (by omega)]; exact hc 1 _ rfl, l1, g1⟩

end Go.Proofs.YtcmghblegllmlaaDoor.PMerge
