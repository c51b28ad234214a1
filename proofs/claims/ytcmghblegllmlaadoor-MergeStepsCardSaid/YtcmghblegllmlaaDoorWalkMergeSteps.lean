/- hyglaw25.MergeSteps: the law's answer at any input. -/
import Derived.Test.YtcmghblegllmlaaDoorStepsLaw
namespace Go.Proofs.YtcmghblegllmlaaDoor.Hand
open Go.RowKit Go.Proofs.YtcmghblegllmlaaDoorW.PrintWords Go.Proofs.YtcmghblegllmlaaDoorW.PrintLast Go.Proofs.YtcmghblegllmlaaDoorW.PrintMore Go.Proofs.YtcmghblegllmlaaDoor.PMerge Go.Proofs.YtcmghblegllmlaaDoor.Cd Go.Proofs.YtcmghblegllmlaaDoor.Dn
theorem mergeSteps_walk {H : Type} {enc : TypeId × Value → H} {W : World} {base : Nat} {spare : Nat → Bool} {held : Bool} {fuel : Nat} {cs : List Value} {x : DataW H × List MemPlace}
    (h : DataW.trod enc Tryd.prog W base spare held fuel 24 cs = some x) (m : Int) (_wm : (Lit.int .i64 m).wf = true) (n : Int) (_wn : (Lit.int .i64 n).wf = true) (hg : Lays W) :
    Calls Tryd.prog 3 #[.agg cs.toArray, .int .i64 m, .int .i64 n] W fun e W' => e = .returned (.bool true) ∧ Below W.heap.size W W' := by
  obtain ⟨a, A, c, l, u, rfl, ⟨a1, a2⟩, hc, hC, hu⟩ := open_buckets h
  obtain ⟨r0, hr0⟩ := roomB_some a l u 12000
  by_cases h0 : r0 < 0
  · exact steps_out0 a a1 a2 A c l u hc hu m n r0 hr0 h0 W hg hC
  by_cases h1 : m < 0
  · exact steps_out1 a a1 a2 A c l u hc hu m n r0 hr0 h0 h1 W hg hC
  by_cases h2 : n < 0
  · exact steps_out2 a a1 a2 A c l u hc hu m n r0 hr0 h0 h1 h2 W hg hC
  by_cases h3 : 31 < m
  · exact steps_out3 a a1 a2 A c l u hc hu m n r0 hr0 h0 h1 h2 h3 W hg hC
  by_cases h4 : 31 - m < n
  · exact steps_out4 a a1 a2 A c l u hc hu m n r0 hr0 h0 h1 h2 h3 h4 W hg hC
  have hl : l.length ≤ 100000 := by have := roomB_len hr0 (by omega) (by omega); omega
  obtain ⟨_, r1, _, k1, f1⟩ := down_f a a1 a2 l u m hl hu
  rcases k1 with ⟨e1, z1, z2, z3, z4, z5, z6⟩ | ⟨e1, k1⟩
  · obtain ⟨o, L, e⟩ := r1
    obtain rfl : e = none := e1
    have k1 : Res a l m (o, L, none) := .inl ⟨rfl, z1, z2, z3, z4, z5, z6⟩
    obtain ⟨_, ⟨o2, L2, e2⟩, _, k2, f2⟩ := down_f o f1.lo f1.hi L ⟨#[]⟩ n (Nat.le_trans f1.len hl) f1.u64
    have k3 := Res.chain (by omega) (by omega) (by omega) z4 k2
    have hL2 : L2.length ≤ 100000 := Nat.le_trans f2.len (Nat.le_trans f1.len hl)
    have he : e2 = none ∨ e2 = some 9 := by
      rcases k2 with ⟨e, _⟩ | ⟨e, _⟩
      · exact .inl e
      · exact .inr (congrArg (fun t : Int × List Int × Option Int => t.2.2) e)
    rcases he with rfl | rfl
    · exact steps_good a a1 a2 A c l u hc hu m n r0 hr0 h0 h1 h2 h3 h4 hl o o2 L L2 k1 f1.lo f1.hi (Nat.le_trans f1.len hl) f1.u64 k2 hL2 k3 W hg hC
    · exact steps_far a a1 a2 A c l u hc hu m n r0 hr0 h0 h1 h2 h3 h4 hl o o2 L L2 k1 f1.lo f1.hi (Nat.le_trans f1.len hl) f1.u64 k2 hL2 k3 W hg hC
  · subst e1
    exact steps_bad a a1 a2 A c l u hc hu m n r0 hr0 h0 h1 h2 h3 h4 hl (.inr ⟨rfl, k1⟩) W hg hC
end Go.Proofs.YtcmghblegllmlaaDoor.Hand
