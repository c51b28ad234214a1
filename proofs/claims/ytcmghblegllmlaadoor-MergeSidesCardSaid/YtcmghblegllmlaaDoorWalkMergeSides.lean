/- hyglaw25.MergeSides: the law's answer at any input. -/
import Derived.Test.YtcmghblegllmlaaDoorSidesLaw
import Derived.Test.YtcmghblegllmlaaDoorOpen
namespace Go.Proofs.YtcmghblegllmlaaDoor.Hand
open Go.RowKit Go.Proofs.YtcmghblegllmlaaDoorW.PrintWords Go.Proofs.YtcmghblegllmlaaDoorW.PrintLast Go.Proofs.YtcmghblegllmlaaDoorW.PrintMore Go.Proofs.YtcmghblegllmlaaDoor.PMerge Go.Proofs.YtcmghblegllmlaaDoor.Cd Go.Proofs.YtcmghblegllmlaaDoor.Dn
theorem mergeSides_walk {H : Type} {enc : TypeId × Value → H} {W : World} {base : Nat} {spare : Nat → Bool} {held : Bool} {fuel : Nat} {cs : List Value} {x : DataW H × List MemPlace}
    (h : DataW.trod enc Tryd.prog W base spare held fuel 24 cs = some x) (b : Int) (_wb : (Lit.int .i64 b).wf = true) (hg : Lays W) :
    Calls Tryd.prog 4 #[.agg cs.toArray, .int .i64 b] W fun e W' => e = .returned (.bool true) ∧ Below W.heap.size W W' := by
  obtain ⟨a, A, c, l, u, rfl, ⟨a1, a2⟩, hc, hC, hu⟩ := open_buckets h
  obtain ⟨r0, hr0⟩ := roomB_some a l u 12000
  by_cases hlt : r0 < 0
  · exact sides_much a a1 a2 A c l u hc hu b r0 hr0 hlt W hg hC
  · have hl : l.length ≤ 100000 := by have := roomB_len hr0 (by omega) (by omega); omega
    obtain ⟨r2, h2, k2⟩ := rtrim_spec a l u a1 a2 hl hu
    obtain ⟨r4, h4, k4⟩ := rdown_spec a l u b a1 a2 hl hu
    exact sides_few a a1 a2 A c l u hc hu b r0 hr0 hlt hl (2 * l.length + 10) r2 r4 (h2 _ (Nat.le_refl _)) k2 (h4 _ (Nat.le_refl _)) k4 W hg hC
end Go.Proofs.YtcmghblegllmlaaDoor.Hand
