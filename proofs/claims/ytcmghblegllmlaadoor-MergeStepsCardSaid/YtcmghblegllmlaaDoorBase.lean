/- Small words on worlds for this session's walks by hand. -/
import Derived.Test.YtcmghblegllmlaaDoorSideRes
namespace Go.Proofs.YtcmghblegllmlaaDoor.Hand
open Go.RowKit Go.Proofs.YtcmghblegllmlaaDoorW.PrintWords Go.Proofs.YtcmghblegllmlaaDoorW.PrintLast Go.Proofs.YtcmghblegllmlaaDoorW.PrintMore
theorem setCell_drewN (w : World) (n : Nat) (a : Addr) (v : Value) : (w.drewN n).setCell a v = (w.setCell a v).drewN n := rfl
theorem alloc_drewN (w : World) (n : Nat) (o : Obj) : (w.drewN n).alloc o = (w.alloc o).drewN n := rfl
theorem cell_off (w : World) (b o o' : Nat) (v : Value) (h : (o == o') = false) : (w.setCell ⟨b, o, none⟩ v).cell? ⟨b, o', none⟩ = w.cell? ⟨b, o', none⟩ :=
  World.cell?_setCell_other w _ _ v (fun e => by injection e with e1 e2; simp [e2] at h)
theorem cell_up (w : World) (b o o' : Nat) (v : Value) : (w.setCell ⟨b + 1, o, none⟩ v).cell? ⟨b, o', none⟩ = w.cell? ⟨b, o', none⟩ :=
  World.cell?_setCell_other w _ _ v (fun e => by injection e with e1 e2; omega)
theorem cell_down (w : World) (b o o' : Nat) (v : Value) : (w.setCell ⟨b, o, none⟩ v).cell? ⟨b + 1, o', none⟩ = w.cell? ⟨b + 1, o', none⟩ :=
  World.cell?_setCell_other w _ _ v (fun e => by injection e with e1 e2; omega)
theorem cell_up2 (w : World) (b o o' : Nat) (v : Value) : (w.setCell ⟨b + 1 + 1, o, none⟩ v).cell? ⟨b, o', none⟩ = w.cell? ⟨b, o', none⟩ :=
  World.cell?_setCell_other w _ _ v (fun e => by injection e with e1 e2; omega)
theorem cell_down2 (w : World) (b o o' : Nat) (v : Value) : (w.setCell ⟨b, o, none⟩ v).cell? ⟨b + 1 + 1, o', none⟩ = w.cell? ⟨b + 1 + 1, o', none⟩ :=
  World.cell?_setCell_other w _ _ v (fun e => by injection e with e1 e2; omega)
attribute [local go_sem] setCell_drewN alloc_drewN cell_off cell_up cell_down cell_up2 cell_down2
theorem keepc {W w1 : World} {p : Addr} {v : Value} (hb : Below W.heap.size W w1) (h : W.cell? p = some v) : w1.cell? p = some v := pw_cell_below hb h
theorem keepf {W w1 : World} {b o : Nat} (hb : Below W.heap.size W w1) (h : b < W.heap.size) (hf : W.frozen? ⟨b, o, none⟩ = false) : w1.frozen? ⟨b, o, none⟩ = false :=
  (hb.frozen (p := ⟨b, o, none⟩) h).trans hf

theorem cell_top {W : World} {cs : Array Value} {t b o : Nat} {v : Value} (hb : b = W.heap.size) (hv : cs[o]? = some v) : (W.alloc (.cells cs t)).cell? ⟨b, o, none⟩ = some v := by
  subst hb; simp [hv]
theorem frozen_top {W : World} {cs : Array Value} {t b o : Nat} (hb : b = W.heap.size) : (W.alloc (.cells cs t)).frozen? ⟨b, o, none⟩ = false := by
  subst hb; simp
end Go.Proofs.YtcmghblegllmlaaDoor.Hand
