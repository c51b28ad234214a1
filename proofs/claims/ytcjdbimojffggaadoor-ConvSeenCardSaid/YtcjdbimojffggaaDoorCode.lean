/- blame.Code by its contracts: of nil it is 0, of an api.Code that code: errors.As is walked at the one target that the program has, *api.Code. (After the guide's worked example of errors.As, turned to this program's types.) -/
import Derived.Test.YtcjdbimojffggaaDoorProg
import Derived.WalkKit
import Derived.LaidEql
import Derived.Stop.Asserts
import Derived.RowKitTokens
import Derived.Below
namespace Go.Proofs.YtcjdbimojffggaaDoor.Cd
open Go.RowKit Go.Extern.Stop Go.Stop Go.Extern

/-- errors.As(nil, target). -/
theorem as_nil (t : Value) (w : World) :
    Calls Tryd.prog 24 #[.nilIface, t] w fun e w' => e = .returned (.bool false) ∧ w' = w := by
  go_enter Tryd.func24, Tryd.ntmps24
  go_wp2
  go_ret
  exact ⟨rfl, rfl⟩

theorem valueOfP (t : Addr) (w : World) : (ReflectliteValue.unpack (.iface 73 (.pointer (some t)))).run Tryd.prog w
    = .ok (.agg #[.pointer (some ⟨1, 73, none⟩), .pointer (some ⟨w.heap.size, 0, none⟩), .int .u64 150]) (w.alloc (.cells #[.pointer (some t)] 73)) := by kernel_rfl
theorem typeP (a : Addr) (w : World) : (ReflectliteValue.methodAny (ReflectliteValue.valueError "reflectlite.Value.Type" 0) (fun t _ _ _ => ReflectliteType.toType t) #[.agg #[.pointer (some ⟨1, 73, none⟩), .pointer (some a), .int .u64 150]]).run Tryd.prog w
    = .ok (.iface 127 (.agg #[.pointer (some ⟨1, 73, none⟩)])) w := by kernel_rfl
theorem methodKind (h : Value) (w : World) : (Go.method 293 127 (.agg #[h]) "Kind").run Tryd.prog w = .ok (103, h) w := by kernel_rfl
theorem kindP (w : World) : ((ReflectliteType.abiMethod fun t => (fun a : Nat => Value.int IntKind.u8 (a : Int)) <$> Rtype.kind t) #[.pointer (some ⟨1, 73, none⟩)]).run Tryd.prog w = .ok (.int .u8 22) w := by kernel_rfl
theorem kindC (w : World) : ((ReflectliteType.abiMethod fun t => (fun a : Nat => Value.int IntKind.u8 (a : Int)) <$> Rtype.kind t) #[.pointer (some ⟨1, 54, none⟩)]).run Tryd.prog w = .ok (.int .u8 2) w := by kernel_rfl

theorem rlm (z : Sem Value) (f : TypeId → Addr → Nat → Nat → Sem Value) (v : Value) :
    ReflectliteValue.method z f #[v] = (do match ← ReflectliteValue.parts v with | none => z | some (t, a, fl) => f t a fl (fl % 32)) := rfl
theorem partsP (a : Addr) (w : World) : (ReflectliteValue.parts (.agg #[.pointer (some ⟨1, 73, none⟩), .pointer (some a), .int .u64 150])).run Tryd.prog w = .ok (some (73, a, 150)) w := by kernel_rfl
theorem isNilP (a p : Addr) (W : World) (ha : W.cell? a = some (.pointer (some p))) :
    (ReflectliteValue.method (ReflectliteValue.valueError "reflectlite.Value.IsNil" 0) ReflectliteValue.isNil #[.agg #[.pointer (some ⟨1, 73, none⟩), .pointer (some a), .int .u64 150]]).run Tryd.prog W = .ok (.bool false) W := by
  rw [rlm]
  simp only [Sem.run_bind, partsP, Result.andThen]
  simp [ReflectliteValue.isNil, loadVar, isAgg, underlying, Tryd.underlying73, ha, Result.andThen]

theorem methodElem (h : Value) (w : World) : (Go.method 293 127 (.agg #[h]) "Elem").run Tryd.prog w = .ok (113, .agg #[h]) w := by kernel_rfl
theorem methodImplements (h : Value) (w : World) : (Go.method 293 127 (.agg #[h]) "Implements").run Tryd.prog w = .ok (114, .agg #[h]) w := by kernel_rfl
theorem methodAssignableTo (h : Value) (w : World) : (Go.method 293 127 (.agg #[h]) "AssignableTo").run Tryd.prog w = .ok (111, .agg #[h]) w := by kernel_rfl
theorem elemP (w : World) : (ReflectliteType.method ReflectliteType.elem #[.agg #[.pointer (some ⟨1, 73, none⟩)]]).run Tryd.prog w = .ok (.iface 127 (.agg #[.pointer (some ⟨1, 54, none⟩)])) w := by kernel_rfl
theorem implementsC (w : World) : (ReflectliteType.relation "Implements" ReflectliteType.implements_ #[.agg #[.pointer (some ⟨1, 54, none⟩)], .iface 127 (.agg #[.pointer (some ⟨1, 25, none⟩)])]).run Tryd.prog w = .ok (.bool true) w := by kernel_rfl
theorem typeOfC (v : Value) (w : World) : (ReflectliteType.typeOf #[.iface 54 v]).run Tryd.prog w = .ok (.iface 127 (.agg #[.pointer (some ⟨1, 54, none⟩)])) w := by kernel_rfl
theorem assignableC (w : World) : (ReflectliteType.relation "AssignableTo" ReflectliteType.assignableTo #[.agg #[.pointer (some ⟨1, 54, none⟩)], .iface 127 (.agg #[.pointer (some ⟨1, 54, none⟩)])]).run Tryd.prog w = .ok (.bool true) w := by kernel_rfl
theorem valueOfC (c : Int) (w : World) : (ReflectliteValue.unpack (.iface 54 (.int .i64 c))).run Tryd.prog w
    = .ok (.agg #[.pointer (some ⟨1, 54, none⟩), .pointer (some ⟨w.heap.size, 0, none⟩), .int .u64 130]) (w.alloc (.cells #[.int .i64 c] 54)) := by kernel_rfl

theorem elemOfP (w : World) : (Rtype.elem? 73).run Tryd.prog w = .ok (some 54) w := by kernel_rfl
theorem mkC (p : Addr) (w : World) : (ReflectliteValue.mk 54 p ReflectliteValue.flagAddr).run Tryd.prog w = .ok (.agg #[.pointer (some ⟨1, 54, none⟩), .pointer (some p), .int .u64 386]) w := by kernel_rfl
theorem elemVP (a p : Addr) (W : World) (ha : W.cell? a = some (.pointer (some p))) :
    (ReflectliteValue.method (ReflectliteValue.valueError "reflectlite.Value.Elem" 0) ReflectliteValue.elem #[.agg #[.pointer (some ⟨1, 73, none⟩), .pointer (some a), .int .u64 150]]).run Tryd.prog W
      = .ok (.agg #[.pointer (some ⟨1, 54, none⟩), .pointer (some p), .int .u64 386]) W := by
  rw [rlm]
  simp only [Sem.run_bind, partsP, Result.andThen]
  simp [ReflectliteValue.elem, loadVar, isAgg, underlying, Tryd.underlying73, ha, Result.andThen, elemOfP, mkC]
theorem rls (v x : Value) : ReflectliteValue.set #[v, x] = (do
    let (some (dst, a, fl), some (src, b, _)) := (← ReflectliteValue.parts v, ← ReflectliteValue.parts x)
      | unsupported (.noEntry "extern/(internal/reflectlite.Value).Set.zeroValue")
    if fl / ReflectliteValue.flagAddr % 2 == 0 then unsupported (.noEntry "extern/(internal/reflectlite.Value).Set.unaddressable")
    let val ← loadVar src b
    if ← Rtype.directlyAssignable dst src then storeVar dst a val
    else if ← Rtype.implements dst src then
      if (← Rtype.kind src) == 20 then
        match val with
        | .nilIface => unsupported (.noEntry "extern/reflectlite: a nil value of one interface type handed on as a value of another")
        | _ => storeVar dst a val
      else storeVar dst a (.iface src val)
    else panicString ("reflectlite.Set: value of type " ++ (← Rtype.spelt src) ++ " is not assignable to type " ++ (← Rtype.spelt dst))
    pure (.tuple #[])) := rfl
theorem partsCa (a : Addr) (w : World) : (ReflectliteValue.parts (.agg #[.pointer (some ⟨1, 54, none⟩), .pointer (some a), .int .u64 386])).run Tryd.prog w = .ok (some (54, a, 386)) w := by kernel_rfl
theorem partsC (a : Addr) (w : World) : (ReflectliteValue.parts (.agg #[.pointer (some ⟨1, 54, none⟩), .pointer (some a), .int .u64 130])).run Tryd.prog w = .ok (some (54, a, 130)) w := by kernel_rfl
theorem directC (w : World) : (Rtype.directlyAssignable 54 54).run Tryd.prog w = .ok true w := by kernel_rfl
theorem sizeC (w : World) : (sizeOf 54).run Tryd.prog w = .ok 1 w := by kernel_rfl
theorem setC (ta b : Addr) (c : Int) (old : Value) (W : World) (hb : W.cell? b = some (.int .i64 c)) (ht : W.cell? ta = some old) (hf : W.frozen? ta = false) :
    (ReflectliteValue.set #[.agg #[.pointer (some ⟨1, 54, none⟩), .pointer (some ta), .int .u64 386], .agg #[.pointer (some ⟨1, 54, none⟩), .pointer (some b), .int .u64 130]]).run Tryd.prog W
      = .ok (.tuple #[]) (W.setCell ta (.int .i64 c)) := by
  rw [rls]
  simp only [Sem.run_bind, partsCa, partsC, Result.andThen]
  simp [ReflectliteValue.flagAddr, loadVar, isAgg, underlying, Tryd.underlying54, hb, Result.andThen, directC, storeVar, Value.cells, storeCells, Addr.add]
  rw [run_store Tryd.prog W ta _ _ (by rfl)]
  simp [ht, hf]

/-- what the program's one package-level variable of package errors holds -/
def Lays (w : World) : Prop := w.cell? ⟨0, 0, none⟩ = some (.iface 127 (.agg #[.pointer (some ⟨1, 25, none⟩)]))
theorem Lays.pos {w : World} (h : Lays w) : 0 < w.heap.size := by
  rcases Nat.lt_or_ge 0 w.heap.size with h0 | h0
  · exact h0
  · unfold Lays at h; simp [World.cell?, Array.getElem?_eq_none h0] at h
theorem Lays.below {w w' : World} (h : Lays w) (hb : Below w.heap.size w w') : Lays w' := by
  unfold Lays at *
  rw [hb.cell (p := ⟨0, 0, none⟩) (Lays.pos h)]; exact h

set_option maxHeartbeats 4000000 in
theorem as_hit (c : Int) (t : Addr) (old : Value) (w : World) (hg : Lays w) (ht0 : w.cell? t = some old) (hf0 : w.frozen? t = false) :
    Calls Tryd.prog 24 #[.iface 54 (.int .i64 c), .iface 73 (.pointer (some t))] w fun ev w' => ev = .returned (.bool true) ∧ w' = ((((w.alloc (.cells #[.pointer (some t)] 73)).alloc (.cells #[.pointer (some ⟨1, 73, none⟩), .pointer (some ⟨w.heap.size, 0, none⟩), .int .u64 150] 90)).alloc (.cells #[.pointer (some ⟨1, 73, none⟩), .pointer (some ⟨w.heap.size, 0, none⟩), .int .u64 150] 90)).alloc (.cells #[.int .i64 c] 54)).setCell t (.int .i64 c) := by
  have hlt := Lays.pos hg
  unfold Lays at hg
  have h6 := @run_callFunc_extern Tryd.prog 35 _ (fun args => ReflectliteValue.unpack (args.getD 0 (.tuple #[]))) Tryd.func35 (by kernel_rfl) (by kernel_rfl) (by kernel_rfl) (by kernel_rfl)
  have h7 := @run_callFunc_extern Tryd.prog 36 _ (ReflectliteValue.methodAny (ReflectliteValue.valueError "reflectlite.Value.Type" 0) (fun t _ _ _ => ReflectliteType.toType t)) Tryd.func36 (by kernel_rfl) (by kernel_rfl) (by kernel_rfl) (by kernel_rfl)
  have h8 := @run_callFunc_extern Tryd.prog 37 _ (ReflectliteValue.method (ReflectliteValue.valueError "reflectlite.Value.IsNil" 0) ReflectliteValue.isNil) Tryd.func37 (by kernel_rfl) (by kernel_rfl) (by kernel_rfl) (by kernel_rfl)
  have h27 := @run_callFunc_extern Tryd.prog 103 _ (ReflectliteType.abiMethod fun t => do pure (.int .u8 (← Rtype.kind t))) Tryd.func103 (by kernel_rfl) (by kernel_rfl) (by kernel_rfl) (by kernel_rfl)
  have h37 := @run_callFunc_extern Tryd.prog 113 _ (ReflectliteType.method ReflectliteType.elem) Tryd.func113 (by kernel_rfl) (by kernel_rfl) (by kernel_rfl) (by kernel_rfl)
  have h38 := @run_callFunc_extern Tryd.prog 114 _ (ReflectliteType.relation "Implements" ReflectliteType.implements_) Tryd.func114 (by kernel_rfl) (by kernel_rfl) (by kernel_rfl) (by kernel_rfl)
  have h10 := @run_callFunc_extern Tryd.prog 61 _ ReflectliteType.typeOf Tryd.func61 (by kernel_rfl) (by kernel_rfl) (by kernel_rfl) (by kernel_rfl)
  have h35 := @run_callFunc_extern Tryd.prog 111 _ (ReflectliteType.relation "AssignableTo" ReflectliteType.assignableTo) Tryd.func111 (by kernel_rfl) (by kernel_rfl) (by kernel_rfl) (by kernel_rfl)
  have h11 := @run_callFunc_extern Tryd.prog 62 _ (ReflectliteValue.method (ReflectliteValue.valueError "reflectlite.Value.Elem" 0) ReflectliteValue.elem) Tryd.func62 (by kernel_rfl) (by kernel_rfl) (by kernel_rfl) (by kernel_rfl)
  have h12 := @run_callFunc_extern Tryd.prog 63 _ ReflectliteValue.set Tryd.func63 (by kernel_rfl) (by kernel_rfl) (by kernel_rfl) (by kernel_rfl)
  have tO := typeOfC
  have mA := methodAssignableTo
  have a25 := assignableC
  have v25 := valueOfC
  have f6 := valueOfP
  have f7 := typeP
  have mK := methodKind
  have mE := methodElem
  have mI := methodImplements
  have k27 := kindP
  have k25 := kindC
  have e27 := elemP
  have i25 := implementsC
  have n8 := isNilP ⟨w.heap.size, 0, none⟩ t ((w.alloc (.cells #[.pointer (some t)] 73)).alloc (.cells #[.pointer (some ⟨1, 73, none⟩), .pointer (some ⟨w.heap.size, 0, none⟩), .int .u64 150] 90)) (by simp)
  have hg2 : ((w.alloc (.cells #[.pointer (some t)] 73)).alloc (.cells #[.pointer (some ⟨1, 73, none⟩), .pointer (some ⟨w.heap.size, 0, none⟩), .int .u64 150] 90)).cell? ⟨0, 0, none⟩ = some (.iface 127 (.agg #[.pointer (some ⟨1, 25, none⟩)])) := by
    rw [World.cell?_alloc_lt _ _ ⟨0, 0, none⟩ (by first | (simp; done) | (simp; omega)), World.cell?_alloc_lt _ _ ⟨0, 0, none⟩ hlt]; exact hg
  have htl : t.block < w.heap.size := by
    rcases Nat.lt_or_ge t.block w.heap.size with h | h
    · exact h
    · simp [World.cell?, Array.getElem?_eq_none h] at ht0
  have el := elemVP ⟨w.heap.size, 0, none⟩ t (((w.alloc (.cells #[.pointer (some t)] 73)).alloc (.cells #[.pointer (some ⟨1, 73, none⟩), .pointer (some ⟨w.heap.size, 0, none⟩), .int .u64 150] 90)).alloc (.cells #[.pointer (some ⟨1, 73, none⟩), .pointer (some ⟨w.heap.size, 0, none⟩), .int .u64 150] 90)) (by rw [World.cell?_alloc_lt _ _ ⟨w.heap.size, 0, none⟩ (by simp; omega)]; simp)
  have st := setC t ⟨w.heap.size + 1 + 1 + 1, 0, none⟩ c old ((((w.alloc (.cells #[.pointer (some t)] 73)).alloc (.cells #[.pointer (some ⟨1, 73, none⟩), .pointer (some ⟨w.heap.size, 0, none⟩), .int .u64 150] 90)).alloc (.cells #[.pointer (some ⟨1, 73, none⟩), .pointer (some ⟨w.heap.size, 0, none⟩), .int .u64 150] 90)).alloc (.cells #[.int .i64 c] 54))
    (by rw [World.cell?_alloc_at _ _ _ _ (by simp)]; rfl)
    (by rw [World.cell?_alloc_lt _ _ t (by simp; omega), World.cell?_alloc_lt _ _ t (by simp; omega), World.cell?_alloc_lt _ _ t (by simp; omega), World.cell?_alloc_lt _ _ t htl]; exact ht0)
    (by rw [World.frozen?_alloc_old _ _ t (by simp; omega), World.frozen?_alloc_old _ _ t (by simp; omega), World.frozen?_alloc_old _ _ t (by simp; omega), World.frozen?_alloc_old _ _ t (Nat.ne_of_lt htl)]; exact hf0)
  go_enter Tryd.func24, Tryd.ntmps24
  go_wp2
  refine wp_loop_rounds 1 ?_
  rw [rounds_succ]
  go_wp2
  go_ret
  exact ⟨rfl, rfl⟩

/-- an error as the program has it: nil, or a code -/
def errV : Option Int → Value
  | none => .nilIface
  | some c => .iface 54 (.int .i64 c)
def codeOf : Option Int → Int
  | none => 0
  | some c => c

theorem code_nil (w : World) : Calls Tryd.prog 12 #[.nilIface] w fun e w' => e = .returned (.int .i64 0) ∧ w' = w := by
  go_enter Tryd.func12, Tryd.ntmps12
  go_wp2
  go_ret
  exact ⟨rfl, rfl⟩

set_option maxHeartbeats 4000000 in
theorem code_some (c : Int) (w : World) (hg : Lays w) : Calls Tryd.prog 12 #[.iface 54 (.int .i64 c)] w fun e w' => e = .returned (.int .i64 c) ∧ Below w.heap.size w w' := by
  have hlt := Lays.pos hg
  have hgA : Lays (w.alloc (.cells #[.int .i64 0] 54)) := Lays.below hg ((Below.refl _ _).alloc (Nat.le_refl _) _)
  have htA : (w.alloc (.cells #[.int .i64 0] 54)).cell? ⟨w.heap.size, 0, none⟩ = some (.int .i64 0) := by simp
  have hfA : (w.alloc (.cells #[.int .i64 0] 54)).frozen? ⟨w.heap.size, 0, none⟩ = false := by simp
  go_enter Tryd.func12, Tryd.ntmps12
  go_wp2_with (go_at_call 24; refine (as_hit c _ (.int .i64 0) _ hgA htA hfA).mono ?_; rintro e w' ⟨rfl, rfl⟩)
  go_ret
  refine ⟨rfl, ?_⟩
  repeat (first | exact Below.refl _ _ | refine Below.alloc ?_ (by simp; omega) _ | refine Below.alloc ?_ (by simp) _ | refine Below.alloc ?_ (Nat.le_refl _) _)

theorem code_any (o : Option Int) (w : World) (hg : Lays w) : Calls Tryd.prog 12 #[errV o] w fun e w' => e = .returned (.int .i64 (codeOf o)) ∧ Below w.heap.size w w' := by
  cases o with
  | none => exact (code_nil w).mono fun e w' ⟨he, hw⟩ => ⟨he, by subst hw; exact Below.refl _ _⟩
  | some c => exact code_some c w hg

end Go.Proofs.YtcjdbimojffggaaDoor.Cd
