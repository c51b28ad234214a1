/- Part of the proof: a machine of states for walks, and contracts of functions over it. Conditions: those that each theorem names. -/
import Derived.Shelf.SlIter.Nil
import Derived.Shelf.SortM.Plain
import Derived.Shelf.SortM.SortNone
import Derived.Test.YtcjdbimojffggaaGreatDoorProg
set_option linter.unusedVariables false
set_option linter.unusedSimpArgs false
/-! slices.Sorted(maps.Keys(m)): the shelf's contracts, laid at this program in plain words (the layings written by the kit's lay-plain.mjs). -/
namespace Go.Proofs
open Go.RowKit Go.Maps Go.Sort Go.Shelf
def Tryz.keys47_ren : Go.Shelf.Ren := ⟨fun | 7 => 47 | 10 => 76 | n => n, fun | 23 => 79 | 26 => 9 | 3 => 85 | 28 => 99 | 0 => 0 | 27 => 98 | 33 => 89 | 4 => 4 | n => n, fun | n => n⟩
theorem Tryz.keys47 : Go.Proofs.SlLaysZ.n7 Tryz.prog Tryz.keys47_ren := {
  mixed := by kernel_rfl
  f7 := ⟨Tryz.f47.name, by decide, Tryz.func47.trans (congrArg some (by kernel_rfl))⟩
  f10 := ⟨Tryz.f76.name, by decide, Tryz.func76.trans (congrArg some (by kernel_rfl))⟩
  t0 := Tryz.underlying0
  a0 := Tryz.isAgg0
  z0 := Tryz.sizeOf0
  v0 := Tryz.zeroValue0
  t4 := Tryz.underlying4
  a4 := Tryz.isAgg4
  z4 := Tryz.sizeOf4
  v4 := Tryz.zeroValue4
  t23 := Tryz.underlying79
  a23 := Tryz.isAgg79
  z23 := Tryz.sizeOf79
  v23 := Tryz.zeroValue79
  t26 := Tryz.underlying9
  a26 := Tryz.isAgg9
  z26 := Tryz.sizeOf9
  v26 := Tryz.zeroValue9
  t27 := Tryz.underlying98
  a27 := Tryz.isAgg98
  z27 := Tryz.sizeOf98
  v27 := Tryz.zeroValue98
  t28 := Tryz.underlying99
  a28 := Tryz.isAgg99
  z28 := Tryz.sizeOf99
  v28 := Tryz.zeroValue99
  t33 := Tryz.underlying89
  a33 := Tryz.isAgg89
  z33 := Tryz.sizeOf89
  v33 := Tryz.zeroValue89 }
def Tryz.sorted46_ren : Go.Shelf.Ren := ⟨fun | 6 => 46 | 8 => 74 | 9 => 75 | 11 => 117 | 13 => 119 | 12 => 118 | 23 => 158 | 24 => 159 | 14 => 149 | 15 => 150 | 16 => 151 | 17 => 152 | 18 => 153 | 19 => 154 | 20 => 155 | 21 => 156 | 22 => 157 | 25 => 177 | 26 => 178 | 27 => 179 | 28 => 180 | 29 => 181 | 30 => 182 | 31 => 187 | n => n, fun | 26 => 9 | 28 => 99 | 24 => 57 | 0 => 0 | 3 => 3 | 37 => 171 | 48 => 33 | 50 => 31 | 4 => 4 | 40 => 236 | 39 => 235 | 45 => 213 | 5 => 5 | 9 => 9 | 51 => 258 | 55 => 261 | 57 => 266 | 58 => 267 | 33 => 89 | n => n, fun | n => n⟩
theorem Tryz.sorted46 : Go.Proofs.SlLaysZ.n6 Tryz.prog Tryz.sorted46_ren := {
  mixed := by kernel_rfl
  f6 := ⟨Tryz.f46.name, by decide, Tryz.func46.trans (congrArg some (by kernel_rfl))⟩
  f8 := ⟨Tryz.f74.name, by decide, Tryz.func74.trans (congrArg some (by kernel_rfl))⟩
  f11 := ⟨Tryz.f117.name, by decide, Tryz.func117.trans (congrArg some (by kernel_rfl))⟩
  t0 := Tryz.underlying0
  a0 := Tryz.isAgg0
  z0 := Tryz.sizeOf0
  v0 := Tryz.zeroValue0
  t24 := Tryz.underlying57
  a24 := Tryz.isAgg57
  z24 := Tryz.sizeOf57
  v24 := Tryz.zeroValue57
  t26 := Tryz.underlying9
  a26 := Tryz.isAgg9
  z26 := Tryz.sizeOf9
  v26 := Tryz.zeroValue9
  t28 := Tryz.underlying99
  a28 := Tryz.isAgg99
  z28 := Tryz.sizeOf99
  v28 := Tryz.zeroValue99
  i26 := by kernel_rfl }
def Tryz.sort75_ren : Go.Shelf.Ren := ⟨fun | 6 => 75 | 8 => 119 | 9 => 118 | 19 => 158 | 20 => 159 | 21 => 149 | 22 => 150 | 23 => 151 | 24 => 152 | 25 => 153 | 26 => 154 | 27 => 155 | 28 => 156 | 29 => 157 | 36 => 177 | 31 => 178 | 32 => 179 | 37 => 180 | 38 => 181 | 39 => 182 | 41 => 187 | n => n, fun | 27 => 57 | 29 => 9 | 3 => 3 | 32 => 171 | 26 => 57 | 0 => 0 | 44 => 33 | 46 => 31 | 4 => 4 | 36 => 236 | 35 => 235 | 41 => 213 | 5 => 5 | 9 => 9 | 53 => 258 | 57 => 261 | 63 => 266 | 64 => 267 | n => n, fun | n => n⟩
theorem Tryz.sort75 : Go.Proofs.SlLaysM.n6 Tryz.prog Tryz.sort75_ren := {
  mixed := by kernel_rfl
  f6 := ⟨Tryz.f75.name, by decide, Tryz.func75.trans (congrArg some (by kernel_rfl))⟩
  f8 := Tryz.func119.trans (congrArg some (by kernel_rfl))
  f9 := ⟨Tryz.f118.name, by decide, Tryz.func118.trans (congrArg some (by kernel_rfl))⟩
  f19 := Tryz.func158.trans (congrArg some (by kernel_rfl))
  f20 := Tryz.func159.trans (congrArg some (by kernel_rfl))
  f21 := ⟨Tryz.f149.name, by decide, Tryz.func149.trans (congrArg some (by kernel_rfl))⟩
  f22 := ⟨Tryz.f150.name, by decide, Tryz.func150.trans (congrArg some (by kernel_rfl))⟩
  f23 := ⟨Tryz.f151.name, by decide, Tryz.func151.trans (congrArg some (by kernel_rfl))⟩
  f24 := ⟨Tryz.f152.name, by decide, Tryz.func152.trans (congrArg some (by kernel_rfl))⟩
  f25 := ⟨Tryz.f153.name, by decide, Tryz.func153.trans (congrArg some (by kernel_rfl))⟩
  f26 := ⟨Tryz.f154.name, by decide, Tryz.func154.trans (congrArg some (by kernel_rfl))⟩
  f27 := ⟨Tryz.f155.name, by decide, Tryz.func155.trans (congrArg some (by kernel_rfl))⟩
  f28 := ⟨Tryz.f156.name, by decide, Tryz.func156.trans (congrArg some (by kernel_rfl))⟩
  f29 := ⟨Tryz.f157.name, by decide, Tryz.func157.trans (congrArg some (by kernel_rfl))⟩
  f31 := Tryz.func178.trans (congrArg some (by kernel_rfl))
  f32 := Tryz.func179.trans (congrArg some (by kernel_rfl))
  f36 := ⟨Tryz.f177.name, by decide, Tryz.func177.trans (congrArg some (by kernel_rfl))⟩
  f37 := ⟨Tryz.f180.name, by decide, Tryz.func180.trans (congrArg some (by kernel_rfl))⟩
  f38 := ⟨Tryz.f181.name, by decide, Tryz.func181.trans (congrArg some (by kernel_rfl))⟩
  f39 := ⟨Tryz.f182.name, by decide, Tryz.func182.trans (congrArg some (by kernel_rfl))⟩
  f41 := ⟨Tryz.f187.name, by decide, Tryz.func187.trans (congrArg some (by kernel_rfl))⟩
  t0 := Tryz.underlying0
  a0 := Tryz.isAgg0
  z0 := Tryz.sizeOf0
  v0 := Tryz.zeroValue0
  t3 := Tryz.underlying3
  a3 := Tryz.isAgg3
  z3 := Tryz.sizeOf3
  v3 := Tryz.zeroValue3
  t4 := Tryz.underlying4
  a4 := Tryz.isAgg4
  z4 := Tryz.sizeOf4
  v4 := Tryz.zeroValue4
  t5 := Tryz.underlying5
  a5 := Tryz.isAgg5
  z5 := Tryz.sizeOf5
  v5 := Tryz.zeroValue5
  t9 := Tryz.underlying9
  a9 := Tryz.isAgg9
  z9 := Tryz.sizeOf9
  v9 := Tryz.zeroValue9
  t26 := Tryz.underlying57
  a26 := Tryz.isAgg57
  z26 := Tryz.sizeOf57
  v26 := Tryz.zeroValue57
  t27 := Tryz.underlying57
  a27 := Tryz.isAgg57
  z27 := Tryz.sizeOf57
  v27 := Tryz.zeroValue57
  t29 := Tryz.underlying9
  a29 := Tryz.isAgg9
  z29 := Tryz.sizeOf9
  v29 := Tryz.zeroValue9
  t32 := Tryz.underlying171
  a32 := Tryz.isAgg171
  z32 := Tryz.sizeOf171
  v32 := Tryz.zeroValue171
  t35 := Tryz.underlying235
  a35 := Tryz.isAgg235
  z35 := Tryz.sizeOf235
  v35 := Tryz.zeroValue235
  t36 := Tryz.underlying236
  a36 := Tryz.isAgg236
  z36 := Tryz.sizeOf236
  v36 := Tryz.zeroValue236
  t41 := Tryz.underlying213
  a41 := Tryz.isAgg213
  z41 := Tryz.sizeOf213
  v41 := Tryz.zeroValue213
  t44 := Tryz.underlying33
  a44 := Tryz.isAgg33
  z44 := Tryz.sizeOf33
  v44 := Tryz.zeroValue33
  t46 := Tryz.underlying31
  a46 := Tryz.isAgg31
  z46 := Tryz.sizeOf31
  v46 := Tryz.zeroValue31
  t53 := Tryz.underlying258
  a53 := Tryz.isAgg258
  z53 := Tryz.sizeOf258
  v53 := Tryz.zeroValue258
  t57 := Tryz.underlying261
  a57 := Tryz.isAgg261
  z57 := Tryz.sizeOf261
  v57 := Tryz.zeroValue261
  t63 := Tryz.underlying266
  a63 := Tryz.isAgg266
  z63 := Tryz.sizeOf266
  v63 := Tryz.zeroValue266
  t64 := Tryz.underlying267
  a64 := Tryz.isAgg267
  z64 := Tryz.sizeOf267
  v64 := Tryz.zeroValue267 }
theorem Tryz.sorts46 (m : Nat) : AnyZ.SortsIn Tryz.prog Tryz.sorted46_ren Fence.wide m :=
  ⟨fun blk off cap ss W hH hblk hsz => callsIn_wide.2 (AnyM.slices_Sort_string Tryz.sort75 blk off cap ss W hH hblk hsz),
   fun p cap W => callsIn_wide.2 (AnyM.slices_Sort_string_none Tryz.sort75 p cap W)⟩
theorem Tryz.maps_Keys_47 (mb : Option Nat) (W : World) : CallsIn Fence.wide 5 Tryz.prog 47 #[.map mb] W fun e w' => e = .returned (.func (.func 76) #[] #[.pointer (some ⟨W.heap.size, 0, none⟩)]) ∧ w' = W.alloc (.cells #[.map mb] 79) :=
  AnyZ.keys_in Tryz.keys47 Fence.wide 5 trivial rfl mb W
set_option maxHeartbeats 1000000 in
theorem Tryz.slices_Sorted_keys {H : Type} (b nn : Nat) (D0 : DataW H) (R : Value → Option (DataW H × List MemPlace)) (w : World) (hown : w.ownsMap Tryz.prog 9 R b nn D0) (hmax : Maps.size D0 ≤ maxLen) (hbytes : Maps.size D0 * 16 ≤ 140737488355328) :
    CallsIn Fence.wide 5 Tryz.prog 46 #[.func (.func 76) #[] #[.pointer (some ⟨w.heap.size, 0, none⟩)]] (w.alloc (.cells #[.map (some b)] 79)) fun e w' => ∃ (v : Value) (ss : List (List UInt8)), e = .returned v ∧ ss.Perm (strKeys D0) ∧
      w'.ownsRow (w.alloc (.cells #[.map (some b)] 79)).heap.size 9 1 v ss.length ((ss.mergeSort (fun x y => decide (x ≤ y))).map encStr) ∧ (v = .slice none 0 0 ↔ ss = []) ∧ Below (w.alloc (.cells #[.map (some b)] 79)).heap.size (w.alloc (.cells #[.map (some b)] 79)) w' := by
  have hbl := hown.lt
  have hseq : SeqGives Fence.wide 2 Tryz.prog 76 #[.pointer (some ⟨w.heap.size, 0, none⟩)] encStr (fun ss => ss.Perm (strKeys D0)) (Maps.size D0) (w.alloc (.cells #[.map (some b)] 79)) :=
    AnyZ.keys_gives (ρ := Tryz.keys47_ren) { Tryz.keys47 with } Fence.wide _ trivial rfl (by omega) w.heap.size b nn D0 _ (by simp) (by simp) (by
      obtain ⟨es, clock, hb, Ft, hs, hD⟩ := hown
      exact ⟨es, clock, (Below.heap_alloc _ _ b hbl).trans hb, Ft, hs, hD⟩)
  exact AnyZ.sorted_in Tryz.sorted46 Fence.wide 5 trivial trivial trivial trivial rfl (by omega) (Tryz.sorts46 _) (enters_of Tryz.func75 (by kernel_rfl) rfl) 76 #[.pointer (some ⟨w.heap.size, 0, none⟩)] trivial (enters_of Tryz.func76 (by kernel_rfl) rfl) _ _ hmax hbytes _ hseq
end Go.Proofs
