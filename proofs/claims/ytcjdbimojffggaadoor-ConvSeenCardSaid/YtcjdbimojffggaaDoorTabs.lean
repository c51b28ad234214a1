/- Part of the proof: a machine of states for walks, and contracts of functions over it. Conditions: those that each theorem names. -/
import Derived.Test.YtcjdbimojffggaaDoorSx6
import Derived.Test.YtcjdbimojffggaaDoorProg
set_option linter.unusedVariables false
set_option linter.unusedSimpArgs false
/-! The types that the walks meet, with the program's own word for each. -/
namespace Sx
open Go Go.Proofs
set_option maxRecDepth 100000
def tab : List (Nat × TI) := [
  (1, ⟨.other, [.oth], [.nilFunc], 8⟩),
  (2, ⟨.cell (.int .i64), [.int .i64], [.int .i64 0], 8⟩),
  (3, ⟨.cell (.int .i64), [.int .i64], [.int .i64 0], 8⟩),
  (4, ⟨.cell (.bool), [.bool], [.bool false], 1⟩),
  (6, ⟨.cell (.int .u8), [.int .u8], [.int .u8 0], 1⟩),
  (9, ⟨.cell (.str), [.str], [.string ⟨#[]⟩], 16⟩),
  (20, ⟨.iface, [.oth], [.nilIface], 16⟩),
  (21, ⟨.cell (.int .i32), [.int .i32], [.int .i32 0], 4⟩),
  (23, ⟨.ptr 59, [.oth], [.pointer none], 8⟩),
  (25, ⟨.iface, [.oth], [.nilIface], 16⟩),
  (28, ⟨.slice 153, [.sl 28], [.slice none 0 0], 24⟩),
  (29, ⟨.cell (.int .u64), [.int .u64], [.int .u64 0], 8⟩),
  (30, ⟨.slice 122, [.sl 30], [.slice none 0 0], 24⟩),
  (31, ⟨.cell (.int .u32), [.int .u32], [.int .u32 0], 4⟩),
  (33, ⟨.struct [(0, 28), (1, 29), (2, 29), (3, 3), (4, 29), (5, 30), (6, 31), (7, 9)], [.sl 28, .int .u64, .int .u64, .int .i64, .int .u64, .sl 30, .int .u32, .str], [.slice none 0 0, .int .u64 0, .int .u64 0, .int .i64 0, .int .u64 0, .slice none 0 0, .int .u32 0, .string ⟨#[]⟩], 104⟩),
  (35, ⟨.struct [(0, 4), (1, 29)], [.bool, .int .u64], [.bool false, .int .u64 0], 16⟩),
  (36, ⟨.slice 29, [.sl 36], [.slice none 0 0], 24⟩),
  (38, ⟨.struct [(0, 28), (1, 29), (2, 29), (3, 29), (4, 35), (6, 35), (8, 35), (10, 36), (11, 36), (12, 30), (13, 31), (14, 9)], [.sl 28, .int .u64, .int .u64, .int .u64, .bool, .int .u64, .bool, .int .u64, .bool, .int .u64, .sl 36, .sl 36, .sl 30, .int .u32, .str], [.slice none 0 0, .int .u64 0, .int .u64 0, .int .u64 0, .bool false, .int .u64 0, .bool false, .int .u64 0, .bool false, .int .u64 0, .slice none 0 0, .slice none 0 0, .slice none 0 0, .int .u32 0, .string ⟨#[]⟩], 192⟩),
  (40, ⟨.struct [(0, 21), (1, 36), (2, 9)], [.int .i32, .sl 36, .str], [.int .i32 0, .slice none 0 0, .string ⟨#[]⟩], 48⟩),
  (42, ⟨.struct [(0, 28), (1, 29), (2, 29), (3, 29), (4, 35), (6, 35), (8, 35), (10, 21), (11, 29), (12, 4), (13, 40), (16, 4), (17, 40), (20, 30), (21, 31), (22, 29), (23, 9)], [.sl 28, .int .u64, .int .u64, .int .u64, .bool, .int .u64, .bool, .int .u64, .bool, .int .u64, .int .i32, .int .u64, .bool, .int .i32, .sl 36, .str, .bool, .int .i32, .sl 36, .str, .sl 30, .int .u32, .int .u64, .str], [.slice none 0 0, .int .u64 0, .int .u64 0, .int .u64 0, .bool false, .int .u64 0, .bool false, .int .u64 0, .bool false, .int .u64 0, .int .i32 0, .int .u64 0, .bool false, .int .i32 0, .slice none 0 0, .string ⟨#[]⟩, .bool false, .int .i32 0, .slice none 0 0, .string ⟨#[]⟩, .slice none 0 0, .int .u32 0, .int .u64 0, .string ⟨#[]⟩], 280⟩),
  (44, ⟨.struct [(0, 3), (1, 33), (9, 38), (24, 42)], [.int .i64, .sl 28, .int .u64, .int .u64, .int .i64, .int .u64, .sl 30, .int .u32, .str, .sl 28, .int .u64, .int .u64, .int .u64, .bool, .int .u64, .bool, .int .u64, .bool, .int .u64, .sl 36, .sl 36, .sl 30, .int .u32, .str, .sl 28, .int .u64, .int .u64, .int .u64, .bool, .int .u64, .bool, .int .u64, .bool, .int .u64, .int .i32, .int .u64, .bool, .int .i32, .sl 36, .str, .bool, .int .i32, .sl 36, .str, .sl 30, .int .u32, .int .u64, .str], [.int .i64 0, .slice none 0 0, .int .u64 0, .int .u64 0, .int .i64 0, .int .u64 0, .slice none 0 0, .int .u32 0, .string ⟨#[]⟩, .slice none 0 0, .int .u64 0, .int .u64 0, .int .u64 0, .bool false, .int .u64 0, .bool false, .int .u64 0, .bool false, .int .u64 0, .slice none 0 0, .slice none 0 0, .slice none 0 0, .int .u32 0, .string ⟨#[]⟩, .slice none 0 0, .int .u64 0, .int .u64 0, .int .u64 0, .bool false, .int .u64 0, .bool false, .int .u64 0, .bool false, .int .u64 0, .int .i32 0, .int .u64 0, .bool false, .int .i32 0, .slice none 0 0, .string ⟨#[]⟩, .bool false, .int .i32 0, .slice none 0 0, .string ⟨#[]⟩, .slice none 0 0, .int .u32 0, .int .u64 0, .string ⟨#[]⟩], 584⟩),
  (51, ⟨.slice 3, [.sl 51], [.slice none 0 0], 24⟩),
  (54, ⟨.cell (.int .i64), [.int .i64], [.int .i64 0], 8⟩),
  (57, ⟨.map 9 62, [.oth], [.map none], 8⟩),
  (59, ⟨.struct [(0, 3), (1, 3), (2, 3), (3, 3), (4, 57)], [.int .i64, .int .i64, .int .i64, .int .i64, .oth], [.int .i64 0, .int .i64 0, .int .i64 0, .int .i64 0, .map none], 40⟩),
  (62, ⟨.struct [(0, 44), (48, 3)], [.int .i64, .sl 28, .int .u64, .int .u64, .int .i64, .int .u64, .sl 30, .int .u32, .str, .sl 28, .int .u64, .int .u64, .int .u64, .bool, .int .u64, .bool, .int .u64, .bool, .int .u64, .sl 36, .sl 36, .sl 30, .int .u32, .str, .sl 28, .int .u64, .int .u64, .int .u64, .bool, .int .u64, .bool, .int .u64, .bool, .int .u64, .int .i32, .int .u64, .bool, .int .i32, .sl 36, .str, .bool, .int .i32, .sl 36, .str, .sl 30, .int .u32, .int .u64, .str, .int .i64], [.int .i64 0, .slice none 0 0, .int .u64 0, .int .u64 0, .int .i64 0, .int .u64 0, .slice none 0 0, .int .u32 0, .string ⟨#[]⟩, .slice none 0 0, .int .u64 0, .int .u64 0, .int .u64 0, .bool false, .int .u64 0, .bool false, .int .u64 0, .bool false, .int .u64 0, .slice none 0 0, .slice none 0 0, .slice none 0 0, .int .u32 0, .string ⟨#[]⟩, .slice none 0 0, .int .u64 0, .int .u64 0, .int .u64 0, .bool false, .int .u64 0, .bool false, .int .u64 0, .bool false, .int .u64 0, .int .i32 0, .int .u64 0, .bool false, .int .i32 0, .slice none 0 0, .string ⟨#[]⟩, .bool false, .int .i32 0, .slice none 0 0, .string ⟨#[]⟩, .slice none 0 0, .int .u32 0, .int .u64 0, .string ⟨#[]⟩, .int .i64 0], 592⟩),
  (70, ⟨.other, [.oth], [.nilFunc], 8⟩),
  (73, ⟨.ptr 54, [.oth], [.pointer none], 8⟩),
  (74, ⟨.slice 9, [.sl 74], [.slice none 0 0], 24⟩),
  (122, ⟨.struct [(0, 28), (1, 29), (2, 3), (3, 29), (4, 9), (5, 9), (6, 9)], [.sl 28, .int .u64, .int .i64, .int .u64, .str, .str, .str], [.slice none 0 0, .int .u64 0, .int .i64 0, .int .u64 0, .string ⟨#[]⟩, .string ⟨#[]⟩, .string ⟨#[]⟩], 96⟩),
  (123, ⟨.other, [.oth], [.nilFunc], 8⟩),
  (149, ⟨.slice 151, [.sl 149], [.slice none 0 0], 24⟩),
  (151, ⟨.struct [(0, 3), (1, 9), (2, 4), (3, 29), (4, 149), (5, 28), (6, 9), (7, 9)], [.int .i64, .str, .bool, .int .u64, .sl 149, .sl 28, .str, .str], [.int .i64 0, .string ⟨#[]⟩, .bool false, .int .u64 0, .slice none 0 0, .slice none 0 0, .string ⟨#[]⟩, .string ⟨#[]⟩], 120⟩),
  (153, ⟨.struct [(0, 9), (1, 4), (2, 151), (10, 9)], [.str, .bool, .int .i64, .str, .bool, .int .u64, .sl 149, .sl 28, .str, .str, .str], [.string ⟨#[]⟩, .bool false, .int .i64 0, .string ⟨#[]⟩, .bool false, .int .u64 0, .slice none 0 0, .slice none 0 0, .string ⟨#[]⟩, .string ⟨#[]⟩, .string ⟨#[]⟩], 160⟩),
  (154, ⟨.other, [.oth], [.nilFunc], 8⟩),
  (162, ⟨.other, [.oth], [.nilFunc], 8⟩)]
theorem tab_ok : tab.map (fun r => ttOf Tryd.prog r.1) = tab.map (fun r => some r.2) := by kernel_rfl
theorem tab_of {P : Program} : ∀ {l : List (Nat × TI)}, l.map (fun r => ttOf P r.1) = l.map (fun r => some r.2) → TOk P (lookT l)
  | [], _, t, i, h => by simp [lookT] at h
  | (k, v) :: l, hl, t, i, h => by
    simp only [List.map_cons, List.cons.injEq] at hl
    simp only [lookT] at h
    cases hb : t.beq k with
    | true =>
      rw [hb] at h
      simp only [cond_true, Option.some.injEq] at h
      rw [Nat.eq_of_beq_eq_true hb, ← h]
      exact hl.1
    | false =>
      rw [hb] at h
      exact tab_of hl.2 t i h
/-- the program, with contracts of what it calls -/
noncomputable def B (sp : List (FuncId × Spec)) : Pr := { P := Tryd.prog, tt := lookT tab, specs := sp }
theorem BT (sp : List (FuncId × Spec)) : TOk (B sp).P (B sp).tt := tab_of tab_ok
end Sx
