/- Part of the proof: a machine of states for walks, and contracts of functions over it. Conditions: those that each theorem names. -/
import Derived.Test.YtcjdbimojffggaaGreatDoorSx6
import Derived.Test.YtcjdbimojffggaaGreatDoorProg
set_option linter.unusedVariables false
set_option linter.unusedSimpArgs false
/-! The types that the walks meet, with the program's own word for each. -/
namespace Sx
open Go Go.Proofs
set_option maxRecDepth 100000
def tab : List (Nat × TI) := [
  (1, ⟨.other, [.oth], [.nilFunc], 8⟩),
  (2, ⟨.cell (.int .i64), [.int .i64], [.int .i64 0], 8⟩),
  (3, ⟨.cell (.int .i64), [.int .i64], [.int .i64 0], 8⟩),
  (4, ⟨.cell (.bool), [.bool], [.bool false], 1⟩),
  (6, ⟨.cell (.int .u8), [.int .u8], [.int .u8 0], 1⟩),
  (9, ⟨.cell (.str), [.str], [.string ⟨#[]⟩], 16⟩),
  (17, ⟨.ptr 282, [.oth], [.pointer none], 8⟩),
  (20, ⟨.iface, [.oth], [.nilIface], 16⟩),
  (21, ⟨.cell (.int .i32), [.int .i32], [.int .i32 0], 4⟩),
  (22, ⟨.slice 48, [.sl 22], [.slice none 0 0], 24⟩),
  (24, ⟨.ptr 81, [.oth], [.pointer none], 8⟩),
  (26, ⟨.iface, [.oth], [.nilIface], 16⟩),
  (30, ⟨.slice 165, [.sl 30], [.slice none 0 0], 24⟩),
  (31, ⟨.cell (.int .u64), [.int .u64], [.int .u64 0], 8⟩),
  (32, ⟨.slice 160, [.sl 32], [.slice none 0 0], 24⟩),
  (33, ⟨.cell (.int .u32), [.int .u32], [.int .u32 0], 4⟩),
  (35, ⟨.struct [(0, 30), (1, 31), (2, 31), (3, 3), (4, 31), (5, 32), (6, 33), (7, 9)], [.sl 30, .int .u64, .int .u64, .int .i64, .int .u64, .sl 32, .int .u32, .str], [.slice none 0 0, .int .u64 0, .int .u64 0, .int .i64 0, .int .u64 0, .slice none 0 0, .int .u32 0, .string ⟨#[]⟩], 104⟩),
  (37, ⟨.struct [(0, 4), (1, 31)], [.bool, .int .u64], [.bool false, .int .u64 0], 16⟩),
  (38, ⟨.slice 31, [.sl 38], [.slice none 0 0], 24⟩),
  (40, ⟨.struct [(0, 30), (1, 31), (2, 31), (3, 31), (4, 37), (6, 37), (8, 37), (10, 38), (11, 38), (12, 32), (13, 33), (14, 9)], [.sl 30, .int .u64, .int .u64, .int .u64, .bool, .int .u64, .bool, .int .u64, .bool, .int .u64, .sl 38, .sl 38, .sl 32, .int .u32, .str], [.slice none 0 0, .int .u64 0, .int .u64 0, .int .u64 0, .bool false, .int .u64 0, .bool false, .int .u64 0, .bool false, .int .u64 0, .slice none 0 0, .slice none 0 0, .slice none 0 0, .int .u32 0, .string ⟨#[]⟩], 192⟩),
  (42, ⟨.struct [(0, 21), (1, 38), (2, 9)], [.int .i32, .sl 38, .str], [.int .i32 0, .slice none 0 0, .string ⟨#[]⟩], 48⟩),
  (44, ⟨.struct [(0, 30), (1, 31), (2, 31), (3, 31), (4, 37), (6, 37), (8, 37), (10, 21), (11, 31), (12, 4), (13, 42), (16, 4), (17, 42), (20, 32), (21, 33), (22, 31), (23, 9)], [.sl 30, .int .u64, .int .u64, .int .u64, .bool, .int .u64, .bool, .int .u64, .bool, .int .u64, .int .i32, .int .u64, .bool, .int .i32, .sl 38, .str, .bool, .int .i32, .sl 38, .str, .sl 32, .int .u32, .int .u64, .str], [.slice none 0 0, .int .u64 0, .int .u64 0, .int .u64 0, .bool false, .int .u64 0, .bool false, .int .u64 0, .bool false, .int .u64 0, .int .i32 0, .int .u64 0, .bool false, .int .i32 0, .slice none 0 0, .string ⟨#[]⟩, .bool false, .int .i32 0, .slice none 0 0, .string ⟨#[]⟩, .slice none 0 0, .int .u32 0, .int .u64 0, .string ⟨#[]⟩], 280⟩),
  (46, ⟨.struct [(0, 3), (1, 35), (9, 40), (24, 44)], [.int .i64, .sl 30, .int .u64, .int .u64, .int .i64, .int .u64, .sl 32, .int .u32, .str, .sl 30, .int .u64, .int .u64, .int .u64, .bool, .int .u64, .bool, .int .u64, .bool, .int .u64, .sl 38, .sl 38, .sl 32, .int .u32, .str, .sl 30, .int .u64, .int .u64, .int .u64, .bool, .int .u64, .bool, .int .u64, .bool, .int .u64, .int .i32, .int .u64, .bool, .int .i32, .sl 38, .str, .bool, .int .i32, .sl 38, .str, .sl 32, .int .u32, .int .u64, .str], [.int .i64 0, .slice none 0 0, .int .u64 0, .int .u64 0, .int .i64 0, .int .u64 0, .slice none 0 0, .int .u32 0, .string ⟨#[]⟩, .slice none 0 0, .int .u64 0, .int .u64 0, .int .u64 0, .bool false, .int .u64 0, .bool false, .int .u64 0, .bool false, .int .u64 0, .slice none 0 0, .slice none 0 0, .slice none 0 0, .int .u32 0, .string ⟨#[]⟩, .slice none 0 0, .int .u64 0, .int .u64 0, .int .u64 0, .bool false, .int .u64 0, .bool false, .int .u64 0, .bool false, .int .u64 0, .int .i32 0, .int .u64 0, .bool false, .int .i32 0, .slice none 0 0, .string ⟨#[]⟩, .bool false, .int .i32 0, .slice none 0 0, .string ⟨#[]⟩, .slice none 0 0, .int .u32 0, .int .u64 0, .string ⟨#[]⟩], 584⟩),
  (48, ⟨.struct [(0, 3), (1, 9), (2, 4), (3, 46)], [.int .i64, .str, .bool, .int .i64, .sl 30, .int .u64, .int .u64, .int .i64, .int .u64, .sl 32, .int .u32, .str, .sl 30, .int .u64, .int .u64, .int .u64, .bool, .int .u64, .bool, .int .u64, .bool, .int .u64, .sl 38, .sl 38, .sl 32, .int .u32, .str, .sl 30, .int .u64, .int .u64, .int .u64, .bool, .int .u64, .bool, .int .u64, .bool, .int .u64, .int .i32, .int .u64, .bool, .int .i32, .sl 38, .str, .bool, .int .i32, .sl 38, .str, .sl 32, .int .u32, .int .u64, .str], [.int .i64 0, .string ⟨#[]⟩, .bool false, .int .i64 0, .slice none 0 0, .int .u64 0, .int .u64 0, .int .i64 0, .int .u64 0, .slice none 0 0, .int .u32 0, .string ⟨#[]⟩, .slice none 0 0, .int .u64 0, .int .u64 0, .int .u64 0, .bool false, .int .u64 0, .bool false, .int .u64 0, .bool false, .int .u64 0, .slice none 0 0, .slice none 0 0, .slice none 0 0, .int .u32 0, .string ⟨#[]⟩, .slice none 0 0, .int .u64 0, .int .u64 0, .int .u64 0, .bool false, .int .u64 0, .bool false, .int .u64 0, .bool false, .int .u64 0, .int .i32 0, .int .u64 0, .bool false, .int .i32 0, .slice none 0 0, .string ⟨#[]⟩, .bool false, .int .i32 0, .slice none 0 0, .string ⟨#[]⟩, .slice none 0 0, .int .u32 0, .int .u64 0, .string ⟨#[]⟩], 616⟩),
  (55, ⟨.struct [(0, 3), (1, 35), (9, 40), (24, 44)], [.int .i64, .sl 30, .int .u64, .int .u64, .int .i64, .int .u64, .sl 32, .int .u32, .str, .sl 30, .int .u64, .int .u64, .int .u64, .bool, .int .u64, .bool, .int .u64, .bool, .int .u64, .sl 38, .sl 38, .sl 32, .int .u32, .str, .sl 30, .int .u64, .int .u64, .int .u64, .bool, .int .u64, .bool, .int .u64, .bool, .int .u64, .int .i32, .int .u64, .bool, .int .i32, .sl 38, .str, .bool, .int .i32, .sl 38, .str, .sl 32, .int .u32, .int .u64, .str], [.int .i64 0, .slice none 0 0, .int .u64 0, .int .u64 0, .int .i64 0, .int .u64 0, .slice none 0 0, .int .u32 0, .string ⟨#[]⟩, .slice none 0 0, .int .u64 0, .int .u64 0, .int .u64 0, .bool false, .int .u64 0, .bool false, .int .u64 0, .bool false, .int .u64 0, .slice none 0 0, .slice none 0 0, .slice none 0 0, .int .u32 0, .string ⟨#[]⟩, .slice none 0 0, .int .u64 0, .int .u64 0, .int .u64 0, .bool false, .int .u64 0, .bool false, .int .u64 0, .bool false, .int .u64 0, .int .i32 0, .int .u64 0, .bool false, .int .i32 0, .slice none 0 0, .string ⟨#[]⟩, .bool false, .int .i32 0, .slice none 0 0, .string ⟨#[]⟩, .slice none 0 0, .int .u32 0, .int .u64 0, .string ⟨#[]⟩], 584⟩),
  (57, ⟨.slice 9, [.sl 57], [.slice none 0 0], 24⟩),
  (60, ⟨.ptr 103, [.oth], [.pointer none], 8⟩),
  (61, ⟨.cell (.int .i64), [.int .i64], [.int .i64 0], 8⟩),
  (74, ⟨.slice 35, [.sl 74], [.slice none 0 0], 24⟩),
  (79, ⟨.map 9 85, [.oth], [.map none], 8⟩),
  (81, ⟨.struct [(0, 3), (1, 3), (2, 3), (3, 3), (4, 79)], [.int .i64, .int .i64, .int .i64, .int .i64, .oth], [.int .i64 0, .int .i64 0, .int .i64 0, .int .i64 0, .map none], 40⟩),
  (85, ⟨.struct [(0, 46), (48, 3)], [.int .i64, .sl 30, .int .u64, .int .u64, .int .i64, .int .u64, .sl 32, .int .u32, .str, .sl 30, .int .u64, .int .u64, .int .u64, .bool, .int .u64, .bool, .int .u64, .bool, .int .u64, .sl 38, .sl 38, .sl 32, .int .u32, .str, .sl 30, .int .u64, .int .u64, .int .u64, .bool, .int .u64, .bool, .int .u64, .bool, .int .u64, .int .i32, .int .u64, .bool, .int .i32, .sl 38, .str, .bool, .int .i32, .sl 38, .str, .sl 32, .int .u32, .int .u64, .str, .int .i64], [.int .i64 0, .slice none 0 0, .int .u64 0, .int .u64 0, .int .i64 0, .int .u64 0, .slice none 0 0, .int .u32 0, .string ⟨#[]⟩, .slice none 0 0, .int .u64 0, .int .u64 0, .int .u64 0, .bool false, .int .u64 0, .bool false, .int .u64 0, .bool false, .int .u64 0, .slice none 0 0, .slice none 0 0, .slice none 0 0, .int .u32 0, .string ⟨#[]⟩, .slice none 0 0, .int .u64 0, .int .u64 0, .int .u64 0, .bool false, .int .u64 0, .bool false, .int .u64 0, .bool false, .int .u64 0, .int .i32 0, .int .u64 0, .bool false, .int .i32 0, .slice none 0 0, .string ⟨#[]⟩, .bool false, .int .i32 0, .slice none 0 0, .string ⟨#[]⟩, .slice none 0 0, .int .u32 0, .int .u64 0, .string ⟨#[]⟩, .int .i64 0], 592⟩),
  (96, ⟨.other, [.oth], [.nilFunc], 8⟩),
  (99, ⟨.other, [.oth], [.nilFunc], 8⟩),
  (101, ⟨.slice 110, [.sl 101], [.slice none 0 0], 24⟩),
  (103, ⟨.struct [(0, 3), (1, 3), (2, 3), (3, 3), (4, 101)], [.int .i64, .int .i64, .int .i64, .int .i64, .sl 101], [.int .i64 0, .int .i64 0, .int .i64 0, .int .i64 0, .slice none 0 0], 56⟩),
  (105, ⟨.ptr 61, [.oth], [.pointer none], 8⟩),
  (110, ⟨.struct [(0, 9), (1, 55), (49, 3)], [.str, .int .i64, .sl 30, .int .u64, .int .u64, .int .i64, .int .u64, .sl 32, .int .u32, .str, .sl 30, .int .u64, .int .u64, .int .u64, .bool, .int .u64, .bool, .int .u64, .bool, .int .u64, .sl 38, .sl 38, .sl 32, .int .u32, .str, .sl 30, .int .u64, .int .u64, .int .u64, .bool, .int .u64, .bool, .int .u64, .bool, .int .u64, .int .i32, .int .u64, .bool, .int .i32, .sl 38, .str, .bool, .int .i32, .sl 38, .str, .sl 32, .int .u32, .int .u64, .str, .int .i64], [.string ⟨#[]⟩, .int .i64 0, .slice none 0 0, .int .u64 0, .int .u64 0, .int .i64 0, .int .u64 0, .slice none 0 0, .int .u32 0, .string ⟨#[]⟩, .slice none 0 0, .int .u64 0, .int .u64 0, .int .u64 0, .bool false, .int .u64 0, .bool false, .int .u64 0, .bool false, .int .u64 0, .slice none 0 0, .slice none 0 0, .slice none 0 0, .int .u32 0, .string ⟨#[]⟩, .slice none 0 0, .int .u64 0, .int .u64 0, .int .u64 0, .bool false, .int .u64 0, .bool false, .int .u64 0, .bool false, .int .u64 0, .int .i32 0, .int .u64 0, .bool false, .int .i32 0, .slice none 0 0, .string ⟨#[]⟩, .bool false, .int .i32 0, .slice none 0 0, .string ⟨#[]⟩, .slice none 0 0, .int .u32 0, .int .u64 0, .string ⟨#[]⟩, .int .i64 0], 608⟩),
  (118, ⟨.other, [.oth], [.nilFunc], 8⟩),
  (138, ⟨.other, [.oth], [.pointer none], 8⟩),
  (139, ⟨.cell (.int .u64), [.int .u64], [.int .u64 0], 8⟩),
  (141, ⟨.struct [(0, 17), (1, 138), (2, 139)], [.oth, .oth, .int .u64], [.pointer none, .pointer none, .int .u64 0], 24⟩),
  (144, ⟨.iface, [.oth], [.nilIface], 16⟩),
  (146, ⟨.cell (.int .u8), [.int .u8], [.int .u8 0], 1⟩),
  (160, ⟨.struct [(0, 30), (1, 31), (2, 3), (3, 31), (4, 9), (5, 9), (6, 9)], [.sl 30, .int .u64, .int .i64, .int .u64, .str, .str, .str], [.slice none 0 0, .int .u64 0, .int .i64 0, .int .u64 0, .string ⟨#[]⟩, .string ⟨#[]⟩, .string ⟨#[]⟩], 96⟩),
  (161, ⟨.slice 163, [.sl 161], [.slice none 0 0], 24⟩),
  (163, ⟨.struct [(0, 3), (1, 9), (2, 4), (3, 31), (4, 161), (5, 30), (6, 9), (7, 9)], [.int .i64, .str, .bool, .int .u64, .sl 161, .sl 30, .str, .str], [.int .i64 0, .string ⟨#[]⟩, .bool false, .int .u64 0, .slice none 0 0, .slice none 0 0, .string ⟨#[]⟩, .string ⟨#[]⟩], 120⟩),
  (165, ⟨.struct [(0, 9), (1, 4), (2, 163), (10, 9)], [.str, .bool, .int .i64, .str, .bool, .int .u64, .sl 161, .sl 30, .str, .str, .str], [.string ⟨#[]⟩, .bool false, .int .i64 0, .string ⟨#[]⟩, .bool false, .int .u64 0, .slice none 0 0, .slice none 0 0, .string ⟨#[]⟩, .string ⟨#[]⟩, .string ⟨#[]⟩], 160⟩),
  (171, ⟨.cell (.int .u64), [.int .u64], [.int .u64 0], 8⟩),
  (176, ⟨.other, [.oth], [.nilFunc], 8⟩),
  (181, ⟨.struct [(0, 4)], [.bool], [.bool false], 1⟩),
  (183, ⟨.ptr 44, [.oth], [.pointer none], 8⟩),
  (185, ⟨.struct [(0, 3), (1, 38)], [.int .i64, .sl 38], [.int .i64 0, .slice none 0 0], 32⟩),
  (191, ⟨.struct [(0, 185), (2, 185)], [.int .i64, .sl 38, .int .i64, .sl 38], [.int .i64 0, .slice none 0 0, .int .i64 0, .slice none 0 0], 64⟩),
  (211, ⟨.slice 26, [.sl 211], [.slice none 0 0], 24⟩),
  (220, ⟨.array 3 37, [.bool, .int .u64, .bool, .int .u64, .bool, .int .u64], [.bool false, .int .u64 0, .bool false, .int .u64 0, .bool false, .int .u64 0], 48⟩),
  (226, ⟨.other, [.oth], [.nilFunc], 8⟩),
  (228, ⟨.ptr 181, [.oth], [.pointer none], 8⟩),
  (232, ⟨.slice 185, [.sl 232], [.slice none 0 0], 24⟩),
  (235, ⟨.cell (.int .i64), [.int .i64], [.int .i64 0], 8⟩),
  (244, ⟨.slice 251, [.sl 244], [.slice none 0 0], 24⟩),
  (251, ⟨.struct [(0, 3), (1, 31)], [.int .i64, .int .u64], [.int .i64 0, .int .u64 0], 16⟩),
  (254, ⟨.struct [(0, 3), (1, 31)], [.int .i64, .int .u64], [.int .i64 0, .int .u64 0], 16⟩)]
theorem tab_ok : tab.map (fun r => ttOf Tryz.prog r.1) = tab.map (fun r => some r.2) := by kernel_rfl
theorem tab_of {P : Program} : ∀ {l : List (Nat × TI)}, l.map (fun r => ttOf P r.1) = l.map (fun r => some r.2) → TOk P (lookT l)
  | [], _, t, i, h => by simp [lookT] at h
  | (k, v) :: l, hl, t, i, h => by
    simp only [List.map_cons, List.cons.injEq] at hl
    simp only [lookT] at h
    cases hb : t.beq k with
    | true =>
      rw [hb] at h
      simp only [cond_true, Option.some.injEq] at h
      rw [Nat.eq_of_beq_eq_true hb, ← h]
      exact hl.1
    | false =>
      rw [hb] at h
      exact tab_of hl.2 t i h
/-- the program, with contracts of what it calls -/
noncomputable def B (sp : List (FuncId × Spec)) : Pr := { P := Tryz.prog, tt := lookT tab, specs := sp }
theorem BT (sp : List (FuncId × Spec)) : TOk (B sp).P (B sp).tt := tab_of tab_ok
end Sx
