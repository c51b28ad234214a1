/- Part of the proof: a machine of states for walks, and contracts of functions over it. Conditions: those that each theorem names. -/
import Derived.Test.YtcmghblegllmlaaGreatDoorSx6
import Derived.Test.YtcmghblegllmlaaGreatDoorProg
set_option linter.unusedVariables false
set_option linter.unusedSimpArgs false
/-! The types that the walks meet, with the program's own word for each. -/
namespace Sx
open Go Go.Proofs
set_option maxRecDepth 100000
def tab : List (Nat × TI) := [
  (1, ⟨.other, [.oth], [.nilFunc], 8⟩),
  (2, ⟨.cell (.int .i64), [.int .i64], [.int .i64 0], 8⟩),
  (3, ⟨.cell (.int .i64), [.int .i64], [.int .i64 0], 8⟩),
  (4, ⟨.cell (.bool), [.bool], [.bool false], 1⟩),
  (9, ⟨.cell (.str), [.str], [.string ⟨#[]⟩], 16⟩),
  (17, ⟨.ptr 199, [.oth], [.pointer none], 8⟩),
  (20, ⟨.iface, [.oth], [.nilIface], 16⟩),
  (21, ⟨.cell (.int .i32), [.int .i32], [.int .i32 0], 4⟩),
  (22, ⟨.slice 126, [.sl 22], [.slice none 0 0], 24⟩),
  (23, ⟨.cell (.int .u64), [.int .u64], [.int .u64 0], 8⟩),
  (25, ⟨.struct [(0, 4), (1, 23)], [.bool, .int .u64], [.bool false, .int .u64 0], 16⟩),
  (26, ⟨.slice 23, [.sl 26], [.slice none 0 0], 24⟩),
  (27, ⟨.slice 115, [.sl 27], [.slice none 0 0], 24⟩),
  (28, ⟨.cell (.int .u32), [.int .u32], [.int .u32 0], 4⟩),
  (30, ⟨.struct [(0, 22), (1, 23), (2, 23), (3, 23), (4, 25), (6, 25), (8, 25), (10, 26), (11, 26), (12, 27), (13, 28), (14, 9)], [.sl 22, .int .u64, .int .u64, .int .u64, .bool, .int .u64, .bool, .int .u64, .bool, .int .u64, .sl 26, .sl 26, .sl 27, .int .u32, .str], [.slice none 0 0, .int .u64 0, .int .u64 0, .int .u64 0, .bool false, .int .u64 0, .bool false, .int .u64 0, .bool false, .int .u64 0, .slice none 0 0, .slice none 0 0, .slice none 0 0, .int .u32 0, .string ⟨#[]⟩], 192⟩),
  (33, ⟨.slice 30, [.sl 33], [.slice none 0 0], 24⟩),
  (36, ⟨.iface, [.oth], [.nilIface], 16⟩),
  (39, ⟨.cell (.int .i64), [.int .i64], [.int .i64 0], 8⟩),
  (46, ⟨.struct [(0, 21), (1, 26), (2, 9)], [.int .i32, .sl 26, .str], [.int .i32 0, .slice none 0 0, .string ⟨#[]⟩], 48⟩),
  (48, ⟨.struct [(0, 22), (1, 23), (2, 23), (3, 23), (4, 25), (6, 25), (8, 25), (10, 21), (11, 23), (12, 4), (13, 46), (16, 4), (17, 46), (20, 27), (21, 28), (22, 23), (23, 9)], [.sl 22, .int .u64, .int .u64, .int .u64, .bool, .int .u64, .bool, .int .u64, .bool, .int .u64, .int .i32, .int .u64, .bool, .int .i32, .sl 26, .str, .bool, .int .i32, .sl 26, .str, .sl 27, .int .u32, .int .u64, .str], [.slice none 0 0, .int .u64 0, .int .u64 0, .int .u64 0, .bool false, .int .u64 0, .bool false, .int .u64 0, .bool false, .int .u64 0, .int .i32 0, .int .u64 0, .bool false, .int .i32 0, .slice none 0 0, .string ⟨#[]⟩, .bool false, .int .i32 0, .slice none 0 0, .string ⟨#[]⟩, .slice none 0 0, .int .u32 0, .int .u64 0, .string ⟨#[]⟩], 280⟩),
  (50, ⟨.slice 48, [.sl 50], [.slice none 0 0], 24⟩),
  (64, ⟨.struct [(0, 22), (1, 23), (2, 23), (3, 3), (4, 23), (5, 27), (6, 28), (7, 9)], [.sl 22, .int .u64, .int .u64, .int .i64, .int .u64, .sl 27, .int .u32, .str], [.slice none 0 0, .int .u64 0, .int .u64 0, .int .i64 0, .int .u64 0, .slice none 0 0, .int .u32 0, .string ⟨#[]⟩], 104⟩),
  (69, ⟨.struct [(0, 4)], [.bool], [.bool false], 1⟩),
  (71, ⟨.other, [.oth], [.nilFunc], 8⟩),
  (76, ⟨.array 3 25, [.bool, .int .u64, .bool, .int .u64, .bool, .int .u64], [.bool false, .int .u64 0, .bool false, .int .u64 0, .bool false, .int .u64 0], 48⟩),
  (83, ⟨.ptr 39, [.oth], [.pointer none], 8⟩),
  (89, ⟨.struct [(0, 3), (1, 26)], [.int .i64, .sl 26], [.int .i64 0, .slice none 0 0], 32⟩),
  (91, ⟨.struct [(0, 89), (2, 89)], [.int .i64, .sl 26, .int .i64, .sl 26], [.int .i64 0, .slice none 0 0, .int .i64 0, .slice none 0 0], 64⟩),
  (95, ⟨.ptr 48, [.oth], [.pointer none], 8⟩),
  (115, ⟨.struct [(0, 22), (1, 23), (2, 3), (3, 23), (4, 9), (5, 9), (6, 9)], [.sl 22, .int .u64, .int .i64, .int .u64, .str, .str, .str], [.slice none 0 0, .int .u64 0, .int .i64 0, .int .u64 0, .string ⟨#[]⟩, .string ⟨#[]⟩, .string ⟨#[]⟩], 96⟩),
  (116, ⟨.other, [.oth], [.nilFunc], 8⟩),
  (117, ⟨.ptr 69, [.oth], [.pointer none], 8⟩),
  (122, ⟨.slice 124, [.sl 122], [.slice none 0 0], 24⟩),
  (124, ⟨.struct [(0, 3), (1, 9), (2, 4), (3, 23), (4, 122), (5, 22), (6, 9), (7, 9)], [.int .i64, .str, .bool, .int .u64, .sl 122, .sl 22, .str, .str], [.int .i64 0, .string ⟨#[]⟩, .bool false, .int .u64 0, .slice none 0 0, .slice none 0 0, .string ⟨#[]⟩, .string ⟨#[]⟩], 120⟩),
  (126, ⟨.struct [(0, 9), (1, 4), (2, 124), (10, 9)], [.str, .bool, .int .i64, .str, .bool, .int .u64, .sl 122, .sl 22, .str, .str, .str], [.string ⟨#[]⟩, .bool false, .int .i64 0, .string ⟨#[]⟩, .bool false, .int .u64 0, .slice none 0 0, .slice none 0 0, .string ⟨#[]⟩, .string ⟨#[]⟩, .string ⟨#[]⟩], 160⟩),
  (128, ⟨.other, [.oth], [.pointer none], 8⟩),
  (129, ⟨.cell (.int .u64), [.int .u64], [.int .u64 0], 8⟩),
  (131, ⟨.struct [(0, 17), (1, 128), (2, 129)], [.oth, .oth, .int .u64], [.pointer none, .pointer none, .int .u64 0], 24⟩),
  (134, ⟨.iface, [.oth], [.nilIface], 16⟩),
  (136, ⟨.cell (.int .u8), [.int .u8], [.int .u8 0], 1⟩),
  (144, ⟨.slice 89, [.sl 144], [.slice none 0 0], 24⟩),
  (146, ⟨.slice 152, [.sl 146], [.slice none 0 0], 24⟩),
  (152, ⟨.struct [(0, 3), (1, 23)], [.int .i64, .int .u64], [.int .i64 0, .int .u64 0], 16⟩),
  (155, ⟨.other, [.oth], [.nilFunc], 8⟩),
  (157, ⟨.struct [(0, 3), (1, 23)], [.int .i64, .int .u64], [.int .i64 0, .int .u64 0], 16⟩),
  (166, ⟨.cell (.int .u64), [.int .u64], [.int .u64 0], 8⟩),
  (180, ⟨.slice 36, [.sl 180], [.slice none 0 0], 24⟩),
  (184, ⟨.other, [.oth], [.nilFunc], 8⟩)]
theorem tab_ok : tab.map (fun r => ttOf Tryz.prog r.1) = tab.map (fun r => some r.2) := by kernel_rfl
theorem tab_of {P : Program} : ∀ {l : List (Nat × TI)}, l.map (fun r => ttOf P r.1) = l.map (fun r => some r.2) → TOk P (lookT l)
  | [], _, t, i, h => by simp [lookT] at h
  | (k, v) :: l, hl, t, i, h => by
    simp only [List.map_cons, List.cons.injEq] at hl
    simp only [lookT] at h
    cases hb : t.beq k with
    | true =>
      rw [hb] at h
      simp only [cond_true, Option.some.injEq] at h
      rw [Nat.eq_of_beq_eq_true hb, ← h]
      exact hl.1
    | false =>
      rw [hb] at h
      exact tab_of hl.2 t i h
/-- the program, with contracts of what it calls -/
noncomputable def B (sp : List (FuncId × Spec)) : Pr := { P := Tryz.prog, tt := lookT tab, specs := sp }
theorem BT (sp : List (FuncId × Spec)) : TOk (B sp).P (B sp).tt := tab_of tab_ok
end Sx
