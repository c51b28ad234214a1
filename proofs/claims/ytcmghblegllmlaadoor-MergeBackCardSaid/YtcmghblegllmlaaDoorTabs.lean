/- Part of the proof: a machine of states for walks, and contracts of functions over it. Conditions: those that each theorem names. -/
import Derived.Test.YtcmghblegllmlaaDoorSx6
import Derived.Test.YtcmghblegllmlaaDoorProg
set_option linter.unusedVariables false
set_option linter.unusedSimpArgs false
/-! The types that the walks meet, with the program's own word for each. -/
namespace Sx
open Go Go.Proofs
set_option maxRecDepth 100000
def tab : List (Nat × TI) := [
  (1, ⟨.other, [.oth], [.nilFunc], 8⟩),
  (2, ⟨.cell (.int .i64), [.int .i64], [.int .i64 0], 8⟩),
  (3, ⟨.cell (.int .i64), [.int .i64], [.int .i64 0], 8⟩),
  (4, ⟨.cell (.bool), [.bool], [.bool false], 1⟩),
  (9, ⟨.cell (.str), [.str], [.string ⟨#[]⟩], 16⟩),
  (17, ⟨.ptr 196, [.oth], [.pointer none], 8⟩),
  (20, ⟨.iface, [.oth], [.nilIface], 16⟩),
  (21, ⟨.cell (.int .i32), [.int .i32], [.int .i32 0], 4⟩),
  (22, ⟨.slice 41, [.sl 22], [.slice none 0 0], 24⟩),
  (24, ⟨.struct [(0, 21), (1, 22), (2, 9)], [.int .i32, .sl 22, .str], [.int .i32 0, .slice none 0 0, .string ⟨#[]⟩], 48⟩),
  (28, ⟨.iface, [.oth], [.nilIface], 16⟩),
  (31, ⟨.cell (.int .i64), [.int .i64], [.int .i64 0], 8⟩),
  (40, ⟨.slice 152, [.sl 40], [.slice none 0 0], 24⟩),
  (41, ⟨.cell (.int .u64), [.int .u64], [.int .u64 0], 8⟩),
  (43, ⟨.struct [(0, 4), (1, 41)], [.bool, .int .u64], [.bool false, .int .u64 0], 16⟩),
  (44, ⟨.slice 145, [.sl 44], [.slice none 0 0], 24⟩),
  (45, ⟨.cell (.int .u32), [.int .u32], [.int .u32 0], 4⟩),
  (47, ⟨.struct [(0, 40), (1, 41), (2, 41), (3, 41), (4, 43), (6, 43), (8, 43), (10, 21), (11, 41), (12, 4), (13, 24), (16, 4), (17, 24), (20, 44), (21, 45), (22, 41), (23, 9)], [.sl 40, .int .u64, .int .u64, .int .u64, .bool, .int .u64, .bool, .int .u64, .bool, .int .u64, .int .i32, .int .u64, .bool, .int .i32, .sl 22, .str, .bool, .int .i32, .sl 22, .str, .sl 44, .int .u32, .int .u64, .str], [.slice none 0 0, .int .u64 0, .int .u64 0, .int .u64 0, .bool false, .int .u64 0, .bool false, .int .u64 0, .bool false, .int .u64 0, .int .i32 0, .int .u64 0, .bool false, .int .i32 0, .slice none 0 0, .string ⟨#[]⟩, .bool false, .int .i32 0, .slice none 0 0, .string ⟨#[]⟩, .slice none 0 0, .int .u32 0, .int .u64 0, .string ⟨#[]⟩], 280⟩),
  (49, ⟨.slice 47, [.sl 49], [.slice none 0 0], 24⟩),
  (56, ⟨.struct [(0, 40), (1, 41), (2, 41), (3, 41), (4, 43), (6, 43), (8, 43), (10, 22), (11, 22), (12, 44), (13, 45), (14, 9)], [.sl 40, .int .u64, .int .u64, .int .u64, .bool, .int .u64, .bool, .int .u64, .bool, .int .u64, .sl 22, .sl 22, .sl 44, .int .u32, .str], [.slice none 0 0, .int .u64 0, .int .u64 0, .int .u64 0, .bool false, .int .u64 0, .bool false, .int .u64 0, .bool false, .int .u64 0, .slice none 0 0, .slice none 0 0, .slice none 0 0, .int .u32 0, .string ⟨#[]⟩], 192⟩),
  (58, ⟨.slice 56, [.sl 58], [.slice none 0 0], 24⟩),
  (71, ⟨.struct [(0, 40), (1, 41), (2, 41), (3, 3), (4, 41), (5, 44), (6, 45), (7, 9)], [.sl 40, .int .u64, .int .u64, .int .i64, .int .u64, .sl 44, .int .u32, .str], [.slice none 0 0, .int .u64 0, .int .u64 0, .int .i64 0, .int .u64 0, .slice none 0 0, .int .u32 0, .string ⟨#[]⟩], 104⟩),
  (80, ⟨.struct [(0, 4)], [.bool], [.bool false], 1⟩),
  (82, ⟨.struct [(0, 3), (1, 22)], [.int .i64, .sl 22], [.int .i64 0, .slice none 0 0], 32⟩),
  (88, ⟨.ptr 31, [.oth], [.pointer none], 8⟩),
  (90, ⟨.slice 139, [.sl 90], [.slice none 0 0], 24⟩),
  (100, ⟨.ptr 47, [.oth], [.pointer none], 8⟩),
  (106, ⟨.other, [.oth], [.nilFunc], 8⟩),
  (114, ⟨.struct [(0, 82), (2, 82)], [.int .i64, .sl 22, .int .i64, .sl 22], [.int .i64 0, .slice none 0 0, .int .i64 0, .slice none 0 0], 64⟩),
  (122, ⟨.ptr 80, [.oth], [.pointer none], 8⟩),
  (125, ⟨.other, [.oth], [.pointer none], 8⟩),
  (126, ⟨.cell (.int .u64), [.int .u64], [.int .u64 0], 8⟩),
  (128, ⟨.struct [(0, 17), (1, 125), (2, 126)], [.oth, .oth, .int .u64], [.pointer none, .pointer none, .int .u64 0], 24⟩),
  (131, ⟨.iface, [.oth], [.nilIface], 16⟩),
  (133, ⟨.cell (.int .u8), [.int .u8], [.int .u8 0], 1⟩),
  (137, ⟨.cell (.int .u64), [.int .u64], [.int .u64 0], 8⟩),
  (139, ⟨.struct [(0, 3), (1, 41)], [.int .i64, .int .u64], [.int .i64 0, .int .u64 0], 16⟩),
  (145, ⟨.struct [(0, 40), (1, 41), (2, 3), (3, 41), (4, 9), (5, 9), (6, 9)], [.sl 40, .int .u64, .int .i64, .int .u64, .str, .str, .str], [.slice none 0 0, .int .u64 0, .int .i64 0, .int .u64 0, .string ⟨#[]⟩, .string ⟨#[]⟩, .string ⟨#[]⟩], 96⟩),
  (146, ⟨.other, [.oth], [.nilFunc], 8⟩),
  (148, ⟨.slice 150, [.sl 148], [.slice none 0 0], 24⟩),
  (150, ⟨.struct [(0, 3), (1, 9), (2, 4), (3, 41), (4, 148), (5, 40), (6, 9), (7, 9)], [.int .i64, .str, .bool, .int .u64, .sl 148, .sl 40, .str, .str], [.int .i64 0, .string ⟨#[]⟩, .bool false, .int .u64 0, .slice none 0 0, .slice none 0 0, .string ⟨#[]⟩, .string ⟨#[]⟩], 120⟩),
  (152, ⟨.struct [(0, 9), (1, 4), (2, 150), (10, 9)], [.str, .bool, .int .i64, .str, .bool, .int .u64, .sl 148, .sl 40, .str, .str, .str], [.string ⟨#[]⟩, .bool false, .int .i64 0, .string ⟨#[]⟩, .bool false, .int .u64 0, .slice none 0 0, .slice none 0 0, .string ⟨#[]⟩, .string ⟨#[]⟩, .string ⟨#[]⟩], 160⟩),
  (157, ⟨.slice 82, [.sl 157], [.slice none 0 0], 24⟩),
  (173, ⟨.other, [.oth], [.nilFunc], 8⟩),
  (176, ⟨.struct [(0, 3), (1, 41)], [.int .i64, .int .u64], [.int .i64 0, .int .u64 0], 16⟩),
  (181, ⟨.other, [.oth], [.nilFunc], 8⟩)]
theorem tab_ok : tab.map (fun r => ttOf Tryd.prog r.1) = tab.map (fun r => some r.2) := by kernel_rfl
theorem tab_of {P : Program} : ∀ {l : List (Nat × TI)}, l.map (fun r => ttOf P r.1) = l.map (fun r => some r.2) → TOk P (lookT l)
  | [], _, t, i, h => by simp [lookT] at h
  | (k, v) :: l, hl, t, i, h => by
    simp only [List.map_cons, List.cons.injEq] at hl
    simp only [lookT] at h
    cases hb : t.beq k with
    | true =>
      rw [hb] at h
      simp only [cond_true, Option.some.injEq] at h
      rw [Nat.eq_of_beq_eq_true hb, ← h]
      exact hl.1
    | false =>
      rw [hb] at h
      exact tab_of hl.2 t i h
/-- the program, with contracts of what it calls -/
noncomputable def B (sp : List (FuncId × Spec)) : Pr := { P := Tryd.prog, tt := lookT tab, specs := sp }
theorem BT (sp : List (FuncId × Spec)) : TOk (B sp).P (B sp).tt := tab_of tab_ok
end Sx
