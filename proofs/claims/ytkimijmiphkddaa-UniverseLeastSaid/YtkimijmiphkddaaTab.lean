/- What the program says of its types. -/
import Derived.Test.YtkimijmiphkddaaData
import Derived.Test.YtkimijmiphkddaaProg
import Derived.Shelf.Abstract
namespace Go.Proofs.Ytkimijmiphkddaa
open Go.RowKit Go.Shelf
set_option linter.unusedSimpArgs false
set_option linter.unusedVariables false

theorem fo_39_0 : fieldOff Try.prog 39 0 = some 0 := by kernel_rfl
theorem fo_39_1 : fieldOff Try.prog 39 1 = some 1 := by kernel_rfl
theorem fo_41_0 : fieldOff Try.prog 41 0 = some 0 := by kernel_rfl
theorem fo_41_1 : fieldOff Try.prog 41 1 = some 2 := by kernel_rfl
theorem fo_59_0 : fieldOff Try.prog 59 0 = some 0 := by kernel_rfl
theorem fo_59_1 : fieldOff Try.prog 59 1 = some 1 := by kernel_rfl
theorem ag_3 : tyAgg Try.prog 3 = some (false, 1) := by kernel_rfl
theorem ag_37 : tyAgg Try.prog 37 = some (false, 1) := by kernel_rfl
theorem ag_39 : tyAgg Try.prog 39 = some (true, 2) := by kernel_rfl
theorem ag_41 : tyAgg Try.prog 41 = some (true, 4) := by kernel_rfl
theorem ag_59 : tyAgg Try.prog 59 = some (true, 2) := by kernel_rfl
theorem sl_22 : tySlice Try.prog 22 = some (41, 4) := by kernel_rfl
theorem sl_31 : tySlice Try.prog 31 = some (39, 2) := by kernel_rfl
theorem sl_37 : tySlice Try.prog 37 = some (59, 2) := by kernel_rfl
theorem sl_66 : tySlice Try.prog 66 = some (3, 1) := by kernel_rfl
theorem z_39 : tyZero Try.prog 39 = some [.int .i64 0, .slice none 0 0] := by kernel_rfl
theorem z_59 : tyZero Try.prog 59 = some [.int .i64 0, .int .i64 0] := by kernel_rfl
theorem bd_39 : IsStruct Try.prog 39 [(0, 1), (1, 1)] [.int .i64 0, .slice none 0 0] := ⟨by kernel_rfl, by kernel_rfl⟩
theorem bd_59 : IsStruct Try.prog 59 [(0, 1), (1, 1)] [.int .i64 0, .int .i64 0] := ⟨by kernel_rfl, by kernel_rfl⟩
theorem ib_4 : isBoolTy Try.prog 4 = true := by kernel_rfl
theorem el_59 : tyElem Try.prog 59 = some (2, 16) := by kernel_rfl
theorem en_11 : Enters Try.prog 11 := enters_of Try.func11 (by kernel_rfl) rfl
theorem en_23 : Enters Try.prog 23 := enters_of Try.func23 (by kernel_rfl) rfl
theorem en_26 : Enters Try.prog 26 := enters_of Try.func26 (by kernel_rfl) rfl
theorem en_27 : Enters Try.prog 27 := enters_of Try.func27 (by kernel_rfl) rfl
theorem en_28 : Enters Try.prog 28 := enters_of Try.func28 (by kernel_rfl) rfl
theorem en_30 : Enters Try.prog 30 := enters_of Try.func30 (by kernel_rfl) rfl
theorem en_35 : Enters Try.prog 35 := enters_of Try.func35 (by kernel_rfl) rfl
theorem en_49 : Enters Try.prog 49 := enters_of Try.func49 (by kernel_rfl) rfl
theorem en_51 : Enters Try.prog 51 := enters_of Try.func51 (by kernel_rfl) rfl
theorem en_52 : Enters Try.prog 52 := enters_of Try.func52 (by kernel_rfl) rfl
theorem en_54 : Enters Try.prog 54 := enters_of Try.func54 (by kernel_rfl) rfl
theorem en_56 : Enters Try.prog 56 := enters_of Try.func56 (by kernel_rfl) rfl
theorem en_57 : Enters Try.prog 57 := enters_of Try.func57 (by kernel_rfl) rfl
theorem en_58 : Enters Try.prog 58 := enters_of Try.func58 (by kernel_rfl) rfl
theorem en_59 : Enters Try.prog 59 := enters_of Try.func59 (by kernel_rfl) rfl
theorem en_63 : Enters Try.prog 63 := enters_of Try.func63 (by kernel_rfl) rfl
theorem en_64 : Enters Try.prog 64 := enters_of Try.func64 (by kernel_rfl) rfl
theorem en_65 : Enters Try.prog 65 := enters_of Try.func65 (by kernel_rfl) rfl
theorem en_70 : Enters Try.prog 70 := enters_of Try.func70 (by kernel_rfl) rfl
theorem en_71 : Enters Try.prog 71 := enters_of Try.func71 (by kernel_rfl) rfl
theorem en_72 : Enters Try.prog 72 := enters_of Try.func72 (by kernel_rfl) rfl
theorem en_73 : Enters Try.prog 73 := enters_of Try.func73 (by kernel_rfl) rfl
theorem en_74 : Enters Try.prog 74 := enters_of Try.func74 (by kernel_rfl) rfl
theorem en_75 : Enters Try.prog 75 := enters_of Try.func75 (by kernel_rfl) rfl
theorem en_77 : Enters Try.prog 77 := enters_of Try.func77 (by kernel_rfl) rfl
theorem en_78 : Enters Try.prog 78 := enters_of Try.func78 (by kernel_rfl) rfl
theorem en_80 : Enters Try.prog 80 := enters_of Try.func80 (by kernel_rfl) rfl
theorem en_81 : Enters Try.prog 81 := enters_of Try.func81 (by kernel_rfl) rfl
theorem en_84 : Enters Try.prog 84 := enters_of Try.func84 (by kernel_rfl) rfl
theorem en_85 : Enters Try.prog 85 := enters_of Try.func85 (by kernel_rfl) rfl
theorem en_86 : Enters Try.prog 86 := enters_of Try.func86 (by kernel_rfl) rfl
theorem en_88 : Enters Try.prog 88 := enters_of Try.func88 (by kernel_rfl) rfl
theorem mixed : Try.prog.follows .mixedOrders = true := by kernel_rfl
end Go.Proofs.Ytkimijmiphkddaa
