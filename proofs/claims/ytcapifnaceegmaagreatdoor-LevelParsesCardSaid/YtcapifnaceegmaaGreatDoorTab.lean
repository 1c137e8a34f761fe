/- What the program says of its types. -/
import Derived.Test.YtcapifnaceegmaaGreatDoorData
import Derived.Test.YtcapifnaceegmaaGreatDoorProg
import Derived.Shelf.Abstract
namespace Go.Proofs.YtcapifnaceegmaaGreatDoor
open Go.RowKit Go.Shelf
set_option linter.unusedSimpArgs false
set_option linter.unusedVariables false

theorem fo_24_0 : fieldOff Tryz.prog 24 0 = some 0 := by kernel_rfl
theorem fo_24_1 : fieldOff Tryz.prog 24 1 = some 1 := by kernel_rfl
theorem fo_69_0 : fieldOff Tryz.prog 69 0 = some 0 := by kernel_rfl
theorem fo_69_1 : fieldOff Tryz.prog 69 1 = some 1 := by kernel_rfl
theorem ag_3 : tyAgg Tryz.prog 3 = some (false, 1) := by kernel_rfl
theorem ag_22 : tyAgg Tryz.prog 22 = some (false, 1) := by kernel_rfl
theorem ag_24 : tyAgg Tryz.prog 24 = some (true, 2) := by kernel_rfl
theorem ag_69 : tyAgg Tryz.prog 69 = some (true, 2) := by kernel_rfl
theorem sl_22 : tySlice Tryz.prog 22 = some (69, 2) := by kernel_rfl
theorem sl_46 : tySlice Tryz.prog 46 = some (3, 1) := by kernel_rfl
theorem sl_55 : tySlice Tryz.prog 55 = some (24, 2) := by kernel_rfl
theorem z_24 : tyZero Tryz.prog 24 = some [.int .i64 0, .slice none 0 0] := by kernel_rfl
theorem z_69 : tyZero Tryz.prog 69 = some [.int .i64 0, .int .i64 0] := by kernel_rfl
theorem bd_24 : IsStruct Tryz.prog 24 [(0, 1), (1, 1)] [.int .i64 0, .slice none 0 0] := ⟨by kernel_rfl, by kernel_rfl⟩
theorem bd_69 : IsStruct Tryz.prog 69 [(0, 1), (1, 1)] [.int .i64 0, .int .i64 0] := ⟨by kernel_rfl, by kernel_rfl⟩
theorem ib_4 : isBoolTy Tryz.prog 4 = true := by kernel_rfl
theorem el_69 : tyElem Tryz.prog 69 = some (2, 16) := by kernel_rfl
theorem en_19 : Enters Tryz.prog 19 := enters_of Tryz.func19 (by kernel_rfl) rfl
theorem en_20 : Enters Tryz.prog 20 := enters_of Tryz.func20 (by kernel_rfl) rfl
theorem en_23 : Enters Tryz.prog 23 := enters_of Tryz.func23 (by kernel_rfl) rfl
theorem en_25 : Enters Tryz.prog 25 := enters_of Tryz.func25 (by kernel_rfl) rfl
theorem en_29 : Enters Tryz.prog 29 := enters_of Tryz.func29 (by kernel_rfl) rfl
theorem en_30 : Enters Tryz.prog 30 := enters_of Tryz.func30 (by kernel_rfl) rfl
theorem en_45 : Enters Tryz.prog 45 := enters_of Tryz.func45 (by kernel_rfl) rfl
theorem en_47 : Enters Tryz.prog 47 := enters_of Tryz.func47 (by kernel_rfl) rfl
theorem en_48 : Enters Tryz.prog 48 := enters_of Tryz.func48 (by kernel_rfl) rfl
theorem en_49 : Enters Tryz.prog 49 := enters_of Tryz.func49 (by kernel_rfl) rfl
theorem en_51 : Enters Tryz.prog 51 := enters_of Tryz.func51 (by kernel_rfl) rfl
theorem en_60 : Enters Tryz.prog 60 := enters_of Tryz.func60 (by kernel_rfl) rfl
theorem en_61 : Enters Tryz.prog 61 := enters_of Tryz.func61 (by kernel_rfl) rfl
theorem en_69 : Enters Tryz.prog 69 := enters_of Tryz.func69 (by kernel_rfl) rfl
theorem en_72 : Enters Tryz.prog 72 := enters_of Tryz.func72 (by kernel_rfl) rfl
theorem en_73 : Enters Tryz.prog 73 := enters_of Tryz.func73 (by kernel_rfl) rfl
theorem en_74 : Enters Tryz.prog 74 := enters_of Tryz.func74 (by kernel_rfl) rfl
theorem en_76 : Enters Tryz.prog 76 := enters_of Tryz.func76 (by kernel_rfl) rfl
theorem en_77 : Enters Tryz.prog 77 := enters_of Tryz.func77 (by kernel_rfl) rfl
theorem en_86 : Enters Tryz.prog 86 := enters_of Tryz.func86 (by kernel_rfl) rfl
theorem en_92 : Enters Tryz.prog 92 := enters_of Tryz.func92 (by kernel_rfl) rfl
theorem en_93 : Enters Tryz.prog 93 := enters_of Tryz.func93 (by kernel_rfl) rfl
theorem mixed : Tryz.prog.follows .mixedOrders = true := by kernel_rfl
end Go.Proofs.YtcapifnaceegmaaGreatDoor
