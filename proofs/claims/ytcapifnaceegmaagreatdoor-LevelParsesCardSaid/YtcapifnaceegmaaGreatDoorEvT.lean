/- What the program says of its types and functions, as tables. -/
import Derived.Test.YtcapifnaceegmaaGreatDoorEvE
import Derived.Test.YtcapifnaceegmaaGreatDoorProg
import Derived.Shelf.Abstract
namespace Go.Proofs.YtcapifnaceegmaaGreatDoor
open Go.RowKit Go.Shelf
set_option linter.unusedSimpArgs false
set_option linter.unusedVariables false

noncomputable def cfgFns : List (Nat × Func) := [(14, Tryz.f14), (15, Tryz.f15), (17, Tryz.f17), (19, Tryz.f19), (22, Tryz.f22), (24, Tryz.f24), (26, Tryz.f26), (29, Tryz.f29), (32, Tryz.f32), (48, Tryz.f48), (49, Tryz.f49), (50, Tryz.f50), (52, Tryz.f52), (53, Tryz.f53), (54, Tryz.f54), (55, Tryz.f55), (56, Tryz.f56), (60, Tryz.f60), (61, Tryz.f61), (64, Tryz.f64), (65, Tryz.f65), (70, Tryz.f70), (71, Tryz.f71), (77, Tryz.f77), (78, Tryz.f78), (81, Tryz.f81), (83, Tryz.f83), (86, Tryz.f86), (88, Tryz.f88), (102, Tryz.f102)]

noncomputable def cfg : Cfg := {
  agg := [(3, (false, 1)), (4, (false, 1)), (9, (false, 1)), (22, (false, 1)), (24, (true, 2)), (27, (false, 1)), (69, (true, 2)), (76, (false, 1)), (89, (false, 1)), (98, (false, 1))]
  sl := [(22, (69, 2)), (46, (3, 1)), (89, (9, 1))]
  zero := [(3, [.int .i64 0]), (9, [.string ByteArray.empty]), (24, [.int .i64 0, .slice none 0 0]), (69, [.int .i64 0, .int .i64 0]), (79, [.string ByteArray.empty, .bool false, .int .i64 0, .pointer none]), (89, [.slice none 0 0]), (100, [.map none, .int .i64 0])]
  fld := [(24, [(0, 0), (1, 1)]), (69, [(0, 0), (1, 1)]), (79, [(0, 0), (1, 1), (2, 2), (3, 3)]), (100, [(0, 0), (1, 1)])]
  places := [(24, [(0, 1), (1, 1)]), (69, [(0, 1), (1, 1)]), (79, [(0, 1), (1, 1), (2, 1), (3, 1)]), (100, [(0, 1), (1, 1)])]
  elem := [(3, (1, 8)), (9, (1, 16)), (69, (2, 16))]
  arr := []
  mp := [(98, (true, .one (.d (.v (.int .i64 0)))))]
  ints := []
  strs := [(9, ())]
  bools := []
  pairs := []
  fns := cfgFns
  keep := [50, 52, 53, 54, 55, 56, 65, 70, 71, 81, 83]
  oslT := []
  rounds := 100000 }

theorem cfg_ok : cfg.OK Tryz.prog where
  agg := ⟨(show _ = _ by kernel_rfl), (show _ = _ by kernel_rfl), (show _ = _ by kernel_rfl), (show _ = _ by kernel_rfl), (show _ = _ by kernel_rfl), (show _ = _ by kernel_rfl), (show _ = _ by kernel_rfl), (show _ = _ by kernel_rfl), (show _ = _ by kernel_rfl), (show _ = _ by kernel_rfl), trivial⟩
  sl := ⟨(show _ = _ by kernel_rfl), (show _ = _ by kernel_rfl), (show _ = _ by kernel_rfl), trivial⟩
  zero := ⟨⟨(show _ = _ by kernel_rfl), (show _ = _ by kernel_rfl)⟩, ⟨(show _ = _ by kernel_rfl), (show _ = _ by kernel_rfl)⟩, ⟨(show _ = _ by kernel_rfl), (show _ = _ by kernel_rfl)⟩, ⟨(show _ = _ by kernel_rfl), (show _ = _ by kernel_rfl)⟩, ⟨(show _ = _ by kernel_rfl), (show _ = _ by kernel_rfl)⟩, ⟨(show _ = _ by kernel_rfl), (show _ = _ by kernel_rfl)⟩, ⟨(show _ = _ by kernel_rfl), (show _ = _ by kernel_rfl)⟩, trivial⟩
  fld := ⟨⟨(show _ = _ by kernel_rfl), (show _ = _ by kernel_rfl), trivial⟩, ⟨(show _ = _ by kernel_rfl), (show _ = _ by kernel_rfl), trivial⟩, ⟨(show _ = _ by kernel_rfl), (show _ = _ by kernel_rfl), (show _ = _ by kernel_rfl), (show _ = _ by kernel_rfl), trivial⟩, ⟨(show _ = _ by kernel_rfl), (show _ = _ by kernel_rfl), trivial⟩, trivial⟩
  places := ⟨(show _ = _ by kernel_rfl), (show _ = _ by kernel_rfl), (show _ = _ by kernel_rfl), (show _ = _ by kernel_rfl), trivial⟩
  elem := ⟨(show _ = _ by kernel_rfl), (show _ = _ by kernel_rfl), (show _ = _ by kernel_rfl), trivial⟩
  arr := trivial
  mp := ⟨(show _ = _ by kernel_rfl), trivial⟩
  ints := trivial
  strs := ⟨(show _ = _ by kernel_rfl), trivial⟩
  bools := trivial
  pairs := trivial
  fns := ⟨⟨Tryz.func14, enters_of Tryz.func14 (by kernel_rfl) rfl⟩, ⟨Tryz.func15, enters_of Tryz.func15 (by kernel_rfl) rfl⟩, ⟨Tryz.func17, enters_of Tryz.func17 (by kernel_rfl) rfl⟩, ⟨Tryz.func19, enters_of Tryz.func19 (by kernel_rfl) rfl⟩, ⟨Tryz.func22, enters_of Tryz.func22 (by kernel_rfl) rfl⟩, ⟨Tryz.func24, enters_of Tryz.func24 (by kernel_rfl) rfl⟩, ⟨Tryz.func26, enters_of Tryz.func26 (by kernel_rfl) rfl⟩, ⟨Tryz.func29, enters_of Tryz.func29 (by kernel_rfl) rfl⟩, ⟨Tryz.func32, enters_of Tryz.func32 (by kernel_rfl) rfl⟩, ⟨Tryz.func48, enters_of Tryz.func48 (by kernel_rfl) rfl⟩, ⟨Tryz.func49, enters_of Tryz.func49 (by kernel_rfl) rfl⟩, ⟨Tryz.func50, enters_of Tryz.func50 (by kernel_rfl) rfl⟩, ⟨Tryz.func52, enters_of Tryz.func52 (by kernel_rfl) rfl⟩, ⟨Tryz.func53, enters_of Tryz.func53 (by kernel_rfl) rfl⟩, ⟨Tryz.func54, enters_of Tryz.func54 (by kernel_rfl) rfl⟩, ⟨Tryz.func55, enters_of Tryz.func55 (by kernel_rfl) rfl⟩, ⟨Tryz.func56, enters_of Tryz.func56 (by kernel_rfl) rfl⟩, ⟨Tryz.func60, enters_of Tryz.func60 (by kernel_rfl) rfl⟩, ⟨Tryz.func61, enters_of Tryz.func61 (by kernel_rfl) rfl⟩, ⟨Tryz.func64, enters_of Tryz.func64 (by kernel_rfl) rfl⟩, ⟨Tryz.func65, enters_of Tryz.func65 (by kernel_rfl) rfl⟩, ⟨Tryz.func70, enters_of Tryz.func70 (by kernel_rfl) rfl⟩, ⟨Tryz.func71, enters_of Tryz.func71 (by kernel_rfl) rfl⟩, ⟨Tryz.func77, enters_of Tryz.func77 (by kernel_rfl) rfl⟩, ⟨Tryz.func78, enters_of Tryz.func78 (by kernel_rfl) rfl⟩, ⟨Tryz.func81, enters_of Tryz.func81 (by kernel_rfl) rfl⟩, ⟨Tryz.func83, enters_of Tryz.func83 (by kernel_rfl) rfl⟩, ⟨Tryz.func86, enters_of Tryz.func86 (by kernel_rfl) rfl⟩, ⟨Tryz.func88, enters_of Tryz.func88 (by kernel_rfl) rfl⟩, ⟨Tryz.func102, enters_of Tryz.func102 (by kernel_rfl) rfl⟩, trivial⟩
  mixed := by kernel_rfl

end Go.Proofs.YtcapifnaceegmaaGreatDoor
