/- The values of three parameters, and a number, as data. -/
import Derived.Test.YtcapifnaceegmaaGreatDoorEncs
namespace Go.Proofs.YtcapifnaceegmaaGreatDoor
open Go.RowKit
set_option linter.unusedSimpArgs false
set_option linter.unusedVariables false

structure Vls where
  u : Int
  v : Int
  w : Int
  n : Int
def vlsC (x : Vls) : List C := [.v (.int .u8 x.u), .v (.int .u8 x.v), .v (.int .u8 x.w), .v (.int .u8 x.n)]
instance : Enc Vls := ⟨4, vlsC, fun l => l.map vlsC, rfl, fun a b => List.map_append, fun _ => rfl⟩
end Go.Proofs.YtcapifnaceegmaaGreatDoor
