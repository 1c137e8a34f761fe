/- Typed data: how it lies in cells. -/
import Derived.Test.YtcapifnaceegmaaGreatDoorMir
import Derived.Test.YtcapifnaceegmaaGreatDoorData
namespace Go.Proofs.YtcapifnaceegmaaGreatDoor
open Go.RowKit
set_option linter.unusedSimpArgs false
set_option linter.unusedVariables false
set_option linter.unusedSectionVars false

instance : Enc LV := ⟨2, lvC, fun l => l.map lvC, rfl, fun a b => List.map_append, fun _ => rfl⟩
instance : Enc Lvl := ⟨2, lvlC, fun l => l.map lvlC, rfl, fun a b => List.map_append, fun _ => rfl⟩
instance : Enc Bnd := ⟨4, bndC, fun l => l.map bndC, rfl, fun a b => List.map_append, fun _ => rfl⟩
instance : Enc Int := ⟨1, intC, fun l => l.map intC, rfl, fun a b => List.map_append, fun _ => rfl⟩
def strC (s : ByteArray) : List C := [.v (.string s)]
instance : Enc ByteArray := ⟨1, strC, fun l => l.map strC, rfl, fun a b => List.map_append, fun _ => rfl⟩
def boolC (b : Bool) : List C := [.v (.bool b)]
instance : Enc Bool := ⟨1, boolC, fun l => l.map boolC, rfl, fun a b => List.map_append, fun _ => rfl⟩
def slC {α : Type} [Enc α] (l : List α) : List C := [.sl (Enc.sz α) (Enc.encL l)]
instance {α : Type} [Enc α] : Enc (List α) := ⟨1, slC, fun l => l.map slC, rfl, fun a b => List.map_append, fun _ => rfl⟩
structure Edg where
  fr : Int
  to : Int
  by_ : Int
def edgC (e : Edg) : List C := [.v (.int .i64 e.fr), .v (.int .i64 e.to), .v (.int .i64 e.by_)]
instance : Enc Edg := ⟨3, edgC, fun l => l.map edgC, rfl, fun a b => List.map_append, fun _ => rfl⟩
end Go.Proofs.YtcapifnaceegmaaGreatDoor
