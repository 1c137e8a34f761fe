/- Levels and bounds as data, and the plain words on them. -/
import Derived.Test.YtcapifnaceegmaaGreatDoorMore
import Derived.Test.YtcapifnaceegmaaGreatDoorPl
namespace Go.Proofs.YtcapifnaceegmaaGreatDoor
open Go.RowKit
set_option linter.unusedSimpArgs false
set_option linter.unusedVariables false
set_option linter.unusedSectionVars false

theorem len1 {α : Type} {l : List α} (h : l.length = 1) : ∃ a, l = [a] := by
  match l, h with
  | [a], _ => exact ⟨a, rfl⟩
theorem len2 {α : Type} {l : List α} (h : l.length = 2) : ∃ a b, l = [a, b] := by
  match l, h with
  | [a, b], _ => exact ⟨a, b, rfl⟩
theorem len4 {α : Type} {l : List α} (h : l.length = 4) : ∃ a b c d, l = [a, b, c, d] := by
  match l, h with
  | [a, b, c, d], _ => exact ⟨a, b, c, d, rfl⟩
def lvC (x : LV) : List C := [.v (.int .i64 x.1), .v (.int .i64 x.2)]
def vsC (l : List LV) : C := .sl 2 (l.map lvC)
def lvlC (L : Lvl) : List C := [.v (.int .i64 L.c), vsC L.vs]
def bndC (B : Bnd) : List C := [.v (.int .i64 B.lo.c), vsC B.lo.vs, .v (.int .i64 B.hi.c), vsC B.hi.vs]
def lvlsC (l : List Lvl) : C := .sl 2 (l.map lvlC)
def bndsC (l : List Bnd) : C := .sl 4 (l.map bndC)
def intC (n : Int) : List C := [.v (.int .i64 n)]
def intsC (l : List Int) : C := .sl 1 (l.map intC)
def lvA (x : LV) : AV := .agg [.d (.v (.int .i64 x.1)), .d (.v (.int .i64 x.2))]
def lvlA (L : Lvl) : AV := .agg [.d (.v (.int .i64 L.c)), .d (vsC L.vs)]
def bndA (B : Bnd) : AV := .agg [.d (.v (.int .i64 B.lo.c)), .d (vsC B.lo.vs), .d (.v (.int .i64 B.hi.c)), .d (vsC B.hi.vs)]
/-- a level and an error's number -/
def resLE (r : Lvl × Int) : TV := .tup [lvlA r.1, .one (.d (.v (.int .i64 r.2)))]
/-- two numbers -/
def resII (r : Int × Int) : TV := .tup [.one (.d (.v (.int .i64 r.1))), .one (.d (.v (.int .i64 r.2)))]
theorem map_get {α β : Type} {f : α → β} {l : List α} {k : Nat} {x : α} (h : l[k]? = some x) : (l.map f)[k]? = some (f x) := by simp [h]
theorem map_get_inv {α β : Type} {f : α → β} {l : List α} {k : Nat} {y : β} (h : (l.map f)[k]? = some y) : ∃ x, l[k]? = some x ∧ y = f x := by
  rw [List.getElem?_map] at h
  cases hx : l[k]? with
  | none => rw [hx] at h; cases h
  | some x => rw [hx] at h; cases h; exact ⟨x, rfl, rfl⟩
end Go.Proofs.YtcapifnaceegmaaGreatDoor
