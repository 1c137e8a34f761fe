/- Contracts of lists of levels, with bounds that compute. -/
import Derived.Test.YtcapifnaceegmaaGreatDoorFc
import Derived.Test.YtcapifnaceegmaaGreatDoorMk
namespace Go.Proofs.YtcapifnaceegmaaGreatDoor
open Go.RowKit
set_option linter.unusedSimpArgs false
set_option linter.unusedVariables false
set_option linter.unusedSectionVars false

def lensB (l : List Lvl) : Bool := cond (Nat.ble l.length 100000) (l.all fun L => Nat.ble L.vs.length 100000) false
theorem lensB_ok {l : List Lvl} (h : lensB l = true) : l.length ≤ 100000 ∧ ∀ L ∈ l, L.vs.length ≤ 100000 := by
  unfold lensB at h
  have h1 := cond_left h
  rw [h1] at h
  exact ⟨Nat.le_of_ble_eq_true h1, fun L hL => Nat.le_of_ble_eq_true (List.all_eq_true.1 h L hL)⟩
theorem allValidF (l : List Lvl) (h : lensB l = true) : Fun Tryz.prog 69 [.one (.d (lvlsC l))] (TB (l.all validB)) := allValid_fun l (lensB_ok h).1 (lensB_ok h).2
theorem allValidRF (l : List Lvl) (h : lensB l = true) : Fun Tryz.prog 72 [.one (.d (lvlsC l))] (TB (l.all validB)) := allValidR_fun l (lensB_ok h).1 (lensB_ok h).2
end Go.Proofs.YtcapifnaceegmaaGreatDoor
