/- Plain laws of layer 1: the law of Leq and Same. -/
import Derived.Test.YtcapifnaceegmaaGreatDoorPl7
import Derived.Test.YtcapifnaceegmaaGreatDoorMk7
namespace Go.Proofs.YtcapifnaceegmaaGreatDoor
open Go.RowKit
set_option linter.unusedSimpArgs false
set_option linter.unusedVariables false

theorem m7_eq (a0 a1 : Lvl) : m7 a0 a1 = some true := by
  unfold m7
  rw [m13_eq (by simp), Option.bind_some]
  cases hf : few12 [a0, a1] with
  | false => rfl
  | true =>
    have h0 := few_len hf (x := a0) (by simp)
    have h1 := few_len hf (x := a1) (by simp)
    simp only [Bool.not_true, cond_false]
    rw [guard_t (g2 (by omega) (by omega)), guard_t (g2 (by omega) (by omega)), guard_t (g2 (by omega) (by omega)), guard_t (ble_t (by omega)), m31_eq (by omega), m21_eq (by omega), m31_eq (by omega), leq_refl, sameB_refl]
    simp
end Go.Proofs.YtcapifnaceegmaaGreatDoor
