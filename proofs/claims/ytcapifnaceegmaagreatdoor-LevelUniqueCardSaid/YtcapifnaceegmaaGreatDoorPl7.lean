/- Plain laws of layer 1: Same; the laws of Leq and Same, and of uniqueness. -/
import Derived.Test.YtcapifnaceegmaaGreatDoorPb
import Derived.Test.YtcapifnaceegmaaGreatDoorMs
namespace Go.Proofs.YtcapifnaceegmaaGreatDoor
open Go.RowKit
set_option linter.unusedSimpArgs false
set_option linter.unusedVariables false

theorem m31_eq {A B : Lvl} (hA : A.vs.length ≤ 900000) : m31 A B = some (sameB A B) := by
  unfold m31 sameB
  by_cases hc : A.c = B.c
  · have e2 : (A.c == B.c) = true := by rw [hc]; exact beq_self_eq_true _
    rw [e2, cond_true]
    by_cases hl : A.vs.length = B.vs.length
    · have e3 : ((A.vs.length : Int) != (B.vs.length : Int)) = false := by rw [hl]; exact bne_self_eq_false _
      rw [e3, cond_false]
      have key := same_loop (step := m31_l0 A B) hl hA (fun k x y hx hy => by
        have hk := (List.getElem?_eq_some_iff.1 hx).1
        unfold m31_l0
        rw [decide_eq_true (by omega : (k : Int) < A.vs.length), cond_true, idx_nat (Int.natCast_nonneg _) (by simpa using hx), Option.bind_some, idx_nat (Int.natCast_nonneg _) (by simpa using hy), Option.bind_some]
        cases (!((x.1 == y.1) && (x.2 == y.2))) <;> rfl) (by unfold m31_l0; rw [decide_eq_false (by omega), cond_false])
      rw [key]
      by_cases h : A.vs = B.vs
      · rw [if_pos h, decide_eq_true h]; rfl
      · rw [if_neg h, decide_eq_false h]; rfl
    · have e3 : ((A.vs.length : Int) != (B.vs.length : Int)) = true := by simpa using fun h => hl (by omega)
      rw [e3, cond_true, decide_eq_false (fun h => hl (by rw [h]))]; rfl
  · have e2 : (A.c == B.c) = false := by simpa using hc
    rw [e2, cond_false, Bool.false_and]; rfl
theorem leq_refl (A : Lvl) : leqB A A = validB A := by
  rw [Bool.eq_iff_iff, leqB_iff]
  exact ⟨fun h => h.1, fun h => ⟨h, h, leL.refl A⟩⟩
end Go.Proofs.YtcapifnaceegmaaGreatDoor
