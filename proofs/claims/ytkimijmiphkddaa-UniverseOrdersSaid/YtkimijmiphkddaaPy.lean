/- Plain laws: levels and lists of levels are the same as themselves. -/
import Derived.Test.YtkimijmiphkddaaPb
import Derived.Test.YtkimijmiphkddaaMl
namespace Go.Proofs.Ytkimijmiphkddaa
open Go.RowKit
set_option linter.unusedSimpArgs false
set_option linter.unusedVariables false

theorem firstR_none {α β : Type} : ∀ (l : List α) (k : Nat), firstR (fun _ (_ : α) => (none : Option β)) l k = none
  | [], _ => rfl
  | x :: l, k => by unfold firstR; exact firstR_none l (k + 1)
theorem m33_refl {L : Lvl} (h : L.vs.length ≤ 900000) : m33 L L = some true := by
  unfold m33
  have key := scan_loop (step := m33_l0 L L) (l := L.vs) (β := Bool) (fun _ _ => none) h (fun k x hx => by
    have hk := (List.getElem?_eq_some_iff.1 hx).1
    unfold m33_l0
    rw [decide_eq_true (by omega : (k : Int) < L.vs.length), cond_true, idx_nat (Int.natCast_nonneg _) (by simpa using hx), Option.bind_some, Option.bind_some]
    simp) (by unfold m33_l0; rw [decide_eq_false (by omega), cond_false])
  rw [key, firstR_none]
  simp [sumR]
theorem m17_refl {l : List Lvl} (h : l.length ≤ 900000) (hv : ∀ L ∈ l, L.vs.length ≤ 900000) : m17 l l = some true := by
  unfold m17
  have key := scan_loop (step := m17_l0 l l) (l := l) (β := Bool) (fun _ _ => none) h (fun k x hx => by
    have hk := (List.getElem?_eq_some_iff.1 hx).1
    unfold m17_l0
    rw [decide_eq_true (by omega : (k : Int) < l.length), cond_true, idx_nat (Int.natCast_nonneg _) (by simpa using hx), Option.bind_some, Option.bind_some, m33_refl (hv x (List.mem_of_getElem? hx)), Option.bind_some]
    rfl) (by unfold m17_l0; rw [decide_eq_false (by omega), cond_false])
  rw [key, firstR_none]
  simp [sumR]

theorem few_shortVs {l : List Bnd} (h : fewB l = true) : shortVs l := by
  unfold fewB at h
  simp only [Bool.and_eq_true, decide_eq_true_eq, List.all_eq_true, fewP] at h
  exact ⟨by omega, fun b hb => by have := h.2 b hb; omega⟩
end Go.Proofs.Ytkimijmiphkddaa
