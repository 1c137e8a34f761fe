/- Plain laws: levels and lists of levels are the same as themselves; the law of Solve. -/
import Derived.Test.YtkimijmiphkddaaPu
import Derived.Test.YtkimijmiphkddaaMk4
namespace Go.Proofs.Ytkimijmiphkddaa
open Go.RowKit
set_option linter.unusedSimpArgs false
set_option linter.unusedVariables false

theorem firstR_none {α β : Type} : ∀ (l : List α) (k : Nat), firstR (fun _ (_ : α) => (none : Option β)) l k = none
  | [], _ => rfl
  | x :: l, k => by unfold firstR; exact firstR_none l (k + 1)
theorem m33_refl {L : Lvl} (h : L.vs.length ≤ 900000) : m33 L L = some true := by
  unfold m33
  have key := scan_loop (step := m33_l0 L L) (l := L.vs) (β := Bool) (fun _ _ => none) h (fun k x hx => by
    have hk := (List.getElem?_eq_some_iff.1 hx).1
    unfold m33_l0
    rw [decide_eq_true (by omega : (k : Int) < L.vs.length), cond_true, idx_nat (Int.natCast_nonneg _) (by simpa using hx), Option.bind_some, Option.bind_some]
    simp) (by unfold m33_l0; rw [decide_eq_false (by omega), cond_false])
  rw [key, firstR_none]
  simp [sumR]
theorem m17_refl {l : List Lvl} (h : l.length ≤ 900000) (hv : ∀ L ∈ l, L.vs.length ≤ 900000) : m17 l l = some true := by
  unfold m17
  have key := scan_loop (step := m17_l0 l l) (l := l) (β := Bool) (fun _ _ => none) h (fun k x hx => by
    have hk := (List.getElem?_eq_some_iff.1 hx).1
    unfold m17_l0
    rw [decide_eq_true (by omega : (k : Int) < l.length), cond_true, idx_nat (Int.natCast_nonneg _) (by simpa using hx), Option.bind_some, Option.bind_some, m33_refl (hv x (List.mem_of_getElem? hx)), Option.bind_some]
    rfl) (by unfold m17_l0; rw [decide_eq_false (by omega), cond_false])
  rw [key, firstR_none]
  simp [sumR]

theorem few_shortVs {l : List Bnd} (h : fewB l = true) : shortVs l := by
  unfold fewB at h
  simp only [Bool.and_eq_true, decide_eq_true_eq, List.all_eq_true, fewP] at h
  exact ⟨by omega, fun b hb => by have := h.2 b hb; omega⟩
theorem m4_eq (a0 : Int) (a1 : List Bnd) : m4 a0 a1 = some true := by
  unfold m4
  cases hf : fewB a1 with
  | false => rfl
  | true =>
    by_cases h1 : 10 < a0 ∧ a0 ≤ 2000
    · rw [decide_eq_true h1.1, decide_eq_true h1.2]; rfl
    · have e : cond (!true) (some true) (cond (decide (10 < a0)) (some (decide (a0 ≤ 2000))) (some false)) = some false := by
        by_cases h2 : 10 < a0
        · rw [decide_eq_true h2, decide_eq_false (fun h3 => h1 ⟨h2, h3⟩)]; rfl
        · rw [decide_eq_false h2]; rfl
      obtain ⟨e1, e2, e3, e4⟩ := solve_eqs (m := a0) (few_shortVs hf) (by omega)
      have hr : m17 (solL a0 a1).1 (solL a0 a1).1 = some true := by
        by_cases h0 : (solL a0 a1).2.2 = 0
        · obtain ⟨g0, g1, -, g2, -⟩ := e3 h0
          exact m17_refl (by rw [g2.len]; omega) (fun L hL => by have := (g2.fit).2 L hL; omega)
        · rw [e4 h0]; rfl
      rw [e, Option.bind_some, cond_false, e1, e2, Option.bind_some, Option.bind_some, hr]
      simp
end Go.Proofs.Ytkimijmiphkddaa
