/- Plain laws: the first metavariable of a level. -/
import Derived.Test.YtkimijmiphkddaaPf
import Derived.Test.YtkimijmiphkddaaMf
namespace Go.Proofs.Ytkimijmiphkddaa
open Go.RowKit
set_option linter.unusedSimpArgs false
set_option linter.unusedVariables false

/-! ### The first metavariable -/
def firstF (s : Int × Int) (x : LV) : Int × Int := cond (cond (decide (x.1 < 0)) (cond (decide (s.1 < 0)) true (decide (w64 (-1 - x.1) < s.1))) false) (w64 (-1 - x.1), x.2) s
/-- the metavariable with the least number, and its offset -/
def firstL (L : Lvl) : Int × Int := L.vs.foldl firstF (-1, 0)
theorem m43_eq {L : Lvl} (hL : L.vs.length ≤ 100000) : m43 L = some (firstL L) := by
  unfold m43
  have key := fold_loopG (step := m43_l0 L) (l := L.vs) (fun i s => (s.1, s.2, i)) (fun s => s) firstF (fun _ _ => True) (by omega) (fun k x s hx _ => by
    have hk := (List.getElem?_eq_some_iff.1 hx).1
    refine ⟨?_, trivial⟩
    unfold m43_l0
    dsimp only
    rw [decide_eq_true (by omega : (k : Int) < L.vs.length), cond_true, idx_nat (Int.natCast_nonneg _) (by simpa using hx), Option.bind_some]
    unfold firstF
    cases decide (x.1 < 0) <;> cases decide (s.1 < 0) <;> cases decide (w64 (-1 - x.1) < s.1) <;> rfl) (fun s _ => by unfold m43_l0; dsimp only; rw [decide_eq_false (by omega), cond_false]) (-1, 0) trivial
  dsimp only at key
  rw [key]
  rfl

/-- what is met in an ascending list -/
theorem firstF_asc : ∀ (l : List LV) (s : Int × Int), WF l → (s.1 < 0 ∨ ∀ x ∈ l, x.1 < 0 → -1 - x.1 < s.1) → l.foldl firstF s = ((l.filter fun x => decide (x.1 < 0)).getLast?.map fun x => (-1 - x.1, x.2)).getD s
  | [], s, _, _ => rfl
  | x :: l, s, hw, hs => by
    obtain ⟨h1, h2⟩ := List.pairwise_cons.1 hw.1
    have hw' : WF l := ⟨h2, fun y hy => hw.2 y (List.mem_cons_of_mem _ hy)⟩
    have hx := hw.2 x List.mem_cons_self
    rw [List.foldl_cons]
    by_cases hn : x.1 < 0
    · have e : firstF s x = (-1 - x.1, x.2) := by
        unfold firstF
        rw [decide_eq_true hn, cond_true, w64_neg hx]
        by_cases h3 : s.1 < 0
        · rw [decide_eq_true h3]; rfl
        · rw [decide_eq_false h3, cond_false, decide_eq_true ((hs.resolve_left h3) x List.mem_cons_self hn)]; rfl
      rw [e, firstF_asc l _ hw' (.inr fun y hy _ => by have := h1 y hy; dsimp only; omega), List.filter_cons_of_pos (by simpa using hn)]
      cases hf : (l.filter fun x => decide (x.1 < 0)) with
      | nil => rfl
      | cons y r =>
        rw [List.getLast?_cons_cons]
        obtain ⟨z, hz⟩ : ∃ z, (y :: r).getLast? = some z := ⟨_, List.getLast?_eq_some_getLast (List.cons_ne_nil _ _)⟩
        rw [hz]; rfl
    · have e : firstF s x = s := by unfold firstF; rw [decide_eq_false hn]; rfl
      rw [e, firstF_asc l s hw' (hs.imp id fun h y hy => h y (List.mem_cons_of_mem _ hy)), List.filter_cons_of_neg (by simpa using hn)]
theorem firstL_eq {L : Lvl} (h : WF L.vs) : firstL L = ((L.vs.filter fun x => decide (x.1 < 0)).getLast?.map fun x => (-1 - x.1, x.2)).getD (-1, 0) := firstF_asc _ _ h (.inl (by decide))
theorem firstL_any {L : Lvl} (h : WF L.vs) : decide (0 ≤ (firstL L).1) = L.vs.any fun x => decide (x.1 < 0) := by
  rw [firstL_eq h]
  cases hf : (L.vs.filter fun x => decide (x.1 < 0)).getLast? with
  | none =>
    rw [List.getLast?_eq_none_iff, List.filter_eq_nil_iff] at hf
    have : (L.vs.any fun x => decide (x.1 < 0)) = false := List.any_eq_false.2 hf
    rw [this]; rfl
  | some x =>
    have hx := List.mem_of_getLast? hf
    rw [List.mem_filter] at hx
    have : (L.vs.any fun x => decide (x.1 < 0)) = true := List.any_eq_true.2 ⟨x, hx.1, hx.2⟩
    rw [this]
    have h2 : x.1 < 0 := by simpa using hx.2
    simp; omega

/-! ### The reference's replacement -/
theorem hasV_b {ms : List Lvl} {v : LV} : (cond ((decide (v.1 < 0)) == true) (some (decide (-1 - v.1 < (ms.length : Int)))) (some false)) = some (decide (hasV ms v)) := by
  by_cases h1 : v.1 < 0
  · rw [decide_eq_true h1]
    by_cases h2 : -1 - v.1 < (ms.length : Int)
    · rw [decide_eq_true h2, decide_eq_true (show hasV ms v from ⟨h1, h2⟩)]; rfl
    · rw [decide_eq_false h2, decide_eq_false (show ¬ hasV ms v from fun e => h2 e.2)]; rfl
  · rw [decide_eq_false h1, decide_eq_false (show ¬ hasV ms v from fun e => h1 e.1)]; rfl

theorem repStep_wf {ms : List Lvl} (hm : ms.all validB = true) {out : Lvl} (hw : WF out.vs) {v : LV} (hv : okV v) : WF (repStep ms out v).1.vs := by
  unfold repStep
  by_cases hh : hasV ms v
  · rw [if_pos (show v.1 < 0 ∧ -1 - v.1 < ms.length from hh)]
    split
    · exact wf_join hw (wf_plus (wf_valid (valV_valid hm hh)))
    · exact wf_nil
  · rw [if_neg (show ¬ (v.1 < 0 ∧ -1 - v.1 < ms.length) from hh)]
    exact wf_join hw (wf_one ⟨hv.1, hv.2.1⟩)

theorem repStep_has {ms : List Lvl} {out : Lvl} {v : LV} (hh : hasV ms v) : repStep ms out v = (if (plusL (valV ms v) v.2).2 = 0 then (joinL out (plusL (valV ms v) v.2).1, (0 : Int)) else (⟨0, []⟩, (plusL (valV ms v) v.2).2)) := if_pos hh
end Go.Proofs.Ytkimijmiphkddaa
