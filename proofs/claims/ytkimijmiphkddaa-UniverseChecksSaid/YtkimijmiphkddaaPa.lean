/- Plain laws: what the mirrors of Check say. -/
import Derived.Test.YtkimijmiphkddaaMa
namespace Go.Proofs.Ytkimijmiphkddaa
open Go.RowKit
set_option linter.unusedSimpArgs false
set_option linter.unusedVariables false
set_option linter.unusedSectionVars false

theorem loop_spec {σ β : Type} {step : σ → Option (LO σ β)} (I : σ → Prop) (μ : σ → Nat) (spec : σ → β)
    (h : ∀ s, I s → (step s = some (.done (spec s))) ∨ (∃ s', step s = some (.next s') ∧ I s' ∧ μ s' < μ s ∧ spec s' = spec s)) : ∀ (n : Nat) (s : σ), I s → μ s < n → loopN step n s = some (spec s)
  | 0, _, _, h0 => absurd h0 (Nat.not_lt_zero _)
  | n + 1, s, hs, hn => by
    rcases h s hs with h1 | ⟨s', h1, h2, h3, h4⟩
    · simp only [loopN, h1]
    · simp only [loopN, h1]
      rw [loop_spec I μ spec h n s' h2 (by omega), h4]

theorem w64_id {n : Int} (h1 : -9223372036854775808 ≤ n) (h2 : n ≤ 9223372036854775807) : w64 n = n := IntWalk.i64_in n ⟨h1, h2⟩

theorem idx_nat {α : Type} {l : List α} {i : Int} {x : α} (h0 : 0 ≤ i) (hx : l[i.toNat]? = some x) : idx l i = some x := by
  obtain ⟨k, rfl⟩ := Int.eq_ofNat_of_zero_le h0
  simpa [idx] using hx

/-! ### Metas -/
/-- the metavariables of variables, the last one first -/
def metGo : List LV → List Int
  | [] => []
  | x :: l => metGo l ++ (if x.1 < 0 then [-1 - x.1] else [])
def metL (L : Lvl) : List Int := if validB L then metGo L.vs else []

theorem metGo_take {l : List LV} {k : Nat} {x : LV} (h : l[k]? = some x) : metGo (l.take (k + 1)) = (if x.1 < 0 then [-1 - x.1] else []) ++ metGo (l.take k) := by
  induction l generalizing k with
  | nil => simp at h
  | cons y l ih =>
    cases k with
    | zero => simp at h; subst h; simp [metGo]
    | succ k =>
      simp only [List.getElem?_cons_succ] at h
      simp only [List.take_succ_cons, metGo, ih h, List.append_assoc]

theorem m38_eq (L : Lvl) (hl : L.vs.length ≤ 100000) : m38 L = some (metL L) := by
  unfold m38
  have hg : Nat.ble L.vs.length 100000 = true := Nat.ble_eq_true_of_le hl
  rw [hg]
  simp only [guardO, cond_true]
  unfold metL
  cases hv : validB L with
  | false => rfl
  | true =>
    simp only [cond_true, if_pos, Option.bind_some]
    have key := loop_spec (step := m38_l0 L) (fun s => -1 ≤ s.1 ∧ s.1 < L.vs.length ∧ s.2.length ≤ L.vs.length ∧ ((s.2.length : Int) + s.1 + 1 ≤ L.vs.length)) (fun s => (s.1 + 1).toNat) (fun s => s.2 ++ metGo (L.vs.take (s.1 + 1).toNat)) (fun s hs => by
      obtain ⟨i, out⟩ := s
      dsimp only at hs ⊢
      unfold m38_l0
      dsimp only
      by_cases h0 : 0 ≤ i
      · right
        obtain ⟨x, hx⟩ : ∃ x, L.vs[i.toNat]? = some x := ⟨_, List.getElem?_eq_getElem (by omega)⟩
        have hb := valid_okVar hv hx
        have ht := metGo_take hx
        rw [decide_eq_true h0, cond_true, idx_nat h0 hx]
        have e1 : (i + 1).toNat = i.toNat + 1 := by omega
        rw [e1, ht]
        by_cases hn : x.1 < 0
        · have hgg : Nat.ble (out.length + [w64 (-1 - x.1)].length) 1000000000 = true := Nat.ble_eq_true_of_le (by simp; omega)
          simp only [Option.bind_some, decide_eq_true hn, cond_true, hgg, guardO, if_pos hn]
          refine ⟨_, rfl, ?_⟩
          dsimp only
          rw [w64_id (n := i - 1) (by omega) (by omega), w64_id (n := -1 - x.1) (by omega) (by omega)]
          refine ⟨⟨by omega, by omega, by simp; omega, by simp; omega⟩, by omega, ?_⟩
          rw [show (i - 1 + 1).toNat = i.toNat by omega, List.append_assoc]
        · simp only [Option.bind_some, decide_eq_false hn, cond_false, if_neg hn, List.nil_append]
          refine ⟨_, rfl, ?_⟩
          dsimp only
          rw [w64_id (n := i - 1) (by omega) (by omega)]
          refine ⟨⟨by omega, by omega, by omega, by omega⟩, by omega, ?_⟩
          rw [show (i - 1 + 1).toNat = i.toNat by omega]
      · left
        rw [decide_eq_false h0, cond_false, show (i + 1).toNat = 0 by omega]
        simp [metGo])
    rw [w64_id (by omega) (by omega)]
    rw [key FUEL ((L.vs.length : Int) - 1, []) ⟨by dsimp only; omega, by dsimp only; omega, by simp, by simp⟩ (by dsimp only; unfold FUEL; omega)]
    simp only [Option.bind_some, List.nil_append]
    rw [show ((L.vs.length : Int) - 1 + 1).toNat = L.vs.length by omega, List.take_length]
end Go.Proofs.Ytkimijmiphkddaa
