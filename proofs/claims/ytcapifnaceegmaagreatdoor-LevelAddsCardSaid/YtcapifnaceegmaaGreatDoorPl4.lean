/- Plain laws of layer 1: Plus; the law of Plus and Max. -/
import Derived.Test.YtcapifnaceegmaaGreatDoorPb
import Derived.Test.YtcapifnaceegmaaGreatDoorPx
import Derived.Test.YtcapifnaceegmaaGreatDoorMp
import Derived.Test.YtcapifnaceegmaaGreatDoorMk4
namespace Go.Proofs.YtcapifnaceegmaaGreatDoor
open Go.RowKit
set_option linter.unusedSimpArgs false
set_option linter.unusedVariables false

theorem m22_loop {L : Lvl} {n : Int} (hL : validB L = true) (hn : 0 ≤ n ∧ n ≤ 100) : loopN (m22_l0 L n) FUEL (0, []) = some (upV n L.vs) := by
  have hlen := (wf_valid hL).len
  have key := fold_loopG (step := m22_l0 L n) (l := L.vs) (fun i s => (i, s)) (fun s => s) (fun o (x : LV) => o ++ [(x.1, x.2 + n)]) (fun k s => s.length ≤ k) (by omega) (fun k x s hx hs => by
    have hk := (List.getElem?_eq_some_iff.1 hx).1
    have hv := valid_okVar hL hx
    refine ⟨?_, by simp; omega⟩
    unfold m22_l0
    dsimp only
    rw [decide_eq_true (by omega : (k : Int) < L.vs.length), cond_true, idx_nat (Int.natCast_nonneg _) (by simpa using hx), Option.bind_some, w64_id (n := x.2 + n) (by omega) (by omega), guard_t (ble_t (by simp; omega))]) (fun s _ => by unfold m22_l0; dsimp only; rw [decide_eq_false (by omega), cond_false]) [] (Nat.le_refl _)
  rw [key, foldl_snoc]
  rfl
/-- what limited makes of the sums is what plusL says -/
theorem lim_plus {L : Lvl} {n : Int} (hL : validB L = true) (hn : 0 ≤ n ∧ n ≤ 100) : limL ⟨if L.vs ≠ [] ∧ L.c = 0 then 0 else L.c + n, upV n L.vs⟩ = plusL L n := by
  have h0 := valid_c hL
  have hne : upV n L.vs = [] ↔ L.vs = [] := by simp [upV]
  have e : (if L.vs ≠ [] ∧ L.c = 0 then 0 else L.c + n) = plusC L n := by
    unfold plusC
    by_cases h1 : L.vs = []
    · rw [if_neg (by simp [h1]), if_pos (.inr h1)]
    · by_cases h2 : L.c = 0
      · rw [if_pos ⟨h1, h2⟩, if_neg (by simp [h1]; omega)]
      · rw [if_neg (by simp [h2]), if_pos (.inl (by omega))]
  rw [e]
  have hbig : bigB ⟨plusC L n, upV n L.vs⟩ = tooBig L n := by
    unfold bigB tooBig
    rw [Bool.or_comm]
    congr 1
    simp [upV, List.any_map, Function.comp_def]
  have hp : plusL L n = if tooBig L n then (⟨0, []⟩, 15) else (⟨plusC L n, upV n L.vs⟩, 0) := by
    unfold plusL
    rw [if_neg (show ¬ validB L = false by simp [hL]), if_neg (show ¬ n < 0 by omega), if_neg (show ¬ 100 < n by omega)]
  unfold limL
  rw [hbig, hp]
  cases ht : tooBig L n with
  | true => rfl
  | false =>
    rw [if_neg Bool.false_ne_true, if_neg Bool.false_ne_true]
    have hcov : covB (plusC L n) (upV n L.vs) = true → plusC L n = 0 := fun h => by
      obtain ⟨y, hy, h3⟩ := cov_mem.1 h
      obtain ⟨x, hx, rfl⟩ := upV_mem.1 hy
      dsimp only at h3
      unfold plusC at h3 ⊢
      by_cases hc : 0 < L.c ∨ L.vs = []
      · rw [if_pos hc] at h3
        rcases hc with hc | hc
        · have := ((valid_parts L).1 hL).2.2.1 hc
          rw [cov_mem.2 ⟨x, hx, by omega⟩] at this; cases this
        · rw [hc] at hx; cases hx
      · rw [if_neg hc]
    unfold trimL
    dsimp only
    by_cases hc : covB (plusC L n) (upV n L.vs) = true
    · rw [if_pos hc, hcov hc]
    · rw [if_neg hc]
theorem m22_eq {L : Lvl} {n : Int} (hl : L.vs.length ≤ 100000) : m22 L n = some (plusL L n) := by
  unfold m22
  rw [guard_t (ble_t hl)]
  cases hL : validB L with
  | false => rw [plusL_inv hL]; rfl
  | true =>
    simp only [Bool.not_true, cond_false]
    by_cases h1 : n < 0
    · rw [decide_eq_true h1, cond_true, plusL_neg hL h1]
    · rw [decide_eq_false h1, cond_false]
      by_cases h2 : 100 < n
      · rw [decide_eq_true h2, cond_true, plusL_big hL (by omega) h2]
      · rw [decide_eq_false h2, cond_false]
        have hn' : 0 ≤ n ∧ n ≤ 100 := ⟨by omega, by omega⟩
        have hw : (upV n L.vs).length ≤ 100000 := by unfold upV; rw [List.length_map]; exact hl
        have h0 := valid_c hL
        rw [← lim_plus hL hn']
        have fin : ∀ c : Int, (Option.bind (loopN (m22_l0 L n) FUEL (0, ([] : List LV))) (fun (o7 : (List LV)) => guardO (Nat.ble (⟨c, o7⟩ : Lvl).vs.length 100000)
  (some (((limL (⟨c, o7⟩ : Lvl)).1), (limL (⟨c, o7⟩ : Lvl)).2)))) = some (limL ⟨c, upV n L.vs⟩) := fun c => by
          rw [m22_loop hL hn', Option.bind_some, guard_t (ble_t hw)]
        by_cases hv : L.vs = []
        · have e : decide (0 < (L.vs.length : Int)) = false := decide_eq_false (by rw [hv]; simp)
          rw [e, cond_false, Option.bind_some, cond_false, if_neg (by simp [hv]), fin, w64_id (by omega) (by omega)]
        · have e : decide (0 < (L.vs.length : Int)) = true := decide_eq_true (by have := List.length_pos_iff.2 hv; omega)
          rw [e, cond_true, Option.bind_some]
          by_cases hc : L.c = 0
          · rw [show (L.c == 0) = true by rw [hc]; rfl, cond_true, if_pos ⟨hv, hc⟩, fin]
          · rw [show (L.c == 0) = false by simpa using hc, cond_false, if_neg (by simp [hc]), fin, w64_id (by omega) (by omega)]
theorem plus_len {L : Lvl} {n : Int} (h : L.vs.length ≤ 900000) : (plusL L n).1.vs.length ≤ 900000 := by
  unfold plusL
  split
  · simp
  · split
    · simp
    · split
      · simp
      · split
        · simp
        · show (upV n L.vs).length ≤ 900000; unfold upV; rw [List.length_map]; exact h
theorem max_len (A B : Lvl) : (maxL A B).1.vs.length ≤ 900000 := by
  unfold maxL
  split
  · rename_i h
    rw [Bool.and_eq_true] at h
    have := (wf_join (wf_valid h.1) (wf_valid h.2)).len
    show (joinL A B).vs.length ≤ 900000
    omega
  · simp
theorem m4_eq (a0 a1 : Lvl) (a2 : Int) : m4 a0 a1 a2 = some true := by
  unfold m4
  rw [m13_eq (by simp), Option.bind_some]
  cases hf : few12 [a0, a1] with
  | false => rfl
  | true =>
    have h0 := few_len hf (x := a0) (by simp)
    have h1 := few_len hf (x := a1) (by simp)
    simp only [Bool.not_true, cond_false]
    rw [m22_eq (by omega), Option.bind_some, guard_t (ble_t (by omega)), m24_eq (by omega) (by omega), Option.bind_some, guard_t (g2 (by omega) (by omega)), m21_eq (plus_len (by omega)), sameB_refl, m21_eq (max_len _ _), sameB_refl]
    simp
end Go.Proofs.YtcapifnaceegmaaGreatDoor
