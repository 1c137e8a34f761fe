/- Plain laws of layer 1: Max. -/
import Derived.Test.YtcapifnaceegmaaGreatDoorPa
import Derived.Test.YtcapifnaceegmaaGreatDoorMx
namespace Go.Proofs.YtcapifnaceegmaaGreatDoor
open Go.RowKit
set_option linter.unusedSimpArgs false
set_option linter.unusedVariables false

/-! ### Max -/
theorem m24_loop (a b : List LV) (hab : a.length + b.length ≤ 300000) : loopN m24_l0 FUEL ([], a, b) = some (mergeV a b, [], []) := by
  have key := loop_spec (step := m24_l0) (fun s => s.1.length + s.2.1.length + s.2.2.length ≤ 300000) (fun s => s.2.1.length + s.2.2.length) (fun s => (s.1 ++ mergeV s.2.1 s.2.2, [], [])) (fun s hs => by
    obtain ⟨o, a, b⟩ := s
    dsimp only at hs ⊢
    unfold m24_l0
    dsimp only
    cases a with
    | nil =>
      cases b with
      | nil => left; simp [mergeV]
      | cons y b =>
        right
        simp only [List.length_nil, List.length_cons] at hs
        refine ⟨(o ++ [y], [], b), ?_, (by simp only [List.length_append, List.length_cons, List.length_nil]; omega), (by simp only [List.length_cons, List.length_nil]; omega), by simp [mergeV_nil_l]⟩
        have e1 : decide ((0 : Int) < ((([] : List LV).length : Nat) : Int)) = false := rfl
        have e2 : decide ((0 : Int) < (((y :: b).length : Nat) : Int)) = true := decide_eq_true (by rw [List.length_cons]; omega)
        have e3 : ((((y :: b).length : Nat) : Int) == 0) = false := by simp; omega
        have e4 : ((((([] : List LV)).length : Nat) : Int) == 0) = true := rfl
        have g1 : Nat.ble (1 : Int).toNat (y :: b).length = true := by simp [Nat.ble]
        have g2 : decide ((0 : Int) ≤ 1) = true := rfl
        have i1 : idx (y :: b) 0 = some y := rfl
        simp only [e1, e2, e3, e4, g1, g2, i1, cond_false, cond_true, Option.bind_some, guard_t]
        rw [guard_t (ble_t (by simp only [List.length_cons, List.length_nil]; omega))]
        rfl
    | cons x a =>
      have e1 : decide ((0 : Int) < (((x :: a).length : Nat) : Int)) = true := decide_eq_true (by rw [List.length_cons]; omega)
      have e4 : ((((x :: a).length : Nat) : Int) == 0) = false := by simp; omega
      right
      rw [e1, cond_true, Option.bind_some, cond_true]
      cases b with
      | nil =>
        simp only [List.length_nil, List.length_cons] at hs
        refine ⟨(o ++ [x], a, []), ?_, (by simp only [List.length_append, List.length_cons, List.length_nil]; omega), (by simp only [List.length_cons, List.length_nil]; omega), by simp [mergeV_nil_r]⟩
        have e3 : (((([] : List LV).length : Nat) : Int) == 0) = true := rfl
        rw [e3, cond_true, Option.bind_some, cond_true]
        show Option.bind (some x) _ = _
        rw [Option.bind_some, guard_t (by simp [Nat.ble]), guard_t (ble_t (by simp only [List.length_cons, List.length_nil]; omega))]
        rfl
      | cons y b =>
        simp only [List.length_cons] at hs
        have e3 : ((((y :: b).length : Nat) : Int) == 0) = false := by simp; omega
        have g1 : Nat.ble (1 : Int).toNat (x :: a).length = true := by simp [Nat.ble]
        have g2 : Nat.ble (1 : Int).toNat (y :: b).length = true := by simp [Nat.ble]
        have i1 : idx (x :: a) 0 = some x := rfl
        have i2 : idx (y :: b) 0 = some y := rfl
        have d1 : decide ((0 : Int) ≤ 1) = true := rfl
        rw [e3, cond_false, e4, cond_false, i1, i2, g1, g2, d1, cond_true]
        simp only [Option.bind_some]
        by_cases h1 : x.1 < y.1
        · rw [decide_eq_true h1]
          refine ⟨(o ++ [x], a, y :: b), ?_, (by simp only [List.length_append, List.length_cons, List.length_nil]; omega), (by simp only [List.length_cons]; omega), ?_⟩
          · simp only [cond_true, guard_t]; rw [guard_t (ble_t (by simp only [List.length_cons, List.length_nil]; omega))]; rfl
          · simp [mergeV, h1]
        · rw [decide_eq_false h1, cond_false]
          by_cases h2 : y.1 < x.1
          · rw [decide_eq_true h2]
            refine ⟨(o ++ [y], x :: a, b), ?_, (by simp only [List.length_append, List.length_cons, List.length_nil]; omega), (by simp only [List.length_cons]; omega), ?_⟩
            · simp only [cond_true, guard_t]; rw [guard_t (ble_t (by simp only [List.length_cons, List.length_nil]; omega))]; rfl
            · simp [mergeV, h1, h2]
          · rw [decide_eq_false h2]
            refine ⟨(o ++ [(x.1, max x.2 y.2)], a, b), ?_, (by simp only [List.length_append, List.length_cons, List.length_nil]; omega), (by simp only [List.length_cons]; omega), ?_⟩
            · rw [cond_false, cond_true, guard_t (b := true) rfl, guard_t (b := true) rfl, guard_t (ble_t (by simp only [List.length_cons, List.length_nil]; omega))]; rfl
            · simp [mergeV, h1, h2]) FUEL ([], a, b) (by simpa using hab) (by dsimp only; unfold FUEL; omega)
  simpa using key

theorem m24_eq {A B : Lvl} (ha : A.vs.length ≤ 100000) (hb : B.vs.length ≤ 100000) : m24 A B = some (maxL A B) := by
  unfold m24
  rw [guard_t (ble_t ha)]
  cases hA : validB A with
  | false => rw [maxL_inv (by rw [hA]; rfl)]; rfl
  | true =>
    simp only [Bool.not_true, cond_false]
    rw [guard_t (ble_t hb)]
    cases hB : validB B with
    | false => rw [maxL_inv (by rw [hB]; simp)]; rfl
    | true =>
      simp only [Bool.not_true, Option.bind_some, cond_false]
      rw [m24_loop _ _ (by omega)]
      simp only [Option.bind_some]
      have gA := good_valid hA; have gB := good_valid hB
      have g := good_merge gA gB
      rw [guard_t (ble_t g.wf.len), maxL_ok hA hB, join_trim gA gB]
      have ht : topL ⟨max A.c B.c, mergeV A.vs B.vs⟩ ≤ 100 := topL_le.2 ⟨by have := valid_c hA; have := valid_c hB; show max A.c B.c ≤ 100; omega, fun x hx => (merge_src gA.wf gB.wf hx).elim (fun h => (okV_valid hA h).2.2.2) fun h => (okV_valid hB h).2.2.2⟩
      rw [(lim_ok (lim_err.2 ht)).1]

end Go.Proofs.YtcapifnaceegmaaGreatDoor
