/- Plain laws of layer 1: two levels that are each at most the other are the same; the law of uniqueness. -/
import Derived.Test.YtcapifnaceegmaaGreatDoorPl7
import Derived.Test.YtcapifnaceegmaaGreatDoorPx
import Derived.Test.YtcapifnaceegmaaGreatDoorMk9
namespace Go.Proofs.YtcapifnaceegmaaGreatDoor
open Go.RowKit
set_option linter.unusedSimpArgs false
set_option linter.unusedVariables false

theorem anti {A B : Lvl} (ha : validB A = true) (hb : validB B = true) (h : leL A B) (k : leL B A) : A = B := by
  have wa := (wf_valid ha).1; have wb := (wf_valid hb).1
  have ev : A.vs = B.vs := by
    refine asc_ext wa wb fun i => ?_
    cases hA : getV A.vs i with
    | none =>
      cases hB : getV B.vs i with
      | none => rfl
      | some q =>
        obtain ⟨y, hy, e, -⟩ := k.2 _ ((getV_mem wb).1 hB)
        have := getV_of_mem wa hy
        rw [e] at this
        rw [this] at hA; cases hA
    | some p =>
      obtain ⟨y, hy, e, hp⟩ := h.2 _ ((getV_mem wa).1 hA)
      have h1 := getV_of_mem wb hy
      obtain ⟨z, hz, e2, hq⟩ := k.2 y hy
      have h2 := getV_of_mem wa hz
      dsimp only at e hp
      rw [e2, e, hA] at h2
      rw [e] at h1
      rw [h1]
      have : p = z.2 := by injection h2
      exact congrArg some (by omega)
  have et : topL A = topL B := Int.le_antisymm h.top k.top
  have nc : ∀ {L : Lvl}, validB L = true → 0 < L.c → ∀ x ∈ L.vs, x.2 < L.c := fun {L} hv hc x hx => by
    have := ((valid_parts L).1 hv).2.2.1 hc
    refine Int.not_le.1 fun hn => ?_
    rw [cov_mem.2 ⟨x, hx, hn⟩] at this; cases this
  have ec : A.c = B.c := by
    have a0 := (valid_c ha).1; have b0 := (valid_c hb).1
    have tA : 0 < A.c → topL A = A.c := fun hc => Int.le_antisymm (topL_le.2 ⟨Int.le_refl _, fun x hx => by have := nc ha hc x hx; omega⟩) (top_ge _ _)
    have tB : 0 < B.c → topL B = B.c := fun hc => Int.le_antisymm (topL_le.2 ⟨Int.le_refl _, fun x hx => by have := nc hb hc x hx; omega⟩) (top_ge _ _)
    by_cases h1 : 0 < A.c
    · by_cases h2 : 0 < B.c
      · have := tA h1; have := tB h2; omega
      · exfalso
        have e1 := tA h1
        have : topL B ≤ A.c - 1 := topL_le.2 ⟨by omega, fun x hx => by have := nc ha h1 x (by rw [ev]; exact hx); omega⟩
        omega
    · by_cases h2 : 0 < B.c
      · exfalso
        have e1 := tB h2
        have : topL A ≤ B.c - 1 := topL_le.2 ⟨by omega, fun x hx => by have := nc hb h2 x (by rw [← ev]; exact hx); omega⟩
        omega
      · omega
  cases A; cases B
  dsimp only at ev ec
  rw [ev, ec]

theorem anti_same {A B : Lvl} (ha : validB A = true) (hb : validB B = true) : (leqB A B && leqB B A) = sameB A B := by
  rw [Bool.eq_iff_iff, Bool.and_eq_true, leqB_iff, leqB_iff, sameB_iff]
  exact ⟨fun h => anti ha hb h.1.2.2 h.2.2.2, fun h => by rw [h]; exact ⟨⟨hb, hb, leL.refl _⟩, hb, hb, leL.refl _⟩⟩
theorem join_leq {A B C : Lvl} (ha : validB A = true) (hb : validB B = true) : leqB (joinL A B) C = (leqB A C && leqB B C) := by
  rw [Bool.eq_iff_iff, Bool.and_eq_true, leqB_iff, leqB_iff, leqB_iff, join_le (good_valid ha) (good_valid hb)]
  exact ⟨fun h => ⟨⟨ha, h.2.1, h.2.2.1⟩, hb, h.2.1, h.2.2.2⟩, fun h => ⟨join_valid ha hb, h.1.2.1, h.1.2.2, h.2.2.2⟩⟩
theorem m9_eq (a0 a1 a2 : Lvl) : m9 a0 a1 a2 = some true := by
  unfold m9
  rw [m13_eq (by simp), Option.bind_some]
  cases hf : few12 [a0, a1, a2] with
  | false => rfl
  | true =>
    have h0 := few_len hf (x := a0) (by simp)
    have h1 := few_len hf (x := a1) (by simp)
    have h2 := few_len hf (x := a2) (by simp)
    simp only [Bool.not_true, cond_false]
    rw [guard_t (ble_t (by omega))]
    cases v0 : validB a0 with
    | false => rfl
    | true =>
      simp only [Bool.not_true, cond_false]
      rw [guard_t (ble_t (by omega))]
      cases v1 : validB a1 with
      | false => rfl
      | true =>
        simp only [Bool.not_true, cond_false]
        rw [guard_t (ble_t (by omega))]
        cases v2 : validB a2 with
        | false => rfl
        | true =>
          have hs := anti_same v0 v1
          have hj := join_leq (C := a2) v0 v1
          have l0 : leqB a0 (joinL a0 a1) = true := leqB_iff.2 ⟨v0, join_valid v0 v1, ((join_le (good_valid v0) (good_valid v1)).1 (leL.refl _)).1⟩
          have l1 : leqB a1 (joinL a0 a1) = true := leqB_iff.2 ⟨v1, join_valid v0 v1, ((join_le (good_valid v0) (good_valid v1)).1 (leL.refl _)).2⟩
          have hlen := (wf_valid (join_valid v0 v1)).len
          simp only [Bool.not_true, Option.bind_some, cond_false]
          rw [guard_t (g2 (by omega) (by omega))]
          have e : (cond (leqB a0 a1) (guardO ((cond (Nat.ble a1.vs.length 100000) (Nat.ble a0.vs.length 100000) false)) (Option.bind (m31 a0 a1) fun (x7 : Bool) => some (!((leqB a1 a0) == x7)))) (Option.bind (m31 a0 a1) fun (x8 : Bool) => some (!(false == x8)))) = some false := by
            rw [m31_eq (by omega), Option.bind_some, Option.bind_some, guard_t (g2 (by omega) (by omega)), ← hs]
            cases leqB a0 a1 <;> cases leqB a1 a0 <;> rfl
          rw [e, Option.bind_some, cond_false, m24_eq (by omega) (by omega), Option.bind_some, maxL_ok v0 v1]
          dsimp only
          rw [guard_t (g2 (by omega) (by omega)), guard_t (g2 (by omega) (by omega)), guard_t (g2 (by omega) (by omega)), guard_t (g2 (by omega) (by omega)), guard_t (g2 (by omega) (by omega)), l0, l1, hj]
          cases leqB a0 a2 <;> cases leqB a1 a2 <;> rfl
end Go.Proofs.YtcapifnaceegmaaGreatDoor
