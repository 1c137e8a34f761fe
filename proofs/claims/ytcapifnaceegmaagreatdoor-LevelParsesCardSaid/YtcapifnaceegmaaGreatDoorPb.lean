/- Plain laws of layer 1: few, the reference Same, Of, Var. -/
import Derived.Test.YtcapifnaceegmaaGreatDoorPa
import Derived.Test.YtcapifnaceegmaaGreatDoorMa
namespace Go.Proofs.YtcapifnaceegmaaGreatDoor
open Go.RowKit
set_option linter.unusedSimpArgs false
set_option linter.unusedVariables false

def few12 (l : List Lvl) : Bool := l.all fun x => decide (x.vs.length ≤ 12)
theorem m13_eq {l : List Lvl} (hl : l.length ≤ 900000) : m13 l = some (few12 l) := by
  unfold m13
  have key := scan_loop (step := m13_l0 l) (l := l) (fun k x => if decide (12 < (x.vs.length : Int)) then some (k : Int) else none) hl (fun k x hx => by
    have hk := (List.getElem?_eq_some_iff.1 hx).1
    unfold m13_l0
    rw [decide_eq_true (by omega : (k : Int) < l.length), cond_true, idx_nat (Int.natCast_nonneg _) (by simpa using hx), Option.bind_some, Option.bind_some]
    cases decide (12 < (x.vs.length : Int)) <;> rfl) (by unfold m13_l0; rw [decide_eq_false (by omega), cond_false])
  rw [key]
  have h1 := firstR_any (p := fun x : Lvl => decide (12 < (x.vs.length : Int))) (g := fun k => (k : Int)) l 0
  have h2 : few12 l = !(l.any fun x => decide (12 < (x.vs.length : Int))) := by
    unfold few12
    rw [Bool.eq_iff_iff]
    simp only [List.all_eq_true, decide_eq_true_eq, Bool.not_eq_true', List.any_eq_false, Int.not_lt]
    exact ⟨fun h x hx => by have := h x hx; omega, fun h x hx => by have := h x hx; omega⟩
  rw [h2, ← h1]
  cases hf : firstR (fun k (x : Lvl) => if decide (12 < (x.vs.length : Int)) then some (k : Int) else none) l 0 with
  | none => rfl
  | some n =>
    have h0 := firstR_ge (p := fun x : Lvl => decide (12 < (x.vs.length : Int))) _ _ _ hf
    simp only [sumR, Option.bind_some, Sum.elim_inr, decide_eq_true h0]
    rfl
theorem few_len {l : List Lvl} (h : few12 l = true) {x : Lvl} (hx : x ∈ l) : x.vs.length ≤ 12 := of_decide_eq_true (List.all_eq_true.1 h x hx)

/-- whether two levels are equal -/
def sameB (A B : Lvl) : Bool := (A.c == B.c) && decide (A.vs = B.vs)
theorem sameB_refl (A : Lvl) : sameB A A = true := by simp [sameB]
theorem sameB_iff {A B : Lvl} : sameB A B = true ↔ A = B := by
  unfold sameB
  rw [Bool.and_eq_true, beq_iff_eq, decide_eq_true_eq]
  refine ⟨fun h => ?_, fun h => by rw [h]; exact ⟨rfl, rfl⟩⟩
  cases A; cases B
  cases h.1; cases h.2
  rfl
theorem firstR_none {α β : Type} : ∀ (l : List α) (k : Nat), firstR (fun _ (_ : α) => (none : Option β)) l k = none
  | [], _ => rfl
  | x :: l, k => by unfold firstR; exact firstR_none l (k + 1)
/-- a scan that compares two lists of one length -/
theorem scan_eq {α : Type} [DecidableEq α] {ne : α → α → Bool} (hne : ∀ x y, ne x y = !(decide (x = y))) : ∀ (l r p : List α), l.length = r.length →
    firstR (fun k x => match (p ++ r)[k]? with
      | some y => if ne x y then some false else none
      | none => none) l p.length = if l = r then none else some false
  | [], r, p, h => by
    have : r = [] := List.eq_nil_of_length_eq_zero h.symm
    rw [this]; rfl
  | x :: l, [], p, h => by cases h
  | x :: l, y :: r, p, h => by
    unfold firstR
    have e : (p ++ y :: r)[p.length]? = some y := by rw [List.getElem?_append_right (Nat.le_refl _), Nat.sub_self]; rfl
    rw [e]
    dsimp only
    rw [hne]
    by_cases hxy : x = y
    · rw [decide_eq_true hxy]
      simp only [Bool.not_true, Bool.false_eq_true, if_false]
      have ih := scan_eq hne l r (p ++ [y]) (by simpa using h)
      rw [List.append_assoc, List.length_append] at ih
      simp only [List.singleton_append, List.length_singleton] at ih
      rw [ih]
      simp [hxy]
    · rw [decide_eq_false hxy]
      simp [hxy]
theorem lv_ne (x y : LV) : (!((x.1 == y.1) && (x.2 == y.2))) = !(decide (x = y)) := by
  congr 1
  rw [Bool.eq_iff_iff]
  simp only [Bool.and_eq_true, beq_iff_eq, decide_eq_true_eq]
  exact ⟨fun h => Prod.ext h.1 h.2, fun h => by rw [h]; exact ⟨rfl, rfl⟩⟩
theorem same_loop {step : Int → Option (LO Int (Unit ⊕ Bool))} {a b : List LV} (hl : a.length = b.length) (h9 : a.length ≤ 900000)
    (hin : ∀ (k : Nat) (x y : LV), a[k]? = some x → b[k]? = some y → step (k : Int) = some (if !((x.1 == y.1) && (x.2 == y.2)) then .done (.inr false) else .next (w64 ((k : Int) + 1)))) (hout : step (a.length : Int) = some (.done (.inl ()))) :
    loopN step FUEL 0 = some (sumR (if a = b then none else some false)) := by
  rw [← scan_eq lv_ne a b [] hl]
  refine scan_loop (l := a) _ h9 (fun k x hx => ?_) hout
  obtain ⟨y, hy⟩ : ∃ y, b[k]? = some y := ⟨_, List.getElem?_eq_getElem (by have := (List.getElem?_eq_some_iff.1 hx).1; omega)⟩
  rw [hin k x y hx hy, List.nil_append, hy]
  dsimp only
  cases (!((x.1 == y.1) && (x.2 == y.2))) <;> rfl
theorem m21_eq {A B : Lvl} (hA : A.vs.length ≤ 900000) : m21 A B = some (sameB A B) := by
  unfold m21 sameB
  by_cases hc : A.c = B.c
  · have e1 : (A.c != B.c) = false := by rw [hc]; exact bne_self_eq_false _
    have e2 : (A.c == B.c) = true := by rw [hc]; exact beq_self_eq_true _
    rw [e1, e2, cond_false, Option.bind_some]
    by_cases hl : A.vs.length = B.vs.length
    · have e3 : ((A.vs.length : Int) != (B.vs.length : Int)) = false := by rw [hl]; exact bne_self_eq_false _
      rw [e3, cond_false]
      have key := same_loop (step := m21_l0 A B) hl hA (fun k x y hx hy => by
        have hk := (List.getElem?_eq_some_iff.1 hx).1
        unfold m21_l0
        rw [decide_eq_true (by omega : (k : Int) < A.vs.length), cond_true, idx_nat (Int.natCast_nonneg _) (by simpa using hx), Option.bind_some, idx_nat (Int.natCast_nonneg _) (by simpa using hy), Option.bind_some]
        cases (!((x.1 == y.1) && (x.2 == y.2))) <;> rfl) (by unfold m21_l0; rw [decide_eq_false (by omega), cond_false])
      rw [key]
      by_cases h : A.vs = B.vs
      · rw [if_pos h, decide_eq_true h]; rfl
      · rw [if_neg h, decide_eq_false h]; rfl
    · have e3 : ((A.vs.length : Int) != (B.vs.length : Int)) = true := by simpa using fun h => hl (by omega)
      rw [e3, cond_true, decide_eq_false (fun h => hl (by rw [h]))]; rfl
  · have e1 : (A.c != B.c) = true := by simpa using hc
    have e2 : (A.c == B.c) = false := by simpa using hc
    rw [e1, e2, cond_true, Option.bind_some, cond_true, Bool.false_and]

theorem m15_16 (n : Int) : ∃ r : Lvl × Int, m15 n = some r ∧ m16 n = some r ∧ r.1.vs.length ≤ 1 := by
  unfold m15 m16
  cases decide (n < 0)
  · cases decide (100 < n)
    · exact ⟨_, rfl, rfl, Nat.zero_le _⟩
    · exact ⟨_, rfl, rfl, Nat.zero_le _⟩
  · exact ⟨_, rfl, rfl, Nat.zero_le _⟩
theorem m17_18 (i n : Int) : ∃ r : Lvl × Int, m17 i n = some r ∧ m18 i n = some r ∧ r.1.vs.length ≤ 1 := by
  unfold m17 m18
  have e : decide (7 < i) = decide (8 ≤ i) := by rw [Bool.eq_iff_iff, decide_eq_true_eq, decide_eq_true_eq]; omega
  rw [e]
  cases decide (i < -65536) <;> cases decide (8 ≤ i) <;> cases decide (n < 0) <;> cases decide (100 < n) <;> exact ⟨_, rfl, rfl, by simp⟩
theorem g2 {a b : Nat} (h1 : a ≤ 100000) (h2 : b ≤ 100000) : cond (Nat.ble a 100000) (Nat.ble b 100000) false = true := by rw [ble_t h1, ble_t h2]; rfl
end Go.Proofs.YtcapifnaceegmaaGreatDoor
