/- Plain laws of layer 1: values of levels; a level is at most another one exactly if its value is, at 0 and 500. -/
import Derived.Test.YtcapifnaceegmaaGreatDoorPb
import Derived.Test.YtcapifnaceegmaaGreatDoorMk6
namespace Go.Proofs.YtcapifnaceegmaaGreatDoor
open Go.RowKit
set_option linter.unusedSimpArgs false
set_option linter.unusedVariables false

def inR (L : Lvl) (n : Nat) : Bool := L.vs.all fun x => decide (0 ≤ x.1) && decide (x.1 < n)
def valF (ps : List Int) (s : Int) (x : LV) : Int := max s (ps.getD x.1.toNat 0 + x.2)
/-- the value of a level for values of its parameters -/
def valS (L : Lvl) (ps : List Int) : Int := L.vs.foldl (valF ps) L.c
theorem valF_le {ps : List Int} {m : Int} : ∀ (l : List LV) (c : Int), l.foldl (valF ps) c ≤ m ↔ c ≤ m ∧ ∀ x ∈ l, ps.getD x.1.toNat 0 + x.2 ≤ m
  | [], c => by simp
  | x :: l, c => by
    rw [List.foldl_cons, valF_le l]
    have : valF ps c x ≤ m ↔ c ≤ m ∧ ps.getD x.1.toNat 0 + x.2 ≤ m := by unfold valF; omega
    rw [this]
    simp [and_assoc]
theorem valS_le {L : Lvl} {ps : List Int} {m : Int} : valS L ps ≤ m ↔ L.c ≤ m ∧ ∀ x ∈ L.vs, ps.getD x.1.toNat 0 + x.2 ≤ m := valF_le _ _

def valG (ps : List Int) (s : Int) (x : LV) : (Int ⊕ Int) ⊕ Int := if x.1 < 0 ∨ (ps.length : Int) ≤ x.1 then .inl (.inr (-1)) else .inr (valF ps s x)
theorem val_exit {ps : List Int} : ∀ (l : List LV) (c : Int), exitGo (valG ps) Sum.inl l c = if (l.all fun x => decide (0 ≤ x.1) && decide (x.1 < (ps.length : Nat))) then Sum.inl (l.foldl (valF ps) c) else .inr (-1)
  | [], c => rfl
  | x :: l, c => by
    unfold exitGo
    by_cases h : x.1 < 0 ∨ (ps.length : Int) ≤ x.1
    · have e : valG ps c x = .inl (.inr (-1)) := if_pos h
      rw [e]
      have e2 : (decide (0 ≤ x.1) && decide (x.1 < (ps.length : Nat))) = false := by
        rw [Bool.and_eq_false_iff, decide_eq_false_iff_not, decide_eq_false_iff_not]; omega
      rw [List.all_cons, e2, Bool.false_and]
      rfl
    · have e : valG ps c x = .inr (valF ps c x) := if_neg h
      rw [e]
      have e2 : (decide (0 ≤ x.1) && decide (x.1 < (ps.length : Nat))) = true := by
        rw [Bool.and_eq_true, decide_eq_true_eq, decide_eq_true_eq]; omega
      rw [List.all_cons, e2, Bool.true_and, List.foldl_cons]
      exact val_exit l _
theorem m28_eq {L : Lvl} {ps : List Int} (hl : L.vs.length ≤ 100000) (hps : ∀ p ∈ ps, 0 ≤ p ∧ p ≤ 1000000000) : m28 L ps = some (if validB L && inR L ps.length then valS L ps else -1) := by
  unfold m28
  rw [guard_t (ble_t hl)]
  cases hv : validB L with
  | false => rfl
  | true =>
    simp only [Bool.not_true, cond_false]
    have key := exit_loopG (step := m28_l0 L ps) (l := L.vs) (fun i (s : Int) => (s, i)) Sum.inl (valG ps) (fun _ _ => True) (by omega) (fun k x s hx _ => by
      have hk := (List.getElem?_eq_some_iff.1 hx).1
      have ho := valid_okVar hv hx
      have e : m28_l0 L ps (s, (k : Int)) = some (match valG ps s x with
          | .inl r => LO.done r
          | .inr s' => LO.next (s', w64 ((k : Int) + 1))) := by
        unfold m28_l0
        dsimp only
        rw [decide_eq_true (by omega : (k : Int) < L.vs.length), cond_true, idx_nat (Int.natCast_nonneg _) (by simpa using hx), Option.bind_some]
        by_cases h : x.1 < 0 ∨ (ps.length : Int) ≤ x.1
        · have e : valG ps s x = .inl (.inr (-1)) := if_pos h
          have e2 : cond (decide (x.1 < 0)) (some true) (some (decide ((ps.length : Int) ≤ x.1))) = some true := by
            by_cases h1 : x.1 < 0
            · rw [decide_eq_true h1]; rfl
            · rw [decide_eq_false h1, decide_eq_true (h.resolve_left h1)]; rfl
          rw [e, e2]; rfl
        · have e : valG ps s x = .inr (valF ps s x) := if_neg h
          have e2 : cond (decide (x.1 < 0)) (some true) (some (decide ((ps.length : Int) ≤ x.1))) = some false := by
            rw [decide_eq_false (fun h1 => h (.inl h1)), decide_eq_false (fun h1 => h (.inr h1))]; rfl
          obtain ⟨p, hp⟩ : ∃ p, ps[x.1.toNat]? = some p := ⟨_, List.getElem?_eq_getElem (by omega)⟩
          have hp2 := hps p (List.mem_of_getElem? hp)
          rw [e, e2, Option.bind_some, cond_false, idx_nat (by omega) hp, Option.bind_some, w64_id (n := p + x.2) (by omega) (by omega)]
          have e3 : valF ps s x = max s (p + x.2) := by unfold valF; rw [List.getD_eq_getElem?_getD, hp]; rfl
          rw [e3]
      cases hg : valG ps s x with
      | inl r => rw [hg] at e; exact e
      | inr c => rw [hg] at e; exact ⟨e, trivial⟩) (fun s _ => by unfold m28_l0; dsimp only; rw [decide_eq_false (by omega)]; rfl) L.c trivial
    have key' : loopN (m28_l0 L ps) FUEL (L.c, 0) = some (exitGo (valG ps) Sum.inl L.vs L.c) := key
    rw [key', val_exit, Option.bind_some, Bool.true_and]
    unfold inR
    cases (L.vs.all fun x => decide (0 ≤ x.1) && decide (x.1 < (ps.length : Nat))) <;> rfl

def prm (k : Nat) : List Int := [500 * ((k % 2 : Nat) : Int), 500 * ((k / 2 % 2 : Nat) : Int), 500 * ((k / 4 : Nat) : Int)]
theorem prm_eq : ∀ k : Nat, k < 8 → [(w64 (500 * (Int.tmod (k : Int) 2))), (w64 (500 * (Int.tmod (w64 (Int.tdiv (k : Int) 2)) 2))), (w64 (500 * (w64 (Int.tdiv (k : Int) 4))))] = prm k := by decide
theorem prm_le (k : Nat) (hk : k < 8) : ∀ p ∈ prm k, 0 ≤ p ∧ p ≤ 1000000000 := by
  intro p hp
  unfold prm at hp
  simp only [List.mem_cons, List.not_mem_nil, or_false] at hp
  rcases hp with rfl | rfl | rfl <;> omega

theorem below_iff {A B : Lvl} (hA : validB A = true) (hB : validB B = true) (iA : inR A 3 = true) (iB : inR B 3 = true) : leqB A B = (List.range 8).all fun k => decide (valS A (prm k) ≤ valS B (prm k)) := by
  rw [Bool.eq_iff_iff, leqB_iff]
  simp only [List.all_eq_true, List.mem_range, decide_eq_true_eq]
  have rA : ∀ x ∈ A.vs, 0 ≤ x.1 ∧ x.1 < 3 := fun x hx => by have := List.all_eq_true.1 iA x hx; simpa using this
  have rB : ∀ x ∈ B.vs, 0 ≤ x.1 ∧ x.1 < 3 := fun x hx => by have := List.all_eq_true.1 iB x hx; simpa using this
  have pn : ∀ k, k < 8 → ∀ i : Int, 0 ≤ (prm k).getD i.toNat 0 := fun k hk i => by
    rw [List.getD_eq_getElem?_getD]
    cases h : (prm k)[i.toNat]? with
    | none => exact Int.le_refl _
    | some p => exact (prm_le k hk p (List.mem_of_getElem? h)).1
  constructor
  · rintro ⟨-, -, h1, h2⟩ k hk
    have hc : topL B ≤ valS B (prm k) := by
      have h := valS_le (L := B) (ps := prm k).1 (Int.le_refl _)
      exact topL_le.2 ⟨h.1, fun x hx => by have := h.2 x hx; have := pn k hk x.1; omega⟩
    refine valS_le.2 ⟨by omega, fun x hx => ?_⟩
    obtain ⟨y, hy, e, h3⟩ := h2 x hx
    have h := (valS_le (L := B) (ps := prm k).1 (Int.le_refl _)).2 y hy
    rw [e] at h
    omega
  · intro h
    refine ⟨hA, hB, ?_, fun x hx => ?_⟩
    · have h0 := h 0 (by decide)
      have hz : ∀ i : Int, (prm 0).getD i.toNat 0 = 0 := fun i => by
        match i.toNat with
        | 0 => rfl
        | 1 => rfl
        | 2 => rfl
        | n + 3 => rfl
      have h1 := (valS_le (L := A) (ps := prm 0).1 (Int.le_refl _)).1
      have h2 : valS B (prm 0) ≤ topL B := valS_le.2 ⟨top_ge _ _, fun x hx => by rw [hz]; have := le_topOf (c := B.c) hx; unfold topL; omega⟩
      omega
    · have hr := rA x hx
      have hox := okV_valid hA hx
      -- the parameter of x is 500, the others are 0
      have pick : ∃ k, k < 8 ∧ (prm k).getD x.1.toNat 0 = 500 ∧ ∀ j : Int, 0 ≤ j → j < 3 → j ≠ x.1 → (prm k).getD j.toNat 0 = 0 := by
        have h3 : x.1 = 0 ∨ x.1 = 1 ∨ x.1 = 2 := by omega
        have j3 : ∀ j : Int, 0 ≤ j → j < 3 → j = 0 ∨ j = 1 ∨ j = 2 := fun j h1 h2 => by omega
        rcases h3 with e | e | e <;> rw [e]
        · exact ⟨1, by decide, by decide, fun j h1 h2 h3 => by rcases j3 j h1 h2 with rfl | rfl | rfl <;> first | exact absurd rfl h3 | decide⟩
        · exact ⟨2, by decide, by decide, fun j h1 h2 h3 => by rcases j3 j h1 h2 with rfl | rfl | rfl <;> first | exact absurd rfl h3 | decide⟩
        · exact ⟨4, by decide, by decide, fun j h1 h2 h3 => by rcases j3 j h1 h2 with rfl | rfl | rfl <;> first | exact absurd rfl h3 | decide⟩
      obtain ⟨k, hk, e1, e2⟩ := pick
      have h1 := (valS_le (L := A) (ps := prm k).1 (Int.le_refl _)).2 x hx
      rw [e1] at h1
      have h2 := h k hk
      refine Classical.byContradiction fun hn => ?_
      have h3 : valS B (prm k) ≤ 499 + x.2 := valS_le.2 ⟨by have := (valid_c hB).2; have := hox.2.2.1; omega, fun y hy => by
        have ho := okV_valid hB hy
        have := rB y hy
        by_cases hxy : y.1 = x.1
        · rw [hxy, e1]
          have : ¬ x.2 ≤ y.2 := fun h4 => hn ⟨y, hy, hxy, h4⟩
          omega
        · rw [e2 y.1 this.1 this.2 hxy]
          have := ho.2.2.2; have := hox.2.2.1
          omega⟩
      omega

theorem m6_eq (a0 a1 : Lvl) : m6 a0 a1 = some true := by
  unfold m6
  rw [m13_eq (by simp), Option.bind_some]
  cases hf : few12 [a0, a1] with
  | false => rfl
  | true =>
    have h0 := few_len hf (x := a0) (by simp)
    have h1 := few_len hf (x := a1) (by simp)
    have hz : ∀ p ∈ ([0, 0, 0] : List Int), 0 ≤ p ∧ p ≤ 1000000000 := by decide
    simp only [Bool.not_true, cond_false]
    rw [m28_eq (by omega) hz, m28_eq (by omega) hz, Option.bind_some, Option.bind_some]
    have l3 : ([0, 0, 0] : List Int).length = 3 := rfl
    rw [l3]
    cases c0 : validB a0 && inR a0 3 with
    | false => rfl
    | true =>
      rw [Bool.and_eq_true] at c0
      have p0 : 0 ≤ valS a0 [0, 0, 0] := by have := (valS_le (L := a0) (ps := [0, 0, 0])).1 (Int.le_refl _); have := (valid_c c0.1).1; omega
      rw [if_pos rfl, decide_eq_false (by omega), cond_false]
      cases c1 : validB a1 && inR a1 3 with
      | false => rfl
      | true =>
        rw [Bool.and_eq_true] at c1
        have p1 : 0 ≤ valS a1 [0, 0, 0] := by have := (valS_le (L := a1) (ps := [0, 0, 0])).1 (Int.le_refl _); have := (valid_c c1.1).1; omega
        rw [if_pos rfl, decide_eq_false (by omega), Option.bind_some, cond_false]
        have key := fold_loopG (step := m6_l0 a0 a1) (l := List.range 8) (fun i (s : Bool) => (s, i)) (fun s => s) (fun s k => s && decide (valS a0 (prm k) ≤ valS a1 (prm k))) (fun _ _ => True) (by simp) (fun k x s hx _ => by
          have hk : k < 8 := by have := (List.getElem?_eq_some_iff.1 hx).1; simpa using this
          have ex : x = k := by rw [List.getElem?_range hk] at hx; cases hx; rfl
          subst ex
          refine ⟨?_, trivial⟩
          unfold m6_l0
          dsimp only
          rw [decide_eq_true (by omega : (x : Int) < 8), cond_true, prm_eq x hk, m28_eq (by omega) (prm_le x hk), m28_eq (by omega) (prm_le x hk)]
          have l3' : (prm x).length = 3 := rfl
          rw [l3', c0.1, c0.2, c1.1, c1.2]
          simp only [Bool.and_self, if_true, Option.bind_some]
          cases s <;> rfl) (fun s _ => by unfold m6_l0; dsimp only; rw [List.length_range, decide_eq_false (by omega), cond_false]) true trivial
        have fold_all : ∀ (l : List Nat) (p : Nat → Bool) (b : Bool), l.foldl (fun s k => s && p k) b = (b && l.all p) := by
          intro l p
          induction l with
          | nil => intro b; simp
          | cons x l ih => intro b; rw [List.foldl_cons, ih, List.all_cons, Bool.and_assoc]
        rw [fold_all, Bool.true_and, ← below_iff c0.1 c1.1 c0.2 c1.2] at key
        have key' : loopN (m6_l0 a0 a1) FUEL (true, 0) = some (leqB a0 a1) := key
        rw [key', Option.bind_some, guard_t (g2 (by omega) (by omega))]
        simp
end Go.Proofs.YtcapifnaceegmaaGreatDoor
