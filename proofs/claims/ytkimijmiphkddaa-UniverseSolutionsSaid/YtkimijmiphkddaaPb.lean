/- Plain laws: what the mirrors of Check say. Plain laws: Check and its reference say the same. -/
import Derived.Test.YtkimijmiphkddaaMa
namespace Go.Proofs.Ytkimijmiphkddaa
section
open Go.RowKit
set_option linter.unusedSimpArgs false
set_option linter.unusedVariables false
set_option linter.unusedSectionVars false

theorem loop_spec {σ β : Type} {step : σ → Option (LO σ β)} (I : σ → Prop) (μ : σ → Nat) (spec : σ → β)
    (h : ∀ s, I s → (step s = some (.done (spec s))) ∨ (∃ s', step s = some (.next s') ∧ I s' ∧ μ s' < μ s ∧ spec s' = spec s)) : ∀ (n : Nat) (s : σ), I s → μ s < n → loopN step n s = some (spec s)
  | 0, _, _, h0 => absurd h0 (Nat.not_lt_zero _)
  | n + 1, s, hs, hn => by
    rcases h s hs with h1 | ⟨s', h1, h2, h3, h4⟩
    · simp only [loopN, h1]
    · simp only [loopN, h1]
      rw [loop_spec I μ spec h n s' h2 (by omega), h4]

theorem w64_id {n : Int} (h1 : -9223372036854775808 ≤ n) (h2 : n ≤ 9223372036854775807) : w64 n = n := IntWalk.i64_in n ⟨h1, h2⟩

theorem idx_nat {α : Type} {l : List α} {i : Int} {x : α} (h0 : 0 ≤ i) (hx : l[i.toNat]? = some x) : idx l i = some x := by
  obtain ⟨k, rfl⟩ := Int.eq_ofNat_of_zero_le h0
  simpa [idx] using hx

/-! ### Metas -/
/-- the metavariables of variables, the last one first -/
def metGo : List LV → List Int
  | [] => []
  | x :: l => metGo l ++ (if x.1 < 0 then [-1 - x.1] else [])
def metL (L : Lvl) : List Int := if validB L then metGo L.vs else []

theorem metGo_take {l : List LV} {k : Nat} {x : LV} (h : l[k]? = some x) : metGo (l.take (k + 1)) = (if x.1 < 0 then [-1 - x.1] else []) ++ metGo (l.take k) := by
  induction l generalizing k with
  | nil => simp at h
  | cons y l ih =>
    cases k with
    | zero => simp at h; subst h; simp [metGo]
    | succ k =>
      simp only [List.getElem?_cons_succ] at h
      simp only [List.take_succ_cons, metGo, ih h, List.append_assoc]

theorem m38_eq (L : Lvl) (hl : L.vs.length ≤ 100000) : m38 L = some (metL L) := by
  unfold m38
  have hg : Nat.ble L.vs.length 100000 = true := Nat.ble_eq_true_of_le hl
  rw [hg]
  simp only [guardO, cond_true]
  unfold metL
  cases hv : validB L with
  | false => rfl
  | true =>
    simp only [cond_true, if_pos, Option.bind_some]
    have key := loop_spec (step := m38_l0 L) (fun s => -1 ≤ s.1 ∧ s.1 < L.vs.length ∧ s.2.length ≤ L.vs.length ∧ ((s.2.length : Int) + s.1 + 1 ≤ L.vs.length)) (fun s => (s.1 + 1).toNat) (fun s => s.2 ++ metGo (L.vs.take (s.1 + 1).toNat)) (fun s hs => by
      obtain ⟨i, out⟩ := s
      dsimp only at hs ⊢
      unfold m38_l0
      dsimp only
      by_cases h0 : 0 ≤ i
      · right
        obtain ⟨x, hx⟩ : ∃ x, L.vs[i.toNat]? = some x := ⟨_, List.getElem?_eq_getElem (by omega)⟩
        have hb := valid_okVar hv hx
        have ht := metGo_take hx
        rw [decide_eq_true h0, cond_true, idx_nat h0 hx]
        have e1 : (i + 1).toNat = i.toNat + 1 := by omega
        rw [e1, ht]
        by_cases hn : x.1 < 0
        · have hgg : Nat.ble (out.length + [w64 (-1 - x.1)].length) 1000000000 = true := Nat.ble_eq_true_of_le (by simp; omega)
          simp only [Option.bind_some, decide_eq_true hn, cond_true, hgg, guardO, if_pos hn]
          refine ⟨_, rfl, ?_⟩
          dsimp only
          rw [w64_id (n := i - 1) (by omega) (by omega), w64_id (n := -1 - x.1) (by omega) (by omega)]
          refine ⟨⟨by omega, by omega, by simp; omega, by simp; omega⟩, by omega, ?_⟩
          rw [show (i - 1 + 1).toNat = i.toNat by omega, List.append_assoc]
        · simp only [Option.bind_some, decide_eq_false hn, cond_false, if_neg hn, List.nil_append]
          refine ⟨_, rfl, ?_⟩
          dsimp only
          rw [w64_id (n := i - 1) (by omega) (by omega)]
          refine ⟨⟨by omega, by omega, by omega, by omega⟩, by omega, ?_⟩
          rw [show (i - 1 + 1).toNat = i.toNat by omega]
      · left
        rw [decide_eq_false h0, cond_false, show (i + 1).toNat = 0 by omega]
        simp [metGo])
    rw [w64_id (by omega) (by omega)]
    rw [key FUEL ((L.vs.length : Int) - 1, []) ⟨by dsimp only; omega, by dsimp only; omega, by simp, by simp⟩ (by dsimp only; unfold FUEL; omega)]
    simp only [Option.bind_some, List.nil_append]
    rw [show ((L.vs.length : Int) - 1 + 1).toNat = L.vs.length by omega, List.take_length]
end

section
open Go.RowKit
set_option linter.unusedSimpArgs false
set_option linter.unusedVariables false
set_option linter.unusedSectionVars false

/-- the first answer of a row -/
def firstR {α β : Type} (f : Nat → α → Option β) : List α → Nat → Option β
  | [], _ => none
  | x :: l, k => match f k x with
    | some b => some b
    | none => firstR f l (k + 1)
def sumR {β : Type} : Option β → Unit ⊕ β
  | some b => .inr b
  | none => .inl ()

theorem firstR_drop {α β : Type} {f : Nat → α → Option β} {l : List α} {k : Nat} {x : α} (h : l[k]? = some x) : firstR f (l.drop k) k = match f k x with
    | some b => some b
    | none => firstR f (l.drop (k + 1)) (k + 1) := by
  have hk := (List.getElem?_eq_some_iff.1 h).1
  rw [List.drop_eq_getElem_cons hk, (List.getElem?_eq_some_iff.1 h).2]
  rfl

theorem scan_loop {α β : Type} {step : Int → Option (LO Int (Unit ⊕ β))} {l : List α} (f : Nat → α → Option β) (hlen : l.length ≤ 900000)
    (hin : ∀ (k : Nat) (x : α), l[k]? = some x → step (k : Int) = some (match f k x with
      | some b => .done (.inr b)
      | none => .next (w64 ((k : Int) + 1)))) (hout : step (l.length : Int) = some (.done (.inl ()))) : loopN step FUEL 0 = some (sumR (firstR f l 0)) := by
  have key := loop_spec (step := step) (fun s => 0 ≤ s ∧ s ≤ l.length) (fun s => l.length - s.toNat) (fun s => sumR (firstR f (l.drop s.toNat) s.toNat)) (fun s hs => by
    obtain ⟨k, rfl⟩ := Int.eq_ofNat_of_zero_le hs.1
    rcases Nat.lt_or_ge k l.length with hk | hk
    · obtain ⟨x, hx⟩ : ∃ x, l[k]? = some x := ⟨_, List.getElem?_eq_getElem hk⟩
      have h1 := hin k x hx
      have h2 := firstR_drop (f := f) hx
      simp only [Int.toNat_natCast]
      rw [h1, h2]
      cases hf : f k x with
      | some b => left; rfl
      | none =>
        right
        refine ⟨_, rfl, ?_⟩
        rw [w64_id (by omega) (by omega)]
        refine ⟨by omega, by omega, ?_⟩
        rw [show ((k : Int) + 1).toNat = k + 1 by omega]
    · left
      have e : k = l.length := by omega
      subst e
      rw [hout]
      simp [firstR, sumR]) FUEL 0 ⟨Int.le_refl _, by omega⟩ (by simp [FUEL]; omega)
  simpa using key

theorem firstR_any {α : Type} {p : α → Bool} {β : Type} {g : Nat → β} : ∀ (l : List α) (k : Nat), (firstR (fun k x => if p x then some (g k) else none) l k).isSome = l.any p
  | [], _ => rfl
  | x :: l, k => by
    cases h : p x with
    | true => simp [firstR, h]
    | false => simp [firstR, h, firstR_any l (k + 1)]

theorem firstR_ge {α : Type} {p : α → Bool} : ∀ (l : List α) (k : Nat) (n : Int), firstR (fun k x => if p x then some (k : Int) else none) l k = some n → 0 ≤ n
  | [], _, _, h => by simp [firstR] at h
  | x :: l, k, n, h => by
    cases hp : p x with
    | true => simp [firstR, hp] at h; omega
    | false => simp [firstR, hp] at h; exact firstR_ge l (k + 1) n h

def beyB (L : Lvl) (m : Int) : Bool := (metL L).any fun x => decide (m ≤ x)

theorem metL_len {L : Lvl} : (metL L).length ≤ L.vs.length := by
  have : ∀ l : List LV, (metGo l).length ≤ l.length := fun l => by
    induction l with
    | nil => exact Nat.le_refl _
    | cons x l ih => simp only [metGo, List.length_append, List.length_cons]; split <;> simp <;> omega
  unfold metL
  split
  · exact this _
  · simp

theorem m29_eq (L : Lvl) (m : Int) (hl : L.vs.length ≤ 100000) : m29 L m = some (beyB L m) := by
  unfold m29
  rw [m38_eq L hl]
  simp only [Option.bind_some]
  have hm := metL_len (L := L)
  rw [scan_loop (l := metL L) (fun k x => if decide (m ≤ x) then some (k : Int) else none) (by omega) (fun k x hx => by
    unfold m29_l0
    have hk := (List.getElem?_eq_some_iff.1 hx).1
    rw [decide_eq_true (by omega : (k : Int) < (metL L).length), cond_true, idx_nat (Int.natCast_nonneg _) (by simpa using hx)]
    simp only [Option.bind_some]
    cases decide (m ≤ x) <;> rfl) (by unfold m29_l0; simp)]
  simp only [Option.bind_some]
  unfold beyB
  rw [← firstR_any (g := fun k : Nat => (k : Int)) (metL L) 0]
  cases h : firstR (fun k x => if decide (m ≤ x) then some (k : Int) else none) (metL L) 0 with
  | none => rfl
  | some n => simp [sumR, firstR_ge _ _ _ h]

/-! ### Check -/
def chkB (m : Int) (b : Bnd) : Int := if validB b.lo && validB b.hi then (if beyB b.lo m || beyB b.hi m then 24 else 0) else 3
def chkF (m : Int) (k : Nat) (b : Bnd) : Option (Int × Int) := if chkB m b == 0 then none else some ((k : Int), chkB m b)
def chkL (m : Int) (l : List Bnd) : Int × Int := if m < 0 ∨ 2000 < m then (0, 2) else (firstR (chkF m) l 0).getD (0, 0)
def shortVs (l : List Bnd) : Prop := l.length ≤ 100000 ∧ ∀ b ∈ l, b.lo.vs.length ≤ 100000 ∧ b.hi.vs.length ≤ 100000

theorem m13_eq (m : Int) (l : List Bnd) (hl : shortVs l) : m13 m l = some (chkL m l) := by
  unfold m13 chkL
  by_cases h1 : m < 0
  · rw [decide_eq_true h1, if_pos (.inl h1)]; rfl
  by_cases h2 : 2000 < m
  · rw [decide_eq_false h1, decide_eq_true h2, if_pos (.inr h2)]; rfl
  rw [decide_eq_false h1, decide_eq_false h2, if_neg (by omega)]
  simp only [cond_false, Option.bind_some]
  rw [scan_loop (l := l) (chkF m) (by have := hl.1; omega) (fun k b hb => by
    have hk := (List.getElem?_eq_some_iff.1 hb).1
    obtain ⟨g1, g2⟩ := hl.2 b (List.mem_of_getElem? hb)
    unfold m13_l0
    rw [decide_eq_true (by omega : (k : Int) < l.length), cond_true, idx_nat (Int.natCast_nonneg _) (by simpa using hb)]
    have e1 : Nat.ble b.lo.vs.length 100000 = true := Nat.ble_eq_true_of_le g1
    have e2 : Nat.ble b.hi.vs.length 100000 = true := Nat.ble_eq_true_of_le g2
    simp only [Option.bind_some, e1, e2, guardO, cond_true, m29_eq _ _ g1, m29_eq _ _ g2, chkF, chkB]
    rcases Bool.eq_false_or_eq_true (validB b.lo) with v1 | v1 <;> rcases Bool.eq_false_or_eq_true (validB b.hi) with v2 | v2 <;> rcases Bool.eq_false_or_eq_true (beyB b.lo m) with v3 | v3 <;> rcases Bool.eq_false_or_eq_true (beyB b.hi m) with v4 | v4 <;> simp [v1, v2, v3, v4]) (by unfold m13_l0; simp)]
  simp only [Option.bind_some]
  cases firstR (chkF m) l 0 <;> rfl

theorem beyB_valid {L : Lvl} (h : validB L = true) (m : Int) : beyB L m = L.vs.any fun x => decide (x.1 < 0) && decide (m ≤ -1 - x.1) := by
  unfold beyB metL
  rw [if_pos h]
  induction L.vs with
  | nil => rfl
  | cons x l ih =>
    simp only [metGo, List.any_append, ih, List.any_cons]
    by_cases hx : x.1 < 0
    · rw [if_pos hx, decide_eq_true hx]; simp [Bool.or_comm]
    · rw [if_neg hx, decide_eq_false hx]; simp

theorem m14_eq (m : Int) (l : List Bnd) (hl : shortVs l) : m14 m l = some (chkL m l) := by
  unfold m14 chkL
  by_cases h1 : m < 0
  · rw [decide_eq_true h1, if_pos (.inl h1)]; rfl
  by_cases h2 : 2000 < m
  · rw [decide_eq_false h1, decide_eq_true h2, if_pos (.inr h2)]; rfl
  rw [decide_eq_false h1, decide_eq_false h2, if_neg (by omega)]
  simp only [cond_false, Option.bind_some]
  rw [scan_loop (l := l) (chkF m) (by have := hl.1; omega) (fun k b hb => by
    have hk := (List.getElem?_eq_some_iff.1 hb).1
    obtain ⟨g1, g2⟩ := hl.2 b (List.mem_of_getElem? hb)
    unfold m14_l1
    rw [decide_eq_true (by omega : (k : Int) < l.length), cond_true, idx_nat (Int.natCast_nonneg _) (by simpa using hb)]
    have e1 : Nat.ble b.lo.vs.length 100000 = true := Nat.ble_eq_true_of_le g1
    have e2 : Nat.ble b.hi.vs.length 100000 = true := Nat.ble_eq_true_of_le g2
    have e3 : Nat.ble (([] : List LV).length + b.lo.vs.length) 1000000000 = true := Nat.ble_eq_true_of_le (by simp; omega)
    have e4 : Nat.ble ((([] : List LV) ++ b.lo.vs).length + b.hi.vs.length) 1000000000 = true := Nat.ble_eq_true_of_le (by simp; omega)
    simp only [Option.bind_some, e1, e2, e3, e4, guardO, cond_true]
    cases v1 : validB b.lo with
    | false => simp [chkF, chkB, v1]
    | true =>
      cases v2 : validB b.hi with
      | false => simp [chkF, chkB, v1, v2]
      | true =>
        simp only [Bool.not_true, cond_false, Option.bind_some]
        rw [scan_loop (l := ([] ++ b.lo.vs) ++ b.hi.vs) (fun (_ : Nat) (x : LV) => if decide (x.1 < 0) && decide (m ≤ -1 - x.1) then some ((k : Int), (24 : Int)) else none) (by simp; omega) (fun j x hx => by
          have hj := (List.getElem?_eq_some_iff.1 hx).1
          unfold m14_l0
          have hx' : idx ([] ++ b.lo.vs ++ b.hi.vs) (j : Int) = some x := idx_nat (Int.natCast_nonneg _) (by simpa using hx)
          rw [decide_eq_true (by omega : (j : Int) < ((([] : List LV) ++ b.lo.vs ++ b.hi.vs).length : Int)), cond_true, hx']
          have hr : -65536 ≤ x.1 := by
            have hm := List.mem_of_getElem? hx
            rw [List.nil_append] at hm
            rcases List.mem_append.1 hm with hm | hm
            · exact ((wf_valid v1).2 x hm).1
            · exact ((wf_valid v2).2 x hm).1
          by_cases hn : x.1 < 0
          · simp only [Option.bind_some, decide_eq_true hn, cond_true, w64_id (n := -1 - x.1) (by omega) (by omega), Bool.true_and]
            cases decide (m ≤ -1 - x.1) <;> rfl
          · simp only [Option.bind_some, decide_eq_false hn, cond_false, Bool.false_and]
            rfl) (by unfold m14_l0; simp)]
        have hany := firstR_any (p := fun x : LV => decide (x.1 < 0) && decide (m ≤ -1 - x.1)) (g := fun _ => ((k : Int), (24 : Int))) (([] ++ b.lo.vs) ++ b.hi.vs) 0
        rw [List.nil_append, List.any_append, ← beyB_valid v1, ← beyB_valid v2] at hany
        simp only [Option.bind_some, chkF, chkB, v1, v2, Bool.and_self, if_true]
        rw [List.nil_append]
        cases hf : firstR (fun (_ : Nat) (x : LV) => if decide (x.1 < 0) && decide (m ≤ -1 - x.1) then some ((k : Int), (24 : Int)) else none) (b.lo.vs ++ b.hi.vs) 0 with
        | none =>
          rw [hf] at hany
          simp only [Option.isSome_none] at hany
          simp [← hany, sumR]
        | some r =>
          rw [hf] at hany
          simp only [Option.isSome_some] at hany
          have hr : r = ((k : Int), (24 : Int)) := by
            have : ∀ (l : List LV) (q : Nat), firstR (fun (_ : Nat) (x : LV) => if decide (x.1 < 0) && decide (m ≤ -1 - x.1) then some ((k : Int), (24 : Int)) else none) l q = some r → r = ((k : Int), (24 : Int)) := by
              intro l
              induction l with
              | nil => intro q h; simp [firstR] at h
              | cons x l ih =>
                intro q h
                simp only [firstR] at h
                split at h
                · rename_i b' hb'
                  split at hb'
                  · cases hb'; cases h; rfl
                  · cases hb'
                · exact ih _ h
            exact this _ _ hf
          subst hr
          simp [← hany, sumR]) (by unfold m14_l1; simp)]
  simp only [Option.bind_some]
  cases firstR (chkF m) l 0 <;> rfl

/-- a value: valid, no metavariable -/
def valB (L : Lvl) : Bool := validB L && !(L.vs.any fun x => decide (x.1 < 0))
end

end Go.Proofs.Ytkimijmiphkddaa
