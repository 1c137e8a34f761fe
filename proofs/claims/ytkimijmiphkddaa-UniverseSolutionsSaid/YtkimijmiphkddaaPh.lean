/- Plain law: universe.Holds says whether bounds hold. -/
import Derived.Test.YtkimijmiphkddaaPf
import Derived.Test.YtkimijmiphkddaaMh
namespace Go.Proofs.Ytkimijmiphkddaa
open Go.RowKit
set_option linter.unusedSimpArgs false
set_option linter.unusedVariables false

theorem fitB_lens {ms : List Lvl} (h : fitB ms) : lensB ms = true := by
  unfold lensB
  rw [ble_t h.1, cond_true, List.all_eq_true]
  exact fun x hx => ble_t (h.2 x hx)

theorem m48_l1_eq (L : Lvl) (ms : List Lvl) : m48_l1 L ms = m48o_l1 L ms.length ms := by
  funext s
  unfold m48_l1 m48o_l1
  have e : Nat.beq ms.length ms.length = true := by simp
  simp only [e, guardO, cond_true]
  rfl

theorem m48_eq {L : Lvl} {ms : List Lvl} (hL : L.vs.length ≤ 100000) (hf : fitB ms) : m48 L ms = some (assL L ms) := by
  unfold m48
  rw [guard_t (ble_t hL)]
  cases hv : validB L with
  | false => rw [assL_inv (by rw [hv]; rfl)]; rfl
  | true =>
    simp only [Bool.not_true, cond_false]
    rw [guard_t (fitB_lens hf)]
    cases hm : ms.all validB with
    | false => rw [assL_inv (by rw [hm]; simp)]; rfl
    | true =>
      simp only [Bool.not_true, Option.bind_some, cond_false]
      rw [m48_l1_eq, gath_l1 hv hm hf.1]
      obtain ⟨h1, h2⟩ := gath_limL hv hm
      simp only [Option.bind_some]
      rw [guard_t h1.ok.1]
      have e : loopN (m48_l2 (List.foldl (addS ms) (imNil, L.c) L.vs)) FUEL (0, []) = _ := gath_l2 h1
      rw [e]
      simp only [Option.bind_some]
      rw [guard_t (ble_t (by have := h1.wf.len; exact this)), h2, assL_gath hv hm]
      rfl

/-! ### The reference -/

/-- whether one bound holds; none: a level is too great -/
def holdF (ms : List Lvl) (b : Bnd) : Option Bool := if (assL b.lo ms).2 = 0 ∧ (assL b.hi ms).2 = 0 then some (leqB (assL b.lo ms).1 (assL b.hi ms).1) else none

def holdG (ms : List Lvl) (a : Bool) (b : Bnd) : (Bool ⊕ (Bool × Int)) ⊕ Bool := match holdF ms b with
  | none => .inl (.inr (false, 15))
  | some c => .inr (a && c)

def holdsL (ms : List Lvl) (bs : List Bnd) : Bool × Int := if ms.all valB then (if (chkL ms.length bs).2 = 0 then Sum.elim (fun a => (a, 0)) id (exitGo (holdG ms) Sum.inl bs true) else (false, (chkL ms.length bs).2)) else (false, 3)

theorem gathL_wf {L : Lvl} {ms : List Lvl} (h1 : validB L = true) (h2 : ms.all validB = true) : WF (gathL L ms).vs := (gath_limL h1 h2).1.wf

theorem wf_lim {L : Lvl} (h : WF L.vs) : WF (limL L).1.vs := by
  unfold limL trimL
  repeat' split
  all_goals first | exact wf_nil | exact h

theorem wf_ass (L : Lvl) (ms : List Lvl) : WF (assL L ms).1.vs := by
  cases h : validB L && ms.all validB with
  | false => rw [assL_inv h]; exact wf_nil
  | true =>
    obtain ⟨h1, h2⟩ := Bool.and_eq_true_iff.1 h
    rw [assL_gath h1 h2]; exact wf_lim (gathL_wf h1 h2)

theorem metL_any {L : Lvl} (h : validB L = true) : decide (0 < ((metL L).length : Int)) = L.vs.any fun x => decide (x.1 < 0) := by
  unfold metL
  rw [if_pos h]
  induction L.vs with
  | nil => rfl
  | cons x l ih =>
    simp only [metGo, List.any_cons, ← ih, List.length_append]
    by_cases hx : x.1 < 0
    · simp [hx]
    · simp [hx]

theorem m24_l0_eq {ms : List Lvl} (hf : fitB ms) : loopN (m24_l0 ms) FUEL 0 = some (sumR (firstR (fun _ x => if !(valB x) then some (false, (3 : Int)) else none) ms 0)) :=
  scan_loop (l := ms) _ (by have := hf.1; omega) (fun k x hx => by
    have hk := (List.getElem?_eq_some_iff.1 hx).1
    have hl := hf.2 x (List.mem_of_getElem? hx)
    unfold m24_l0
    rw [decide_eq_true (by omega : (k : Int) < ms.length), cond_true, idx_nat (Int.natCast_nonneg _) (by simpa using hx), Option.bind_some, guard_t (ble_t hl)]
    unfold valB
    cases hv : validB x with
    | false => rfl
    | true =>
      simp only [Bool.not_true, cond_false]
      rw [m38_eq x hl, Option.bind_some, metL_any hv]
      cases x.vs.any fun x => decide (x.1 < 0) <;> rfl) (by unfold m24_l0; rw [decide_eq_false (by omega)]; rfl)

theorem hold_step {ms : List Lvl} {b : Bnd} {a : Bool} {k : Int} : (Option.bind (cond ((assL b.lo ms).2 != 0)
    (some true)
    (some ((assL b.hi ms).2 != 0))) (fun (v9 : Bool) => cond v9
    (some (LO.done (Sum.inr (false, (15 : Int)))))
    (Option.bind (cond a
    (guardO ((cond (Nat.ble (assL b.lo ms).1.vs.length 100000) (Nat.ble (assL b.hi ms).1.vs.length 100000) false))
  (some (leqB (assL b.lo ms).1 (assL b.hi ms).1)))
    (some false)) (fun (v11 : Bool) => some (LO.next (v11, (w64 (k + 1)))))))) = some (match holdG ms a b with
    | .inl r => LO.done r
    | .inr c => LO.next (c, w64 (k + 1))) := by
  rw [guard_t (by rw [ble_t (wf_ass _ _).len, cond_true]; exact ble_t (wf_ass _ _).len)]
  unfold holdG holdF
  by_cases h1 : (assL b.lo ms).2 = 0
  · by_cases h2 : (assL b.hi ms).2 = 0
    · rw [if_pos ⟨h1, h2⟩, h1, h2]
      cases a <;> rfl
    · have h2' : ((assL b.hi ms).2 != 0) = true := by simpa using h2
      rw [if_neg (fun e => h2 e.2), h1, h2']
      rfl
  · have h1' : ((assL b.lo ms).2 != 0) = true := by simpa using h1
    rw [if_neg (fun e => h1 e.1), h1']
    rfl

theorem m24_l1_eq {ms : List Lvl} {bs : List Bnd} (hf : fitB ms) (hs : shortVs bs) : loopN (m24_l1 bs ms) FUEL (true, 0) = some (exitGo (holdG ms) Sum.inl bs true) :=
  exit_loopG (step := m24_l1 bs ms) (l := bs) (fun i a => (a, i)) Sum.inl (holdG ms) (fun _ _ => True) (by have := hs.1; omega) (fun k b a hb _ => by
    have hk := (List.getElem?_eq_some_iff.1 hb).1
    obtain ⟨g1, g2⟩ := hs.2 b (List.mem_of_getElem? hb)
    have e : m24_l1 bs ms (a, (k : Int)) = some (match holdG ms a b with
        | .inl r => LO.done r
        | .inr c => LO.next (c, w64 ((k : Int) + 1))) := by
      unfold m24_l1
      dsimp only
      rw [decide_eq_true (by omega : (k : Int) < bs.length), cond_true, idx_nat (Int.natCast_nonneg _) (by simpa using hb), Option.bind_some, m48_eq g1 hf, m48_eq g2 hf, Option.bind_some, Option.bind_some]
      exact hold_step
    cases hg : holdG ms a b with
    | inl r => rw [hg] at e; exact e
    | inr c => rw [hg] at e; exact ⟨e, trivial⟩) (fun s _ => by unfold m24_l1; dsimp only; rw [decide_eq_false (by omega)]; rfl) true trivial

theorem val_scan {ms : List Lvl} : firstR (fun _ x => if !(valB x) then some (false, (3 : Int)) else none) ms 0 = if ms.all valB then none else some (false, 3) := by
  have h := firstR_any (p := fun x => !(valB x)) (g := fun _ => (false, (3 : Int))) ms 0
  have h2 : ∀ (l : List Lvl) (k : Nat) (r : Bool × Int), firstR (fun _ x => if !(valB x) then some (false, (3 : Int)) else none) l k = some r → r = (false, 3) := by
    intro l
    induction l with
    | nil => intro k r h; cases h
    | cons x l ih =>
      intro k r h
      simp only [firstR] at h
      cases hx : valB x with
      | true => rw [hx] at h; exact ih _ _ h
      | false => rw [hx] at h; cases h; rfl
  have h3 : ms.all valB = !(ms.any fun x => !(valB x)) := (all_any ms valB).symm
  cases hr : firstR (fun _ x => if !(valB x) then some (false, (3 : Int)) else none) ms 0 with
  | none =>
    rw [hr] at h
    rw [h3, ← h]; rfl
  | some r =>
    rw [hr] at h
    rw [h3, ← h, h2 _ _ _ hr]; rfl

theorem hold_end {ms : List Lvl} {bs : List Bnd} {F : Option (Bool ⊕ (Bool × Int))} {A : Option (Unit ⊕ (Bool × Int))} {B : Option (Int × Int)} (h0 : A = some (sumR (firstR (fun _ x => if !(valB x) then some (false, (3 : Int)) else none) ms 0))) (h1 : B = some (chkL ms.length bs)) (h2 : F = some (exitGo (holdG ms) Sum.inl bs true)) :
    Option.bind A (Sum.elim (fun (o1 : Unit) => Option.bind B fun (x2 : Int × Int) =>
  cond (x2.2 != 0)
    (some (false, x2.2))
    (Option.bind F (Sum.elim (fun (o4 : Bool) => some (o4, 0)) (fun o => some o)))) (fun o => some o)) = some (holdsL ms bs) := by
  rw [h0, h1, h2, val_scan]
  unfold holdsL
  cases ms.all valB with
  | false => rfl
  | true =>
    simp only [if_true, sumR, Option.bind_some, Sum.elim_inl]
    by_cases hc : (chkL ms.length bs).2 = 0
    · rw [if_pos hc, hc]
      cases exitGo (holdG ms) Sum.inl bs true <;> rfl
    · have hc' : ((chkL ms.length bs).2 != 0) = true := by simpa using hc
      rw [if_neg hc, hc']; rfl

theorem m24_eq {ms : List Lvl} {bs : List Bnd} (hf : fitB ms) (hs : shortVs bs) : m24 ms bs = some (holdsL ms bs) := hold_end (m24_l0_eq hf) (m13_eq _ _ hs) (m24_l1_eq hf hs)

end Go.Proofs.Ytkimijmiphkddaa
