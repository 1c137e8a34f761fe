/- Plain laws of layer 1: Params, Metas, Eval and their references; the law of Eval, Params and Metas. -/
import Derived.Test.YtcapifnaceegmaaGreatDoorPb
import Derived.Test.YtcapifnaceegmaaGreatDoorMk12
namespace Go.Proofs.YtcapifnaceegmaaGreatDoor
open Go.RowKit
set_option linter.unusedSimpArgs false
set_option linter.unusedVariables false

theorem m43_eq (L : Lvl) (hl : L.vs.length ≤ 100000) : m43 L = some (metL L) := by
  unfold m43
  have hg : Nat.ble L.vs.length 100000 = true := Nat.ble_eq_true_of_le hl
  rw [hg]
  simp only [guardO, cond_true]
  unfold metL
  cases hv : validB L with
  | false => rfl
  | true =>
    simp only [cond_true, if_pos, Option.bind_some]
    have key := loop_spec (step := m43_l0 L) (fun s => -1 ≤ s.1 ∧ s.1 < L.vs.length ∧ s.2.length ≤ L.vs.length ∧ ((s.2.length : Int) + s.1 + 1 ≤ L.vs.length)) (fun s => (s.1 + 1).toNat) (fun s => s.2 ++ metGo (L.vs.take (s.1 + 1).toNat)) (fun s hs => by
      obtain ⟨i, out⟩ := s
      dsimp only at hs ⊢
      unfold m43_l0
      dsimp only
      by_cases h0 : 0 ≤ i
      · right
        obtain ⟨x, hx⟩ : ∃ x, L.vs[i.toNat]? = some x := ⟨_, List.getElem?_eq_getElem (by omega)⟩
        have hb := valid_okVar hv hx
        have ht := metGo_take hx
        rw [decide_eq_true h0, cond_true, idx_nat h0 hx]
        have e1 : (i + 1).toNat = i.toNat + 1 := by omega
        rw [e1, ht]
        by_cases hn : x.1 < 0
        · have hgg : Nat.ble (out.length + [w64 (-1 - x.1)].length) 1000000000 = true := Nat.ble_eq_true_of_le (by simp; omega)
          simp only [Option.bind_some, decide_eq_true hn, cond_true, hgg, guardO, if_pos hn]
          refine ⟨_, rfl, ?_⟩
          dsimp only
          rw [w64_id (n := i - 1) (by omega) (by omega), w64_id (n := -1 - x.1) (by omega) (by omega)]
          refine ⟨⟨by omega, by omega, by simp; omega, by simp; omega⟩, by omega, ?_⟩
          rw [show (i - 1 + 1).toNat = i.toNat by omega, List.append_assoc]
        · simp only [Option.bind_some, decide_eq_false hn, cond_false, if_neg hn, List.nil_append]
          refine ⟨_, rfl, ?_⟩
          dsimp only
          rw [w64_id (n := i - 1) (by omega) (by omega)]
          refine ⟨⟨by omega, by omega, by omega, by omega⟩, by omega, ?_⟩
          rw [show (i - 1 + 1).toNat = i.toNat by omega]
      · left
        rw [decide_eq_false h0, cond_false, show (i + 1).toNat = 0 by omega]
        simp [metGo])
    rw [w64_id (by omega) (by omega)]
    rw [key FUEL ((L.vs.length : Int) - 1, []) ⟨by dsimp only; omega, by dsimp only; omega, by simp, by simp⟩ (by dsimp only; unfold FUEL; omega)]
    simp only [Option.bind_some, List.nil_append]
    rw [show ((L.vs.length : Int) - 1 + 1).toNat = L.vs.length by omega, List.take_length]

theorem m44_eq (L : Lvl) (hl : L.vs.length ≤ 100000) : m44 L = some (metL L) := by
  unfold m44 metL
  rw [guard_t (ble_t hl)]
  cases hv : validB L with
  | false => rfl
  | true =>
    simp only [Bool.not_true, cond_false, if_true]
    have key := loop_spec (step := m44_l0 L) (fun s => -1 ≤ s.2 ∧ s.2 < L.vs.length ∧ (s.1.length : Int) ≤ L.vs.length - 1 - s.2) (fun s => (s.2 + 1).toNat) (fun s => s.1 ++ metGo (L.vs.take (s.2 + 1).toNat)) (fun s hs => by
      obtain ⟨o, i⟩ := s
      obtain ⟨h0, h1, h2⟩ := hs
      dsimp only at h0 h1 h2 ⊢
      unfold m44_l0
      dsimp only
      by_cases hn : 0 ≤ i
      · obtain ⟨k, rfl⟩ := Int.eq_ofNat_of_zero_le hn
        obtain ⟨x, hx⟩ : ∃ x, L.vs[k]? = some x := ⟨_, List.getElem?_eq_getElem (by omega)⟩
        have ho := valid_okVar hv hx
        have e : ((k : Int) + 1).toNat = k + 1 := by omega
        have e2 : ((k : Int) - 1 + 1).toNat = k := by omega
        right
        rw [decide_eq_true hn, cond_true, idx_nat hn (by simpa using hx), Option.bind_some, Option.bind_some, e, metGo_take hx]
        by_cases hx0 : x.1 < 0
        · rw [decide_eq_true hx0, cond_true, guard_t (ble_t (by simp; omega)), w64_id (n := (k : Int) - 1) (by omega) (by omega), w64_id (n := -1 - x.1) (by omega) (by omega), if_pos hx0]
          refine ⟨_, rfl, ⟨by dsimp only; omega, by dsimp only; omega, by simp; omega⟩, by dsimp only; omega, ?_⟩
          dsimp only
          rw [e2, List.append_assoc]
        · rw [decide_eq_false hx0, cond_false, w64_id (n := (k : Int) - 1) (by omega) (by omega), if_neg hx0]
          refine ⟨_, rfl, ⟨by dsimp only; omega, by dsimp only; omega, by dsimp only; omega⟩, by dsimp only; omega, ?_⟩
          dsimp only
          rw [e2, List.nil_append]
      · left
        rw [decide_eq_false hn, cond_false]
        have e : (i + 1).toNat = 0 := by omega
        rw [e]
        simp [metGo]) FUEL (([] : List Int), w64 ((L.vs.length : Int) - 1)) (by rw [w64_id (by omega) (by omega)]; simp; omega) (by rw [w64_id (by omega) (by omega)]; unfold FUEL; dsimp only; omega)
    rw [key, w64_id (by omega) (by omega), Option.bind_some]
    have e : ((L.vs.length : Int) - 1 + 1).toNat = L.vs.length := by omega
    dsimp only
    rw [e, List.take_length, List.nil_append]

/-- one more than the greatest parameter -/
def parL (L : Lvl) : Int := if validB L then (match L.vs.getLast? with
  | some x => max 0 (x.1 + 1)
  | none => 0) else 0
theorem last_idx {l : List LV} (hl : l.length ≤ 100000) (hne : l ≠ []) : ∃ x, l.getLast? = some x ∧ idx l (w64 ((l.length : Int) - 1)) = some x ∧ x ∈ l := by
  have hp := List.length_pos_iff.2 hne
  refine ⟨l.getLast hne, List.getLast?_eq_some_getLast hne, ?_, List.getLast_mem hne⟩
  rw [w64_id (by omega) (by omega)]
  refine idx_nat (by omega) ?_
  have e : ((l.length : Int) - 1).toNat = l.length - 1 := by omega
  rw [e, ← List.getLast?_eq_getElem?, List.getLast?_eq_some_getLast hne]
theorem m40_eq {L : Lvl} (hl : L.vs.length ≤ 100000) : m40 L = some (parL L) ∧ m41 L = some (parL L) := by
  unfold m40 m41 parL
  rw [guard_t (ble_t hl), guard_t (ble_t hl)]
  cases hv : validB L with
  | false => exact ⟨rfl, rfl⟩
  | true =>
    simp only [Bool.not_true, cond_false, cond_true, if_true]
    by_cases hne : L.vs = []
    · rw [hne]; exact ⟨rfl, rfl⟩
    · have hp := List.length_pos_iff.2 hne
      obtain ⟨x, h1, h2, h3⟩ := last_idx hl hne
      have ho := okV_valid hv h3
      unfold okV at ho
      have e1 : decide (0 < (L.vs.length : Int)) = true := decide_eq_true (by omega)
      have e2 : ((L.vs.length : Int) == 0) = false := by simpa using hne
      rw [e1, e2, Option.bind_some, Option.bind_some, cond_true, cond_false, h2, Option.bind_some, h1, w64_id (by omega) (by omega)]
      exact ⟨rfl, rfl⟩
theorem par_lt {L : Lvl} (hv : validB L = true) {n : Int} (h : parL L ≤ n) : ∀ x ∈ L.vs, x.1 < n := by
  intro x hx
  have hne : L.vs ≠ [] := fun e => by rw [e] at hx; cases hx
  unfold parL at h
  rw [if_pos hv, List.getLast?_eq_some_getLast hne] at h
  dsimp only at h
  have hle : x.1 ≤ (L.vs.getLast hne).1 := by
    have hw := (wf_valid hv).1
    rw [← List.dropLast_concat_getLast hne] at hx hw
    rcases List.mem_append.1 hx with h1 | h1
    · have := (List.pairwise_append.1 hw).2.2 x h1 _ (List.mem_singleton_self _)
      omega
    · rw [List.mem_singleton.1 h1]; exact Int.le_refl _
  omega

def badP (x : Int) : Bool := decide (x < 0) || decide (1000000 < x)
def evF (ps : List Int) (s : Int) (x : LV) : Int := max s (w64 (ps.getD x.1.toNat 0 + x.2))
def evL (L : Lvl) (ps : List Int) : Int × Int := if validB L then (if ps.any badP then (0, 2) else if metL L ≠ [] then (0, 23) else if (ps.length : Int) < parL L then (0, 24) else (L.vs.foldl (evF ps) L.c, 0)) else (0, 3)
theorem met_nil {L : Lvl} (hv : validB L = true) (h : metL L = []) : ∀ x ∈ L.vs, 0 ≤ x.1 := by
  unfold metL at h
  rw [if_pos hv] at h
  have : ∀ l : List LV, metGo l = [] → ∀ x ∈ l, 0 ≤ x.1 := by
    intro l
    induction l with
    | nil => intro _ x hx; cases hx
    | cons y l ih =>
      intro h x hx
      unfold metGo at h
      have h2 := List.append_eq_nil_iff.1 h
      rcases List.mem_cons.1 hx with rfl | hx
      · refine Int.not_lt.1 fun hn => ?_
        have := h2.2
        rw [if_pos hn] at this
        cases this
      · exact ih h2.1 x hx
  exact this _ h
theorem m38_eq {L : Lvl} {ps : List Int} (hl : L.vs.length ≤ 100000) (hp : ps.length ≤ 900000) : m38 L ps = some (evL L ps) := by
  unfold m38 evL
  rw [guard_t (ble_t hl)]
  cases hv : validB L with
  | false => rfl
  | true =>
    simp only [Bool.not_true, cond_false, if_true]
    have key := scan_loop (step := m38_l0 ps) (l := ps) (fun k x => if badP x then some (k : Int) else none) hp (fun k x hx => by
      have hk := (List.getElem?_eq_some_iff.1 hx).1
      unfold m38_l0 badP
      rw [decide_eq_true (by omega : (k : Int) < ps.length), cond_true, idx_nat (Int.natCast_nonneg _) (by simpa using hx), Option.bind_some]
      cases decide (x < 0) <;> cases decide (1000000 < x) <;> rfl) (by unfold m38_l0; rw [decide_eq_false (by omega), cond_false])
    rw [key]
    have h1 := firstR_any (p := badP) (g := fun k => (k : Int)) ps 0
    cases hb : ps.any badP with
    | true =>
      rw [hb] at h1
      obtain ⟨n, hn⟩ := Option.isSome_iff_exists.1 h1
      have h0 := firstR_ge (p := badP) _ _ _ hn
      rw [hn]
      simp only [sumR, Option.bind_some, Sum.elim_inr, decide_eq_true h0]
      rfl
    | false =>
      rw [hb] at h1
      have hn : firstR (fun k x => if badP x then some (k : Int) else none) ps 0 = none := by
        cases h : firstR (fun k x => if badP x then some (k : Int) else none) ps 0 with
        | none => rfl
        | some n => rw [h] at h1; cases h1
      rw [hn]
      simp only [sumR, Option.bind_some, Sum.elim_inl]
      rw [show decide (0 ≤ (-1 : Int)) = false from rfl, cond_false, m43_eq L hl, Option.bind_some]
      by_cases hm : metL L = []
      · rw [hm, (m40_eq hl).1]
        simp only [List.length_nil, Option.bind_some]
        rw [show decide (0 < ((0 : Nat) : Int)) = false from rfl, cond_false]
        by_cases hq : (ps.length : Int) < parL L
        · rw [decide_eq_true hq, cond_true]; simp [hq]
        · rw [decide_eq_false hq, cond_false]
          have hlt := par_lt hv (Int.not_lt.1 hq)
          have hge := met_nil hv hm
          have k2 := fold_loopG (step := m38_l1 L ps) (l := L.vs) (fun i (s : Int) => (s, i)) (fun s => s) (evF ps) (fun _ _ => True) (by omega) (fun k x s hx _ => by
            have hk := (List.getElem?_eq_some_iff.1 hx).1
            have hx1 := hlt x (List.mem_of_getElem? hx)
            have hx2 := hge x (List.mem_of_getElem? hx)
            obtain ⟨p, hpp⟩ : ∃ p, ps[x.1.toNat]? = some p := ⟨_, List.getElem?_eq_getElem (by omega)⟩
            refine ⟨?_, trivial⟩
            unfold m38_l1
            dsimp only
            rw [decide_eq_true (by omega : (k : Int) < L.vs.length), cond_true, idx_nat (Int.natCast_nonneg _) (by simpa using hx), Option.bind_some, idx_nat hx2 hpp, Option.bind_some]
            unfold evF
            rw [List.getD_eq_getElem?_getD, hpp]
            rfl) (fun s _ => by unfold m38_l1; dsimp only; rw [decide_eq_false (by omega), cond_false]) L.c trivial
          have k3 : loopN (m38_l1 L ps) FUEL (L.c, 0) = some (L.vs.foldl (evF ps) L.c) := k2
          rw [k3]
          simp [hq]
      · have e : decide (0 < ((metL L).length : Int)) = true := decide_eq_true (by have := List.length_pos_iff.2 hm; omega)
        rw [e, cond_true]
        simp [hm]
theorem m39_eq {L : Lvl} {ps : List Int} (hl : L.vs.length ≤ 100000) (hp : ps.length ≤ 900000) : m39 L ps = some (evL L ps) := by
  unfold m39 evL
  rw [guard_t (ble_t hl)]
  cases hv : validB L with
  | false => rfl
  | true =>
    simp only [Bool.not_true, cond_false, if_true]
    have key := scan_loop (step := m39_l0 ps) (l := ps) (fun _ x => if !(!(badP x)) then some ((0 : Int), (2 : Int)) else none) hp (fun k x hx => by
      have hk := (List.getElem?_eq_some_iff.1 hx).1
      unfold m39_l0 badP
      rw [decide_eq_true (by omega : (k : Int) < ps.length), cond_true, idx_nat (Int.natCast_nonneg _) (by simpa using hx), Option.bind_some, Option.bind_some]
      cases decide (x < 0) <;> cases decide (1000000 < x) <;> rfl) (by unfold m39_l0; rw [decide_eq_false (by omega), cond_false])
    rw [key, firstR_const (p := fun x => !(badP x))]
    have e0 : (ps.all fun x => !(badP x)) = !(ps.any badP) := by
      rw [Bool.eq_iff_iff]; simp [List.all_eq_true]
    rw [e0]
    cases hb : ps.any badP with
    | true => rfl
    | false =>
      simp only [Bool.not_false, if_true, sumR, Option.bind_some, Sum.elim_inl]
      rw [m44_eq L hl, Option.bind_some]
      by_cases hm : metL L = []
      · rw [hm, (m40_eq hl).2]
        simp only [List.length_nil, Option.bind_some]
        rw [show decide (0 < ((0 : Nat) : Int)) = false from rfl, cond_false]
        by_cases hq : (ps.length : Int) < parL L
        · rw [decide_eq_true hq, cond_true]; simp [hq]
        · rw [decide_eq_false hq, cond_false]
          have hlt := par_lt hv (Int.not_lt.1 hq)
          have hge := met_nil hv hm
          have k2 := fold_loopG (step := m39_l1 L ps) (l := L.vs) (fun i (s : Int) => (s, i)) (fun s => s) (evF ps) (fun _ _ => True) (by omega) (fun k x s hx _ => by
            have hk := (List.getElem?_eq_some_iff.1 hx).1
            have hx1 := hlt x (List.mem_of_getElem? hx)
            have hx2 := hge x (List.mem_of_getElem? hx)
            obtain ⟨p, hpp⟩ : ∃ p, ps[x.1.toNat]? = some p := ⟨_, List.getElem?_eq_getElem (by omega)⟩
            refine ⟨?_, trivial⟩
            unfold m39_l1
            dsimp only
            rw [decide_eq_true (by omega : (k : Int) < L.vs.length), cond_true, idx_nat (Int.natCast_nonneg _) (by simpa using hx), Option.bind_some, idx_nat hx2 hpp, Option.bind_some, Option.bind_some]
            unfold evF
            rw [List.getD_eq_getElem?_getD, hpp]
            rfl) (fun s _ => by unfold m39_l1; dsimp only; rw [decide_eq_false (by omega), cond_false]) L.c trivial
          have k3 : loopN (m39_l1 L ps) FUEL (L.c, 0) = some (L.vs.foldl (evF ps) L.c) := k2
          rw [k3]
          simp [hq]
      · have e : decide (0 < ((metL L).length : Int)) = true := decide_eq_true (by have := List.length_pos_iff.2 hm; omega)
        rw [e, cond_true]
        simp [hm]
theorem m42_refl {l : List Int} (h : l.length ≤ 900000) : m42 l l = some true := by
  unfold m42
  have key := scan_loop (step := m42_l0 l l) (l := l) (β := Bool) (fun _ _ => none) h (fun k x hx => by
    have hk := (List.getElem?_eq_some_iff.1 hx).1
    unfold m42_l0
    rw [decide_eq_true (by omega : (k : Int) < l.length), cond_true, idx_nat (Int.natCast_nonneg _) (by simpa using hx), Option.bind_some, Option.bind_some]
    simp) (by unfold m42_l0; rw [decide_eq_false (by omega), cond_false])
  rw [key, firstR_none]
  simp [sumR]
theorem metGo_len : ∀ l : List LV, (metGo l).length ≤ l.length
  | [] => Nat.le_refl _
  | x :: l => by
    have := metGo_len l
    unfold metGo
    rw [List.length_append]
    split <;> simp <;> omega
theorem met_len (L : Lvl) : (metL L).length ≤ L.vs.length := by
  unfold metL
  split
  · exact metGo_len _
  · exact Nat.zero_le _
theorem m12_eq (a0 : Lvl) (a1 : List Int) : m12 a0 a1 = some true := by
  unfold m12
  rw [m13_eq (by simp), Option.bind_some]
  cases hf : few12 [a0] with
  | false => rfl
  | true =>
    have h0 := few_len hf (x := a0) (by simp)
    simp only [Bool.not_true, cond_false]
    by_cases hq : 12 < (a1.length : Int)
    · rw [decide_eq_true hq]; rfl
    · have hm := met_len a0
      rw [decide_eq_false hq, Option.bind_some, cond_false, m38_eq (by omega) (by omega), m39_eq (by omega) (by omega), (m40_eq (by omega)).1, (m40_eq (by omega)).2, m43_eq a0 (by omega), m44_eq a0 (by omega)]
      simp only [Option.bind_some]
      rw [m42_refl (by omega)]
      simp
end Go.Proofs.YtcapifnaceegmaaGreatDoor
