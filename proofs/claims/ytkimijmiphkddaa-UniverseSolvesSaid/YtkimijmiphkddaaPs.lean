/- Plain laws: what raise and visit call: pivot, the parts of a level, less, Max, the reference's Assign. -/
import Derived.Test.YtkimijmiphkddaaPo
import Derived.Test.YtkimijmiphkddaaPg0
import Derived.Test.YtkimijmiphkddaaMs
namespace Go.Proofs.Ytkimijmiphkddaa
open Go.RowKit
set_option linter.unusedSimpArgs false
set_option linter.unusedVariables false

/-! ### pivot, first -/
theorem piv_filter : ∀ r : List LV, pivR r = ((r.reverse.filter fun x => decide (x.1 < 0)).getLast?.map fun x => (-1 - x.1, x.2)).getD (-1, 0)
  | [] => rfl
  | x :: r => by
    rw [List.reverse_cons, List.filter_append]
    unfold pivR
    by_cases h : x.1 < 0
    · rw [if_pos h, List.filter_cons_of_pos (by simpa using h)]; simp
    · rw [if_neg h, List.filter_cons_of_neg (by simpa using h), piv_filter r]; simp
theorem pivL_eq {L : Lvl} (h : WF L.vs) : pivL L.vs = firstL L := by
  rw [firstL_eq h]
  unfold pivL
  rw [piv_filter, List.reverse_reverse]
theorem pivR_neg : ∀ r : List LV, (pivR r).1 < 0 → pivR r = (-1, 0)
  | [], _ => rfl
  | x :: r, h => by
    unfold pivR at h ⊢
    by_cases hx : x.1 < 0
    · rw [if_pos hx] at h; dsimp only at h; omega
    · rw [if_neg hx] at h ⊢; exact pivR_neg r h

theorem m54_eq {L : Lvl} (h : WF L.vs) : m54 L = some (firstL L) := by
  have hlen := h.len
  unfold m54
  have key := loop_spec (step := m54_l0 L) (fun s => -1 ≤ s ∧ s < L.vs.length) (fun s => (s + 1).toNat) (fun s => if (pivL (L.vs.take (s + 1).toNat)).1 < 0 then .inl () else .inr (pivL (L.vs.take (s + 1).toNat))) (fun s hs => by
    obtain ⟨h0, h1⟩ := hs
    unfold m54_l0
    by_cases hn : 0 ≤ s
    · obtain ⟨k, rfl⟩ := Int.eq_ofNat_of_zero_le hn
      obtain ⟨x, hx⟩ : ∃ x, L.vs[k]? = some x := ⟨_, List.getElem?_eq_getElem (by omega)⟩
      have hw := h.2 x (List.mem_of_getElem? hx)
      have e : ((k : Int) + 1).toNat = k + 1 := by omega
      rw [decide_eq_true hn, cond_true, idx_nat hn (by simpa using hx), Option.bind_some, e, piv_snoc hx]
      by_cases hx0 : x.1 < 0
      · left
        rw [decide_eq_true hx0, cond_true, w64_neg hw, if_pos hx0, if_neg (by dsimp only; omega)]
      · right
        rw [decide_eq_false hx0, cond_false, if_neg hx0, w64_id (by omega) (by omega)]
        refine ⟨_, rfl, ⟨by omega, by omega⟩, by omega, ?_⟩
        have e2 : ((k : Int) - 1 + 1).toNat = k := by omega
        rw [e2]
    · left
      rw [decide_eq_false hn, cond_false]
      have e : (s + 1).toNat = 0 := by omega
      rw [e]
      rfl) FUEL (w64 ((L.vs.length : Int) - 1)) (by rw [w64_id (by omega) (by omega)]; omega) (by rw [w64_id (by omega) (by omega)]; unfold FUEL; omega)
  rw [key, w64_id (by omega) (by omega)]
  have e : ((L.vs.length : Int) - 1 + 1).toNat = L.vs.length := by omega
  rw [e, List.take_length]
  rw [← pivL_eq h]
  by_cases hn : (pivL L.vs).1 < 0
  · rw [if_pos hn, pivR_neg _ hn |> (show pivL L.vs = (-1, 0) from ·)]; rfl
  · rw [if_neg hn]; rfl

/-! ### Parts -/
def partsL (L : Lvl) : List Lvl := (if 0 < L.c ∨ L.vs = [] then [⟨L.c, []⟩] else []) ++ L.vs.map fun v => ⟨0, [v]⟩

theorem m44_loop {L : Lvl} (hl : L.vs.length ≤ 100000) {o : List Lvl} (ho : o.length ≤ 1) : loopN (m44_l0 L) FUEL (o, 0) = some (o ++ L.vs.map fun v => ⟨0, [v]⟩) := by
  have key := fold_loopG (step := m44_l0 L) (l := L.vs) (fun i s => (s, i)) (fun s => s) (fun o v => o ++ [⟨0, [v]⟩]) (fun k s => s.length ≤ k + 1) (by omega) (fun k x s hx hs => by
    have hk := (List.getElem?_eq_some_iff.1 hx).1
    refine ⟨?_, by simp; omega⟩
    unfold m44_l0
    dsimp only
    rw [decide_eq_true (by omega : (k : Int) < L.vs.length), cond_true, idx_nat (Int.natCast_nonneg _) (by simpa using hx), Option.bind_some, guard_t (ble_t (by simp; omega))]) (fun s _ => by unfold m44_l0; dsimp only; rw [decide_eq_false (by omega), cond_false]) o (by omega)
  rw [key, foldl_snoc]
theorem m44_eq {L : Lvl} (hl : L.vs.length ≤ 100000) : m44 L = some (partsL L) := by
  unfold m44 partsL
  by_cases hc : 0 < L.c
  · rw [decide_eq_true hc, cond_true, Option.bind_some, cond_true, guard_t (by rfl), m44_loop hl (by simp), if_pos (.inl hc)]; rfl
  · rw [decide_eq_false hc, cond_false, Option.bind_some]
    by_cases hv : L.vs = []
    · have e : ((L.vs.length : Int) == 0) = true := by rw [hv]; rfl
      rw [e, cond_true, guard_t (by rfl), m44_loop hl (by simp), if_pos (.inr hv)]; rfl
    · have e : ((L.vs.length : Int) == 0) = false := by
        have := List.length_pos_iff.2 hv
        simp; exact hv
      rw [e, cond_false, m44_loop hl (by simp), if_neg (by simp [hc, hv])]; rfl

/-! ### less -/
theorem m56_eq {p : Lvl} {k : Int} (hp : validB p = true) (hk : 0 ≤ k ∧ k ≤ 100) : m56 p k = some (lowL p k) := by
  have h1 := valid_c hp
  unfold m56
  cases hv : p.vs with
  | nil => rw [lowL_nil hv, w64_id (by omega) (by omega)]; rfl
  | cons x r =>
    have hx := okV_valid hp (v := x) (by rw [hv]; exact List.mem_cons_self)
    have e : (((x :: r).length : Int) == 0) = false := by simp; omega
    have h3 := hx.2.2.1; have h4 := hx.2.2.2
    have ew : w64 (x.2 - k) = x.2 - k := w64_id (by omega) (by omega)
    rw [e, cond_false, lowL_cons (x := x) (by rw [hv]; rfl)]
    show some (⟨0, [(x.1, max 0 (w64 (x.2 - k)))]⟩ : Lvl) = _
    rw [ew]
theorem m58_eq {p : Lvl} {k : Int} (hp : validB p = true) (hk : 0 ≤ k ∧ k ≤ 100) : m58 p k = some (lowL p k) := by
  have h1 := valid_c hp
  unfold m58
  cases hv : p.vs with
  | nil => rw [lowL_nil hv, w64_id (by omega) (by omega), Int.max_comm]; rfl
  | cons x r =>
    have hx := okV_valid hp (v := x) (by rw [hv]; exact List.mem_cons_self)
    have e : (((x :: r).length : Int) == 0) = false := by simp; omega
    have h3 := hx.2.2.1; have h4 := hx.2.2.2
    have ew : w64 (x.2 - k) = x.2 - k := w64_id (by omega) (by omega)
    rw [e, cond_false, lowL_cons (x := x) (by rw [hv]; rfl)]
    show some (⟨0, [(x.1, max (w64 (x.2 - k)) 0)]⟩ : Lvl) = _
    rw [ew, Int.max_comm]

/-! ### Max -/
theorem m55_loop (a b : List LV) (hab : a.length + b.length ≤ 300000) : loopN m55_l0 FUEL ([], a, b) = some (mergeV a b, [], []) := by
  have key := loop_spec (step := m55_l0) (fun s => s.1.length + s.2.1.length + s.2.2.length ≤ 300000) (fun s => s.2.1.length + s.2.2.length) (fun s => (s.1 ++ mergeV s.2.1 s.2.2, [], [])) (fun s hs => by
    obtain ⟨o, a, b⟩ := s
    dsimp only at hs ⊢
    unfold m55_l0
    dsimp only
    cases a with
    | nil =>
      cases b with
      | nil => left; simp [mergeV]
      | cons y b =>
        right
        simp only [List.length_nil, List.length_cons] at hs
        refine ⟨(o ++ [y], [], b), ?_, (by simp only [List.length_append, List.length_cons, List.length_nil]; omega), (by simp only [List.length_cons, List.length_nil]; omega), by simp [mergeV_nil_l]⟩
        have e1 : decide ((0 : Int) < ((([] : List LV).length : Nat) : Int)) = false := rfl
        have e2 : decide ((0 : Int) < (((y :: b).length : Nat) : Int)) = true := decide_eq_true (by rw [List.length_cons]; omega)
        have e3 : ((((y :: b).length : Nat) : Int) == 0) = false := by simp; omega
        have e4 : ((((([] : List LV)).length : Nat) : Int) == 0) = true := rfl
        have g1 : Nat.ble (1 : Int).toNat (y :: b).length = true := by simp [Nat.ble]
        have g2 : decide ((0 : Int) ≤ 1) = true := rfl
        have i1 : idx (y :: b) 0 = some y := rfl
        simp only [e1, e2, e3, e4, g1, g2, i1, cond_false, cond_true, Option.bind_some, guard_t]
        rw [guard_t (ble_t (by simp only [List.length_cons, List.length_nil]; omega))]
        rfl
    | cons x a =>
      have e1 : decide ((0 : Int) < (((x :: a).length : Nat) : Int)) = true := decide_eq_true (by rw [List.length_cons]; omega)
      have e4 : ((((x :: a).length : Nat) : Int) == 0) = false := by simp; omega
      right
      rw [e1, cond_true, Option.bind_some, cond_true]
      cases b with
      | nil =>
        simp only [List.length_nil, List.length_cons] at hs
        refine ⟨(o ++ [x], a, []), ?_, (by simp only [List.length_append, List.length_cons, List.length_nil]; omega), (by simp only [List.length_cons, List.length_nil]; omega), by simp [mergeV_nil_r]⟩
        have e3 : (((([] : List LV).length : Nat) : Int) == 0) = true := rfl
        rw [e3, cond_true, Option.bind_some, cond_true]
        show Option.bind (some x) _ = _
        rw [Option.bind_some, guard_t (by simp [Nat.ble]), guard_t (ble_t (by simp only [List.length_cons, List.length_nil]; omega))]
        rfl
      | cons y b =>
        simp only [List.length_cons] at hs
        have e3 : ((((y :: b).length : Nat) : Int) == 0) = false := by simp; omega
        have g1 : Nat.ble (1 : Int).toNat (x :: a).length = true := by simp [Nat.ble]
        have g2 : Nat.ble (1 : Int).toNat (y :: b).length = true := by simp [Nat.ble]
        have i1 : idx (x :: a) 0 = some x := rfl
        have i2 : idx (y :: b) 0 = some y := rfl
        have d1 : decide ((0 : Int) ≤ 1) = true := rfl
        rw [e3, cond_false, e4, cond_false, i1, i2, g1, g2, d1, cond_true]
        simp only [Option.bind_some]
        by_cases h1 : x.1 < y.1
        · rw [decide_eq_true h1]
          refine ⟨(o ++ [x], a, y :: b), ?_, (by simp only [List.length_append, List.length_cons, List.length_nil]; omega), (by simp only [List.length_cons]; omega), ?_⟩
          · simp only [cond_true, guard_t]; rw [guard_t (ble_t (by simp only [List.length_cons, List.length_nil]; omega))]; rfl
          · simp [mergeV, h1]
        · rw [decide_eq_false h1, cond_false]
          by_cases h2 : y.1 < x.1
          · rw [decide_eq_true h2]
            refine ⟨(o ++ [y], x :: a, b), ?_, (by simp only [List.length_append, List.length_cons, List.length_nil]; omega), (by simp only [List.length_cons]; omega), ?_⟩
            · simp only [cond_true, guard_t]; rw [guard_t (ble_t (by simp only [List.length_cons, List.length_nil]; omega))]; rfl
            · simp [mergeV, h1, h2]
          · rw [decide_eq_false h2]
            refine ⟨(o ++ [(x.1, max x.2 y.2)], a, b), ?_, (by simp only [List.length_append, List.length_cons, List.length_nil]; omega), (by simp only [List.length_cons]; omega), ?_⟩
            · rw [cond_false, cond_true, guard_t (b := true) rfl, guard_t (b := true) rfl, guard_t (ble_t (by simp only [List.length_cons, List.length_nil]; omega))]; rfl
            · simp [mergeV, h1, h2]) FUEL ([], a, b) (by simpa using hab) (by dsimp only; unfold FUEL; omega)
  simpa using key
theorem m55_eq {A B : Lvl} (ha : A.vs.length ≤ 100000) (hb : B.vs.length ≤ 100000) : m55 A B = some (maxL A B) := by
  unfold m55
  rw [guard_t (ble_t ha)]
  cases hA : validB A with
  | false => rw [maxL_inv (by rw [hA]; rfl)]; rfl
  | true =>
    simp only [Bool.not_true, cond_false]
    rw [guard_t (ble_t hb)]
    cases hB : validB B with
    | false => rw [maxL_inv (by rw [hB]; simp)]; rfl
    | true =>
      simp only [Bool.not_true, Option.bind_some, cond_false]
      rw [m55_loop _ _ (by omega)]
      simp only [Option.bind_some]
      have gA := good_valid hA; have gB := good_valid hB
      have g := good_merge gA gB
      rw [guard_t (ble_t g.wf.len), maxL_ok hA hB, join_trim gA gB]
      have ht : topL ⟨max A.c B.c, mergeV A.vs B.vs⟩ ≤ 100 := topL_le.2 ⟨by have := valid_c hA; have := valid_c hB; show max A.c B.c ≤ 100; omega, fun x hx => (merge_src gA.wf gB.wf hx).elim (fun h => (okV_valid hA h).2.2.2) fun h => (okV_valid hB h).2.2.2⟩
      rw [(lim_ok (lim_err.2 ht)).1]

/-! ### the reference's Assign with a lent slice -/
theorem firstR_const {α β : Type} {p : α → Bool} {b : β} : ∀ (l : List α) (k : Nat), firstR (fun _ x => if !(p x) then some b else none) l k = if l.all p then none else some b
  | [], _ => rfl
  | x :: l, k => by
    unfold firstR
    cases hx : p x with
    | true => simp only [Bool.not_true, Bool.false_eq_true, if_false]; rw [firstR_const l (k + 1)]; simp [hx]
    | false => simp [hx]
theorem m50o_l1_eq {ms : List Lvl} (hf : fitB ms) : loopN (m50o_l1 ms.length ms) FUEL 0 = some (sumR (if ms.all validB then none else some false)) := by
  rw [← firstR_const (p := validB) (b := false) ms 0]
  exact scan_loop (l := ms) _ (by have := hf.1; omega) (fun k x hx => by
    have hk := (List.getElem?_eq_some_iff.1 hx).1
    unfold m50o_l1
    rw [decide_eq_true (by omega : (k : Int) < (ms.length : Nat)), cond_true, idx_nat (Int.natCast_nonneg _) (by simpa using hx), Option.bind_some, guard_t (by simp), guard_t (ble_t (hf.2 x (List.mem_of_getElem? hx)))]
    cases validB x <;> rfl) (by unfold m50o_l1; rw [decide_eq_false (by omega)]; rfl)

theorem m50o_l0_eq {L : Lvl} {ms : List Lvl} (hL : validB L = true) (hm : ms.all validB = true) (hl : ms.length ≤ 100000) :
    loopN (m50o_l0 L ms.length ms) FUEL (0, L.c, []) = some (if (repL L ms).2 = 0 then .inl ((repL L ms).1.c, (repL L ms).1.vs) else .inr (fl (repL L ms))) := by
  have hlen := (wf_valid hL).len
  have key := loop_spec (step := m50o_l0 L ms.length ms) (fun s => 0 ≤ s.1 ∧ s.1 ≤ L.vs.length ∧ WF s.2.2) (fun s => L.vs.length - s.1.toNat) (fun s => if (repGo ms (L.vs.drop s.1.toNat) ⟨s.2.1, s.2.2⟩).2 = 0 then .inl ((repGo ms (L.vs.drop s.1.toNat) ⟨s.2.1, s.2.2⟩).1.c, (repGo ms (L.vs.drop s.1.toNat) ⟨s.2.1, s.2.2⟩).1.vs) else .inr (fl (repGo ms (L.vs.drop s.1.toNat) ⟨s.2.1, s.2.2⟩))) (fun s hs => by
    obtain ⟨i, c, vs⟩ := s
    obtain ⟨h0, h1, hw⟩ := hs
    obtain ⟨k, rfl⟩ := Int.eq_ofNat_of_zero_le h0
    dsimp only at h1 hw ⊢
    simp only [Int.toNat_natCast]
    unfold m50o_l0
    dsimp only
    rcases Nat.lt_or_ge k L.vs.length with hk | hk
    · obtain ⟨v, hx⟩ : ∃ v, L.vs[k]? = some v := ⟨_, List.getElem?_eq_getElem hk⟩
      have hv : okV v := valid_okVar hL hx
      have hwf := repStep_wf hm (out := ⟨c, vs⟩) hw hv
      rw [decide_eq_true (by omega : (k : Int) < L.vs.length), cond_true, idx_nat (Int.natCast_nonneg _) (by simpa using hx), Option.bind_some, w64_neg ⟨hv.1, hv.2.1⟩, hasV_b, Option.bind_some]
      by_cases hh : hasV ms v
      · have hV := valV_valid hm hh
        have es := repStep_has (out := ⟨c, vs⟩) hh
        rw [decide_eq_true hh, cond_true, idx_nat (by have := hh.1; omega) (valV_at hh), Option.bind_some, guard_t (by simp), guard_t (ble_t (wf_valid hV).len)]
        by_cases he : (plusL (valV ms v) v.2).2 = 0
        · right
          rw [if_pos he] at es
          have hb : ((plusL (valV ms v) v.2).2 != 0) = false := by rw [he]; rfl
          rw [es] at hwf
          rw [hb, cond_false, guard_t (by rw [ble_t hw.len, cond_true]; exact ble_t (wf_plus (wf_valid hV)).len)]
          refine ⟨_, rfl, ⟨?_, ?_, hwf⟩, ?_, ?_⟩
          · rw [w64_next hk (by omega)]; exact Int.natCast_nonneg _
          · rw [w64_next hk (by omega)]; dsimp only; omega
          · rw [w64_next hk (by omega)]; simp only [Int.toNat_natCast]; omega
          · rw [w64_next hk (by omega)]
            simp only [Int.toNat_natCast]
            rw [repGo_at hx (by rw [es]), es]
        · left
          rw [if_neg he] at es
          have hb : ((plusL (valV ms v) v.2).2 != 0) = true := by simpa using he
          rw [hb, cond_true, repGo_err hx (by rw [es]; exact he), es, if_neg he]
          rfl
      · right
        rw [decide_eq_false hh, cond_false]
        have es : repStep ms ⟨c, vs⟩ v = (joinL ⟨c, vs⟩ ⟨0, [v]⟩, 0) := if_neg hh
        rw [es] at hwf
        rw [guard_t (by rw [ble_t hw.len, cond_true]; rfl)]
        refine ⟨_, rfl, ⟨?_, ?_, hwf⟩, ?_, ?_⟩
        · rw [w64_next hk (by omega)]; exact Int.natCast_nonneg _
        · rw [w64_next hk (by omega)]; dsimp only; omega
        · rw [w64_next hk (by omega)]; simp only [Int.toNat_natCast]; omega
        · rw [w64_next hk (by omega)]
          simp only [Int.toNat_natCast]
          rw [repGo_at hx (by rw [es]), es]
    · left
      rw [decide_eq_false (by omega), cond_false, List.drop_eq_nil_of_le hk]
      rfl) FUEL (0, L.c, []) ⟨Int.le_refl _, by dsimp only; omega, wf_nil⟩ (by dsimp only; unfold FUEL; omega)
  rw [key]
  rfl

theorem m50o_eq {L : Lvl} {ms : List Lvl} (hL : L.vs.length ≤ 100000) (hf : fitB ms) : m50o L ms ms.length = some (fl (assL L ms)) := by
  unfold m50o
  rw [guard_t (ble_t hL)]
  cases hv : validB L with
  | false => rw [assL_inv (by rw [hv]; rfl)]; rfl
  | true =>
    simp only [Bool.not_true, cond_false]
    rw [m50o_l1_eq hf]
    cases hm : ms.all validB with
    | false => rw [assL_inv (by rw [hm]; simp)]; rfl
    | true =>
      simp only [if_true, sumR, Option.bind_some, Sum.elim_inl, Bool.not_true, cond_false]
      rw [m50o_l0_eq hv hm hf.1, assL_ok hv hm]
      by_cases he : (repL L ms).2 = 0
      · rw [if_pos he]
        simp only [Option.bind_some, Sum.elim_inl]
        unfold fl
        rw [he]
      · rw [if_neg he]; rfl
end Go.Proofs.Ytkimijmiphkddaa
