/- Plain law: the reference Holds says the same. -/
import Derived.Test.YtkimijmiphkddaaPh
import Derived.Test.YtkimijmiphkddaaPg0
import Derived.Test.YtkimijmiphkddaaMb
namespace Go.Proofs.Ytkimijmiphkddaa
open Go.RowKit
set_option linter.unusedSimpArgs false
set_option linter.unusedVariables false

theorem m73_eq {L : Lvl} {ms : List Lvl} (hL : validB L = true) (hm : ms.all validB = true) (hl : ms.length ≤ 100000) : m73 L ms true = some (repL L ms) := by
  unfold m73
  have hlen := (wf_valid hL).len
  have key := loop_spec (step := m73_l0 L true ms) (fun s => 0 ≤ s.1 ∧ s.1 ≤ L.vs.length ∧ WF s.2.2) (fun s => L.vs.length - s.1.toNat) (fun s => if (repGo ms (L.vs.drop s.1.toNat) ⟨s.2.1, s.2.2⟩).2 = 0 then .inl ((repGo ms (L.vs.drop s.1.toNat) ⟨s.2.1, s.2.2⟩).1.c, (repGo ms (L.vs.drop s.1.toNat) ⟨s.2.1, s.2.2⟩).1.vs) else .inr (repGo ms (L.vs.drop s.1.toNat) ⟨s.2.1, s.2.2⟩)) (fun s hs => by
    obtain ⟨i, c, vs⟩ := s
    obtain ⟨h0, h1, hw⟩ := hs
    obtain ⟨k, rfl⟩ := Int.eq_ofNat_of_zero_le h0
    dsimp only at h1 hw ⊢
    simp only [Int.toNat_natCast]
    unfold m73_l0
    dsimp only
    rcases Nat.lt_or_ge k L.vs.length with hk | hk
    · obtain ⟨v, hx⟩ : ∃ v, L.vs[k]? = some v := ⟨_, List.getElem?_eq_getElem hk⟩
      have hv : okV v := valid_okVar hL hx
      have hwf := repStep_wf hm (out := ⟨c, vs⟩) hw hv
      rw [decide_eq_true (by omega : (k : Int) < L.vs.length), cond_true, idx_nat (Int.natCast_nonneg _) (by simpa using hx), Option.bind_some, cond_true, w64_neg ⟨hv.1, hv.2.1⟩, hasV_b, Option.bind_some]
      by_cases hh : hasV ms v
      · have hV := valV_valid hm hh
        have es := repStep_has (out := ⟨c, vs⟩) hh
        rw [decide_eq_true hh, cond_true, idx_nat (by have := hh.1; omega) (valV_at hh), Option.bind_some, guard_t (ble_t (wf_valid hV).len)]
        by_cases he : (plusL (valV ms v) v.2).2 = 0
        · right
          rw [if_pos he] at es
          have hb : ((plusL (valV ms v) v.2).2 != 0) = false := by rw [he]; rfl
          rw [es] at hwf
          rw [hb, cond_false, guard_t (by rw [ble_t hw.len, cond_true]; exact ble_t (wf_plus (wf_valid hV)).len)]
          refine ⟨_, rfl, ⟨?_, ?_, hwf⟩, ?_, ?_⟩
          · rw [w64_next hk (by omega)]; exact Int.natCast_nonneg _
          · rw [w64_next hk (by omega)]; dsimp only; omega
          · rw [w64_next hk (by omega)]; simp only [Int.toNat_natCast]; omega
          · rw [w64_next hk (by omega)]
            simp only [Int.toNat_natCast]
            rw [repGo_at hx (by rw [es]), es]
        · left
          rw [if_neg he] at es
          have hb : ((plusL (valV ms v) v.2).2 != 0) = true := by simpa using he
          rw [hb, cond_true, repGo_err hx (by rw [es]; exact he), es, if_neg he]
      · right
        rw [decide_eq_false hh, cond_false]
        have es : repStep ms ⟨c, vs⟩ v = (joinL ⟨c, vs⟩ ⟨0, [v]⟩, 0) := if_neg hh
        rw [es] at hwf
        rw [guard_t (by rw [ble_t hw.len, cond_true]; rfl)]
        refine ⟨_, rfl, ⟨?_, ?_, hwf⟩, ?_, ?_⟩
        · rw [w64_next hk (by omega)]; exact Int.natCast_nonneg _
        · rw [w64_next hk (by omega)]; dsimp only; omega
        · rw [w64_next hk (by omega)]; simp only [Int.toNat_natCast]; omega
        · rw [w64_next hk (by omega)]
          simp only [Int.toNat_natCast]
          rw [repGo_at hx (by rw [es]), es]
    · left
      rw [decide_eq_false (by omega), cond_false, List.drop_eq_nil_of_le hk]
      rfl) FUEL (0, L.c, []) ⟨Int.le_refl _, by dsimp only; omega, wf_nil⟩ (by dsimp only; unfold FUEL; omega)
  dsimp only
  rw [key]
  show Option.bind (some (if (repGo ms L.vs ⟨L.c, []⟩).2 = 0 then Sum.inl ((repGo ms L.vs ⟨L.c, []⟩).1.c, (repGo ms L.vs ⟨L.c, []⟩).1.vs) else Sum.inr (repGo ms L.vs ⟨L.c, []⟩))) _ = some (repGo ms L.vs ⟨L.c, []⟩)
  by_cases he : (repGo ms L.vs ⟨L.c, []⟩).2 = 0
  · rw [if_pos he]
    simp only [Option.bind_some, Sum.elim_inl]
    rw [← he]
  · rw [if_neg he]; rfl

theorem m50_eq {L : Lvl} {ms : List Lvl} (hL : L.vs.length ≤ 100000) (hf : fitB ms) : m50 L ms = some (assL L ms) := by
  unfold m50
  rw [guard_t (ble_t hL)]
  cases hv : validB L with
  | false => rw [assL_inv (by rw [hv]; rfl)]; rfl
  | true =>
    simp only [Bool.not_true, cond_false]
    rw [guard_t (fitB_lens hf)]
    cases hm : ms.all validB with
    | false => rw [assL_inv (by rw [hm]; simp)]; rfl
    | true =>
      simp only [Bool.not_true, Option.bind_some, cond_false]
      rw [m73_eq hv hm hf.1, assL_ok hv hm]
      rfl

theorem m25_l0_eq {ms : List Lvl} (hf : fitB ms) : loopN (m25_l0 ms) FUEL 0 = some (sumR (firstR (fun _ x => if !(valB x) then some (false, (3 : Int)) else none) ms 0)) :=
  scan_loop (l := ms) _ (by have := hf.1; omega) (fun k x hx => by
    have hk := (List.getElem?_eq_some_iff.1 hx).1
    have hl := hf.2 x (List.mem_of_getElem? hx)
    unfold m25_l0
    rw [decide_eq_true (by omega : (k : Int) < ms.length), cond_true, idx_nat (Int.natCast_nonneg _) (by simpa using hx), Option.bind_some, m43_eq hl, Option.bind_some, Option.bind_some, guard_t (ble_t hl)]
    unfold valB
    cases hv : validB x with
    | false => rfl
    | true =>
      simp only [Bool.not_true, cond_false]
      rw [firstL_any (wf_valid hv), Option.bind_some]
      cases x.vs.any fun x => decide (x.1 < 0) <;> rfl) (by unfold m25_l0; rw [decide_eq_false (by omega)]; rfl)

theorem m25_l1_eq {ms : List Lvl} {bs : List Bnd} (hf : fitB ms) (hs : shortVs bs) : loopN (m25_l1 bs ms) FUEL (true, 0) = some (exitGo (holdG ms) Sum.inl bs true) :=
  exit_loopG (step := m25_l1 bs ms) (l := bs) (fun i a => (a, i)) Sum.inl (holdG ms) (fun _ _ => True) (by have := hs.1; omega) (fun k b a hb _ => by
    have hk := (List.getElem?_eq_some_iff.1 hb).1
    obtain ⟨g1, g2⟩ := hs.2 b (List.mem_of_getElem? hb)
    have e : m25_l1 bs ms (a, (k : Int)) = some (match holdG ms a b with
        | .inl r => LO.done r
        | .inr c => LO.next (c, w64 ((k : Int) + 1))) := by
      unfold m25_l1
      dsimp only
      rw [decide_eq_true (by omega : (k : Int) < bs.length), cond_true, idx_nat (Int.natCast_nonneg _) (by simpa using hb), Option.bind_some, m50_eq g1 hf, Option.bind_some, Option.bind_some, m50_eq g2 hf, Option.bind_some]
      exact hold_step
    cases hg : holdG ms a b with
    | inl r => rw [hg] at e; exact e
    | inr c => rw [hg] at e; exact ⟨e, trivial⟩) (fun s _ => by unfold m25_l1; dsimp only; rw [decide_eq_false (by omega)]; rfl) true trivial

theorem m25_eq {ms : List Lvl} {bs : List Bnd} (hf : fitB ms) (hs : shortVs bs) : m25 ms bs = some (holdsL ms bs) := hold_end (m25_l0_eq hf) (m14_eq _ _ hs) (m25_l1_eq hf hs)

end Go.Proofs.Ytkimijmiphkddaa
