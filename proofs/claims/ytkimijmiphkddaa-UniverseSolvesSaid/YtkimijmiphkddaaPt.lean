/- Plain laws: a bound is visited; raise and visit do the same; values grow. -/
import Derived.Test.YtkimijmiphkddaaPs
namespace Go.Proofs.Ytkimijmiphkddaa
open Go.RowKit
set_option linter.unusedSimpArgs false
set_option linter.unusedVariables false

/-! ### Runs over a list with early failure -/
def runG {α σ ε : Type} (g : σ → α → ε ⊕ σ) : List α → σ → ε ⊕ σ
  | [], s => .inr s
  | a :: l, s => match g s a with
    | .inl e => .inl e
    | .inr s' => runG g l s'
theorem run_exit {α σ ε β : Type} (g : σ → α → ε ⊕ σ) (err : ε → β) (fin : σ → β) : ∀ (l : List α) (s : σ), exitGo (fun s a => match g s a with
    | .inl e => .inl (err e)
    | .inr s' => .inr s') fin l s = Sum.elim err fin (runG g l s)
  | [], s => rfl
  | a :: l, s => by
    unfold exitGo runG
    cases h : g s a with
    | inl e => rfl
    | inr s' => exact run_exit g err fin l s'
theorem run_loop {α σ τ β ε : Type} {step : τ → Option (LO τ β)} {l : List α} (mk : Int → σ → τ) (fin : σ → β) (err : ε → β) (g : σ → α → ε ⊕ σ) (P : Nat → σ → Prop) (hlen : l.length ≤ 900000)
    (hin : ∀ (k : Nat) (x : α) (s : σ), l[k]? = some x → P k s → (match g s x with
      | .inl r => step (mk (k : Int) s) = some (.done (err r))
      | .inr s' => step (mk (k : Int) s) = some (.next (mk (w64 ((k : Int) + 1)) s')) ∧ P (k + 1) s'))
    (hout : ∀ s, P l.length s → step (mk (l.length : Int) s) = some (.done (fin s))) (s0 : σ) (h0 : P 0 s0) : loopN step FUEL (mk 0 s0) = some (Sum.elim err fin (runG g l s0)) := by
  rw [← run_exit g err fin l s0]
  refine exit_loopG mk fin _ P hlen (fun k x s hx hp => ?_) hout s0 h0
  have h := hin k x s hx hp
  cases hg : g s x with
  | inl e => rw [hg] at h; exact h
  | inr s' => rw [hg] at h; exact h
theorem run_inv {α σ ε : Type} {g : σ → α → ε ⊕ σ} {R : σ → σ → Prop} {Q : σ → Prop} (r : ∀ s, Q s → R s s) (t : ∀ a b c, R a b → R b c → R a c) : ∀ (l : List α), (∀ s x s', x ∈ l → Q s → g s x = .inr s' → Q s' ∧ R s s') → ∀ s s', Q s → runG g l s = .inr s' → Q s' ∧ R s s'
  | [], _, s, s', hq, h => by cases h; exact ⟨hq, r s hq⟩
  | a :: l, hs, s, s', hq, h => by
    unfold runG at h
    cases hg : g s a with
    | inl e => rw [hg] at h; cases h
    | inr s1 =>
      rw [hg] at h
      obtain ⟨q1, r1⟩ := hs s a s1 List.mem_cons_self hq hg
      obtain ⟨q2, r2⟩ := run_inv r t l (fun s x s' hx => hs s x s' (List.mem_cons_of_mem _ hx)) s1 s' q1 h
      exact ⟨q2, t _ _ _ r1 r2⟩
theorem run_append {α σ ε : Type} (g : σ → α → ε ⊕ σ) : ∀ (a b : List α) (s : σ), runG g (a ++ b) s = Sum.elim Sum.inl (fun s' => runG g b s') (runG g a s)
  | [], b, s => rfl
  | x :: a, b, s => by
    show (match g s x with
      | .inl e => (Sum.inl e : ε ⊕ σ)
      | .inr s' => runG g (a ++ b) s') = Sum.elim Sum.inl (fun s' => runG g b s') (match g s x with
      | .inl e => (Sum.inl e : ε ⊕ σ)
      | .inr s' => runG g a s')
    cases g s x with
    | inl e => rfl
    | inr s' => exact run_append g a b s'
theorem run_map {α β σ ε : Type} (g : σ → β → ε ⊕ σ) (f : α → β) : ∀ (l : List α) (s : σ), runG g (l.map f) s = runG (fun s a => g s (f a)) l s
  | [], s => rfl
  | x :: l, s => by
    show (match g s (f x) with
      | .inl e => (Sum.inl e : ε ⊕ σ)
      | .inr s' => runG g (l.map f) s') = (match g s (f x) with
      | .inl e => (Sum.inl e : ε ⊕ σ)
      | .inr s' => runG (fun s a => g s (f a)) l s')
    cases g s (f x) with
    | inl e => rfl
    | inr s' => exact run_map g f l s'

/-! ### Values, bounds, parts -/
theorem valB_iff {L : Lvl} : valB L = true ↔ validB L = true ∧ ∀ x ∈ L.vs, 0 ≤ x.1 := by
  simp only [valB, Bool.and_eq_true, Bool.not_eq_true', List.any_eq_false, decide_eq_true_eq, Int.not_lt]
/-- values for n metavariables -/
structure Vals (n : Nat) (ws : List Lvl) : Prop where
  len : ws.length = n
  val : ∀ w ∈ ws, valB w = true
  le : n ≤ 100000
theorem Vals.valid {n : Nat} {ws : List Lvl} (h : Vals n ws) : ws.all validB = true := List.all_eq_true.2 fun w hw => (valB_iff.1 (h.val w hw)).1
theorem Vals.fit {n : Nat} {ws : List Lvl} (h : Vals n ws) : fitB ws := ⟨by rw [h.len]; exact h.le, fun w hw => (wf_valid (valB_iff.1 (h.val w hw)).1).len⟩
/-- a level whose metavariables are less than n -/
structure LvlIn (n : Nat) (L : Lvl) : Prop where
  valid : validB L = true
  lt : ∀ v ∈ L.vs, v.1 < 0 → -1 - v.1 < n
theorem LvlIn.len {n : Nat} {L : Lvl} (h : LvlIn n L) : L.vs.length ≤ 100000 := (wf_valid h.valid).len
theorem LvlIn.has {n : Nat} {L : Lvl} (h : LvlIn n L) {ws : List Lvl} (hw : Vals n ws) {v : LV} (hv : v ∈ L.vs) : hasV ws v ↔ v.1 < 0 := ⟨fun k => k.1, fun k => ⟨k, by rw [hw.len]; exact h.lt v hv k⟩⟩
theorem valV_val {n : Nat} {ws : List Lvl} (hw : Vals n ws) {v : LV} (h : hasV ws v) : valB (valV ws v) = true := hw.val _ (List.mem_of_getElem? (valV_at h))
theorem ass_val {n : Nat} {L : Lvl} (h : LvlIn n L) {ws : List Lvl} (hw : Vals n ws) (he : (assL L ws).2 = 0) : valB (assL L ws).1 = true := by
  obtain ⟨e1, -, e3, -⟩ := ass_ok h.valid hw.valid he
  refine valB_iff.2 ⟨e3, fun x hx => ?_⟩
  rw [e1, trim_vs] at hx
  obtain ⟨v, hv, ⟨hh, y, hy, rfl⟩ | ⟨hh, rfl⟩⟩ := gath_src h.valid hw.valid hx
  · exact (valB_iff.1 (valV_val hw hh)).2 y hy
  · exact Int.not_lt.1 fun hn => hh ((h.has hw hv).2 hn)

/-- one part: a number or one variable -/
structure PartL (p : Lvl) : Prop where
  val : valB p = true
  one : (∃ c, p = ⟨c, []⟩) ∨ ∃ v, p = ⟨0, [v]⟩
theorem part_c {c : Int} (h : 0 ≤ c ∧ c ≤ 100) : PartL ⟨c, []⟩ := ⟨valB_iff.2 ⟨by simp [validB, covB, ascB, h], fun x hx => by cases hx⟩, .inl ⟨c, rfl⟩⟩
theorem part_v {v : LV} (h : okV v) (h0 : 0 ≤ v.1) : PartL ⟨0, [v]⟩ := ⟨valB_iff.2 ⟨by simp [validB, covB, ascB, okVar]; unfold okV at h; omega, fun x hx => by simp at hx; rw [hx]; exact h0⟩, .inr ⟨v, rfl⟩⟩
theorem mem_parts {L : Lvl} {v : LV} (h : v ∈ L.vs) : (⟨0, [v]⟩ : Lvl) ∈ partsL L := List.mem_append_right _ (List.mem_map.2 ⟨v, h, rfl⟩)
theorem parts_part {L : Lvl} (h : valB L = true) {p : Lvl} (hp : p ∈ partsL L) : PartL p := by
  obtain ⟨h1, h2⟩ := valB_iff.1 h
  unfold partsL at hp
  rcases List.mem_append.1 hp with hp | hp
  · split at hp
    · simp at hp; rw [hp]; exact part_c (valid_c h1)
    · cases hp
  · obtain ⟨v, hv, rfl⟩ := List.mem_map.1 hp
    exact part_v (okV_valid h1 hv) (h2 v hv)
theorem low_part {p : Lvl} (h : PartL p) {k : Int} (hk : 0 ≤ k ∧ k ≤ 100) : PartL (lowL p k) := by
  obtain ⟨h1, h2⟩ := valB_iff.1 h.val
  rcases h.one with ⟨c, rfl⟩ | ⟨v, rfl⟩
  · have := valid_c h1
    dsimp only at this
    exact part_c (c := max 0 (c - k)) ⟨by omega, by omega⟩
  · have hv := okV_valid h1 (v := v) List.mem_cons_self
    unfold okV at hv
    exact part_v (v := (v.1, max 0 (v.2 - k))) ⟨by dsimp only; omega, by dsimp only; omega, by dsimp only; omega, by dsimp only; omega⟩ (h2 v List.mem_cons_self)
theorem parts_le {L H : Lvl} (h : valB L = true) (hH : validB H = true) (hp : ∀ p ∈ partsL L, leqB p H = true) : leqB L H = true := by
  obtain ⟨h1, h2⟩ := valB_iff.1 h
  refine leqB_iff.2 ⟨h1, hH, ?_, fun x hx => ?_⟩
  · by_cases hc : 0 < L.c ∨ L.vs = []
    · exact (leqB_iff.1 (hp ⟨L.c, []⟩ (by unfold partsL; rw [if_pos hc]; simp))).2.2.1
    · have := (valid_c hH).1
      have := top_ge H.c H.vs
      have : ¬ 0 < L.c := fun k => hc (.inl k)
      unfold topL; omega
  · exact (leqB_iff.1 (hp ⟨0, [x]⟩ (mem_parts hx))).2.2.2 x List.mem_cons_self

theorem first_mem {L : Lvl} (h : WF L.vs) (h0 : ¬ (firstL L).1 < 0) : ∃ v ∈ L.vs, v.1 < 0 ∧ firstL L = (-1 - v.1, v.2) := by
  rw [firstL_eq h] at h0 ⊢
  cases hf : (L.vs.filter fun x => decide (x.1 < 0)).getLast? with
  | none => rw [hf] at h0; exact absurd (by decide) h0
  | some x =>
    have hx := List.mem_of_getLast? hf
    rw [List.mem_filter] at hx
    exact ⟨x, hx.1, by simpa using hx.2, rfl⟩
theorem first_at {n : Nat} {L : Lvl} (h : LvlIn n L) {ws : List Lvl} (hw : Vals n ws) (h0 : ¬ (firstL L).1 < 0) : ∃ (m : Nat) (v : LV), firstL L = ((m : Int), v.2) ∧ v ∈ L.vs ∧ hasV ws v ∧ ws[m]? = some (valV ws v) := by
  obtain ⟨v, hv, hn, e⟩ := first_mem (wf_valid h.valid) h0
  have hh := (h.has hw hv).2 hn
  refine ⟨(-1 - v.1).toNat, v, ?_, hv, hh, valV_at hh⟩
  rw [e, Int.toNat_of_nonneg (by omega)]

/-! ### A bound is visited -/
def visG (hi : Lvl) (s : List Lvl × Bool) (p : Lvl) : (List Lvl × Bool) ⊕ (List Lvl × Bool) :=
  if (assL hi s.1).2 = 0 then
    (if leqB p (assL hi s.1).1 then .inr s
    else if (firstL hi).1 < 0 then .inl s
    else .inr (s.1.set (firstL hi).1.toNat (joinL (s.1.getD (firstL hi).1.toNat ⟨0, []⟩) (lowL p (firstL hi).2)), true))
  else .inl s
def visL (b : Bnd) (ws : List Lvl) : (List Lvl × Bool) ⊕ (List Lvl × Bool) := if (assL b.lo ws).2 = 0 then runG (visG b.hi) (partsL (assL b.lo ws).1) (ws, false) else .inl (ws, false)

theorem val_join {A B : Lvl} (ha : valB A = true) (hb : valB B = true) : valB (joinL A B) = true := by
  obtain ⟨a1, a2⟩ := valB_iff.1 ha
  obtain ⟨b1, b2⟩ := valB_iff.1 hb
  refine valB_iff.2 ⟨join_valid a1 b1, fun x hx => ?_⟩
  rw [joinL_vs] at hx
  exact (merge_src (wf_valid a1) (wf_valid b1) hx).elim (a2 x) (b2 x)
theorem Vals.set {n : Nat} {ws : List Lvl} (h : Vals n ws) {m : Nat} {x : Lvl} (hx : valB x = true) : Vals n (ws.set m x) :=
  ⟨by rw [List.length_set, h.len], fun w hw => (List.mem_or_eq_of_mem_set hw).elim (h.val w) (fun e => e ▸ hx), h.le⟩

/-- one step of a visit changes nothing, or raises one value -/
theorem vis_step {n : Nat} {hi : Lvl} (h : LvlIn n hi) {s s' : List Lvl × Bool} (hs : Vals n s.1) {p : Lvl} (hp : PartL p) (e : visG hi s p = .inr s') :
    (s' = s ∧ leqB p (assL hi s.1).1 = true ∧ (assL hi s.1).2 = 0) ∨ (leqB p (assL hi s.1).1 = false ∧ (assL hi s.1).2 = 0 ∧ ∃ (m : Nat) (v : LV), firstL hi = ((m : Int), v.2) ∧ v ∈ hi.vs ∧ hasV s.1 v ∧ s.1[m]? = some (valV s.1 v) ∧ s' = (s.1.set m (joinL (valV s.1 v) (lowL p v.2)), true)) := by
  unfold visG at e
  by_cases he : (assL hi s.1).2 = 0
  · rw [if_pos he] at e
    cases hl : leqB p (assL hi s.1).1 with
    | true => rw [hl, if_pos rfl] at e; cases e; exact .inl ⟨rfl, rfl, he⟩
    | false =>
      rw [hl, if_neg Bool.false_ne_true] at e
      by_cases hf : (firstL hi).1 < 0
      · rw [if_pos hf] at e; cases e
      · rw [if_neg hf] at e
        obtain ⟨m, v, e1, e2, e3, e4⟩ := first_at h hs hf
        refine .inr ⟨rfl, he, m, v, e1, e2, e3, e4, ?_⟩
        cases e
        rw [e1]
        dsimp only
        rw [Int.toNat_natCast, List.getD_eq_getElem?_getD, e4]
        rfl
  · rw [if_neg he] at e; cases e
theorem vis_vals {n : Nat} {hi : Lvl} (h : LvlIn n hi) {s s' : List Lvl × Bool} (hs : Vals n s.1) {p : Lvl} (hp : PartL p) (e : visG hi s p = .inr s') : Vals n s'.1 := by
  rcases vis_step h hs hp e with ⟨rfl, -⟩ | ⟨-, -, m, v, e1, e2, e3, e4, rfl⟩
  · exact hs
  · have hv := okV_valid h.valid e2
    exact hs.set (val_join (valV_val hs e3) (low_part hp ⟨hv.2.2.1, hv.2.2.2⟩).val)

/-! ### The reference visits -/
theorem m32o_l0_eq {n : Nat} {b : Bnd} (hb : LvlIn n b.hi) {ps : List Lvl} (hp : ∀ p ∈ ps, PartL p) (hl : ps.length ≤ 900000) {ws : List Lvl} (hw : Vals n ws) :
    loopN (m32o_l0 ps b n) FUEL (false, 0, ws) = some (Sum.elim (fun s => .inr (false, 15, s.1)) (fun s => .inl (s.2, s.1)) (runG (visG b.hi) ps (ws, false))) := by
  have key := run_loop (step := m32o_l0 ps b n) (l := ps) (fun i (s : List Lvl × Bool) => (s.2, i, s.1)) (fun s => .inl (s.2, s.1)) (fun (s : List Lvl × Bool) => .inr (false, 15, s.1)) (visG b.hi) (fun _ s => Vals n s.1) hl (fun k p s hx hs => by
    have hk := (List.getElem?_eq_some_iff.1 hx).1
    have hP := hp p (List.mem_of_getElem? hx)
    have hPv := (valB_iff.1 hP.val).1
    have ea : m50o b.hi s.1 n = some (fl (assL b.hi s.1)) := by
      have := m50o_eq (L := b.hi) hb.len hs.fit
      rwa [hs.len] at this
    have ei : idx ps (k : Int) = some p := idx_nat (Int.natCast_nonneg _) (by simpa using hx)
    have hv := fun s' => vis_vals (s' := s') hb hs hP
    have key : ∀ r, visG b.hi s p = r → m32o_l0 ps b n (s.2, (k : Int), s.1) = some (Sum.elim (fun s => .done (.inr (false, 15, s.1))) (fun s => .next (s.2, w64 ((k : Int) + 1), s.1)) r) := by
      rintro r rfl
      unfold m32o_l0 visG
      dsimp only
      rw [decide_eq_true (by omega : (k : Int) < ps.length), cond_true, ea, Option.bind_some]
      show cond ((assL b.hi s.1).2 != 0) _ _ = _
      by_cases he : (assL b.hi s.1).2 = 0
      · have e1 : ((assL b.hi s.1).2 != 0) = false := by rw [he]; rfl
        have hV := ass_val hb hs he
        rw [e1, cond_false, if_pos he, ei, Option.bind_some, guard_t (by rw [ble_t (wf_valid hPv).len, cond_true]; exact ble_t (wf_valid (valB_iff.1 hV).1).len)]
        show cond (leqB p (assL b.hi s.1).1) _ _ = _
        cases hq : leqB p (assL b.hi s.1).1 with
        | true => rfl
        | false =>
          rw [cond_false, if_neg Bool.false_ne_true, m43_eq hb.len, Option.bind_some]
          by_cases hf : (firstL b.hi).1 < 0
          · rw [decide_eq_true hf, cond_true, if_pos hf]; rfl
          · obtain ⟨m, v, f1, f2, f3, f4⟩ := first_at hb hs hf
            have hvk := okV_valid hb.valid f2
            rw [decide_eq_false hf, cond_false, if_neg hf, f1]
            dsimp only
            have hW := (valB_iff.1 (valV_val hs f3)).1
            have hL := (valB_iff.1 (low_part hP ⟨hvk.2.2.1, hvk.2.2.2⟩).val).1
            rw [idx_nat (Int.natCast_nonneg _) (by simpa using f4), Option.bind_some, Option.bind_some, guard_t (by rw [hs.len]; simp), m58_eq hPv ⟨hvk.2.2.1, hvk.2.2.2⟩, Option.bind_some, guard_t (by rw [ble_t (wf_valid hW).len, cond_true]; exact ble_t (wf_valid hL).len), maxL_ok hW hL, show (((joinL (valV s.1 v) (lowL p v.2), (0 : Int)).2 != 0)) = false from rfl, cond_false, Option.bind_some, guard_t (by rw [hs.len]; simp)]
            rw [Int.toNat_natCast, List.getD_eq_getElem?_getD, f4]
            rfl
      · have e1 : ((assL b.hi s.1).2 != 0) = true := by simpa using he
        rw [e1, cond_true, if_neg he]; rfl
    cases hg : visG b.hi s p with
    | inl r => exact key _ hg
    | inr s' => exact ⟨key _ hg, hv s' hg⟩) (fun s _ => by unfold m32o_l0; dsimp only; rw [decide_eq_false (by omega), cond_false]) (ws, false) hw
  exact key

theorem parts_len {L : Lvl} (h : L.vs.length ≤ 100000) : (partsL L).length ≤ 900000 := by
  unfold partsL
  rw [List.length_append, List.length_map]
  split <;> simp <;> omega
theorem m32o_eq {n : Nat} {b : Bnd} (hl : LvlIn n b.lo) (hb : LvlIn n b.hi) {ws : List Lvl} (hw : Vals n ws) :
    m32o ws b n = some (Sum.elim (fun s => (false, 15, s.1)) (fun s => (s.2, 0, s.1)) (visL b ws)) := by
  unfold m32o visL
  have ea : m50o b.lo ws n = some (fl (assL b.lo ws)) := by
    have := m50o_eq (L := b.lo) hl.len hw.fit
    rwa [hw.len] at this
  rw [ea, Option.bind_some]
  show cond ((assL b.lo ws).2 != 0) _ _ = _
  by_cases he : (assL b.lo ws).2 = 0
  · have e1 : ((assL b.lo ws).2 != 0) = false := by rw [he]; rfl
    have hV := ass_val hl hw he
    rw [e1, cond_false, if_pos he]
    have hlen := (wf_valid (valB_iff.1 hV).1).len
    show Option.bind (m44 (assL b.lo ws).1) _ = _
    rw [m44_eq hlen, Option.bind_some, m32o_l0_eq hb (fun p hp => parts_part hV hp) (parts_len hlen) hw, Option.bind_some]
    cases runG (visG b.hi) (partsL (assL b.lo ws).1) (ws, false) <;> rfl
  · have e1 : ((assL b.lo ws).2 != 0) = true := by simpa using he
    rw [e1, cond_true, if_neg he]; rfl
end Go.Proofs.Ytkimijmiphkddaa
