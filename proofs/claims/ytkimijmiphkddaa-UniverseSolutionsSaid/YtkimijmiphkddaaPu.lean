/- Plain laws: a bound is visited; raise and visit do the same; values grow. Plain laws: raise visits a bound as the reference does; values grow. Plain laws: Solve and its reference pass over the bounds alike, and come to an end. -/
import Derived.Test.YtkimijmiphkddaaPs
namespace Go.Proofs.Ytkimijmiphkddaa
section
open Go.RowKit
set_option linter.unusedSimpArgs false
set_option linter.unusedVariables false

/-! ### Runs over a list with early failure -/
def runG {α σ ε : Type} (g : σ → α → ε ⊕ σ) : List α → σ → ε ⊕ σ
  | [], s => .inr s
  | a :: l, s => match g s a with
    | .inl e => .inl e
    | .inr s' => runG g l s'
theorem run_exit {α σ ε β : Type} (g : σ → α → ε ⊕ σ) (err : ε → β) (fin : σ → β) : ∀ (l : List α) (s : σ), exitGo (fun s a => match g s a with
    | .inl e => .inl (err e)
    | .inr s' => .inr s') fin l s = Sum.elim err fin (runG g l s)
  | [], s => rfl
  | a :: l, s => by
    unfold exitGo runG
    cases h : g s a with
    | inl e => rfl
    | inr s' => exact run_exit g err fin l s'
theorem run_loop {α σ τ β ε : Type} {step : τ → Option (LO τ β)} {l : List α} (mk : Int → σ → τ) (fin : σ → β) (err : ε → β) (g : σ → α → ε ⊕ σ) (P : Nat → σ → Prop) (hlen : l.length ≤ 900000)
    (hin : ∀ (k : Nat) (x : α) (s : σ), l[k]? = some x → P k s → (match g s x with
      | .inl r => step (mk (k : Int) s) = some (.done (err r))
      | .inr s' => step (mk (k : Int) s) = some (.next (mk (w64 ((k : Int) + 1)) s')) ∧ P (k + 1) s'))
    (hout : ∀ s, P l.length s → step (mk (l.length : Int) s) = some (.done (fin s))) (s0 : σ) (h0 : P 0 s0) : loopN step FUEL (mk 0 s0) = some (Sum.elim err fin (runG g l s0)) := by
  rw [← run_exit g err fin l s0]
  refine exit_loopG mk fin _ P hlen (fun k x s hx hp => ?_) hout s0 h0
  have h := hin k x s hx hp
  cases hg : g s x with
  | inl e => rw [hg] at h; exact h
  | inr s' => rw [hg] at h; exact h
theorem run_inv {α σ ε : Type} {g : σ → α → ε ⊕ σ} {R : σ → σ → Prop} {Q : σ → Prop} (r : ∀ s, Q s → R s s) (t : ∀ a b c, R a b → R b c → R a c) : ∀ (l : List α), (∀ s x s', x ∈ l → Q s → g s x = .inr s' → Q s' ∧ R s s') → ∀ s s', Q s → runG g l s = .inr s' → Q s' ∧ R s s'
  | [], _, s, s', hq, h => by cases h; exact ⟨hq, r s hq⟩
  | a :: l, hs, s, s', hq, h => by
    unfold runG at h
    cases hg : g s a with
    | inl e => rw [hg] at h; cases h
    | inr s1 =>
      rw [hg] at h
      obtain ⟨q1, r1⟩ := hs s a s1 List.mem_cons_self hq hg
      obtain ⟨q2, r2⟩ := run_inv r t l (fun s x s' hx => hs s x s' (List.mem_cons_of_mem _ hx)) s1 s' q1 h
      exact ⟨q2, t _ _ _ r1 r2⟩
theorem run_append {α σ ε : Type} (g : σ → α → ε ⊕ σ) : ∀ (a b : List α) (s : σ), runG g (a ++ b) s = Sum.elim Sum.inl (fun s' => runG g b s') (runG g a s)
  | [], b, s => rfl
  | x :: a, b, s => by
    show (match g s x with
      | .inl e => (Sum.inl e : ε ⊕ σ)
      | .inr s' => runG g (a ++ b) s') = Sum.elim Sum.inl (fun s' => runG g b s') (match g s x with
      | .inl e => (Sum.inl e : ε ⊕ σ)
      | .inr s' => runG g a s')
    cases g s x with
    | inl e => rfl
    | inr s' => exact run_append g a b s'
theorem run_map {α β σ ε : Type} (g : σ → β → ε ⊕ σ) (f : α → β) : ∀ (l : List α) (s : σ), runG g (l.map f) s = runG (fun s a => g s (f a)) l s
  | [], s => rfl
  | x :: l, s => by
    show (match g s (f x) with
      | .inl e => (Sum.inl e : ε ⊕ σ)
      | .inr s' => runG g (l.map f) s') = (match g s (f x) with
      | .inl e => (Sum.inl e : ε ⊕ σ)
      | .inr s' => runG (fun s a => g s (f a)) l s')
    cases g s (f x) with
    | inl e => rfl
    | inr s' => exact run_map g f l s'

/-! ### Values, bounds, parts -/
theorem valB_iff {L : Lvl} : valB L = true ↔ validB L = true ∧ ∀ x ∈ L.vs, 0 ≤ x.1 := by
  simp only [valB, Bool.and_eq_true, Bool.not_eq_true', List.any_eq_false, decide_eq_true_eq, Int.not_lt]
/-- values for n metavariables -/
structure Vals (n : Nat) (ws : List Lvl) : Prop where
  len : ws.length = n
  val : ∀ w ∈ ws, valB w = true
  le : n ≤ 100000
theorem Vals.valid {n : Nat} {ws : List Lvl} (h : Vals n ws) : ws.all validB = true := List.all_eq_true.2 fun w hw => (valB_iff.1 (h.val w hw)).1
theorem Vals.fit {n : Nat} {ws : List Lvl} (h : Vals n ws) : fitB ws := ⟨by rw [h.len]; exact h.le, fun w hw => (wf_valid (valB_iff.1 (h.val w hw)).1).len⟩
/-- a level whose metavariables are less than n -/
structure LvlIn (n : Nat) (L : Lvl) : Prop where
  valid : validB L = true
  lt : ∀ v ∈ L.vs, v.1 < 0 → -1 - v.1 < n
theorem LvlIn.len {n : Nat} {L : Lvl} (h : LvlIn n L) : L.vs.length ≤ 100000 := (wf_valid h.valid).len
theorem LvlIn.has {n : Nat} {L : Lvl} (h : LvlIn n L) {ws : List Lvl} (hw : Vals n ws) {v : LV} (hv : v ∈ L.vs) : hasV ws v ↔ v.1 < 0 := ⟨fun k => k.1, fun k => ⟨k, by rw [hw.len]; exact h.lt v hv k⟩⟩
theorem valV_val {n : Nat} {ws : List Lvl} (hw : Vals n ws) {v : LV} (h : hasV ws v) : valB (valV ws v) = true := hw.val _ (List.mem_of_getElem? (valV_at h))
theorem ass_val {n : Nat} {L : Lvl} (h : LvlIn n L) {ws : List Lvl} (hw : Vals n ws) (he : (assL L ws).2 = 0) : valB (assL L ws).1 = true := by
  obtain ⟨e1, -, e3, -⟩ := ass_ok h.valid hw.valid he
  refine valB_iff.2 ⟨e3, fun x hx => ?_⟩
  rw [e1, trim_vs] at hx
  obtain ⟨v, hv, ⟨hh, y, hy, rfl⟩ | ⟨hh, rfl⟩⟩ := gath_src h.valid hw.valid hx
  · exact (valB_iff.1 (valV_val hw hh)).2 y hy
  · exact Int.not_lt.1 fun hn => hh ((h.has hw hv).2 hn)

/-- one part: a number or one variable -/
structure PartL (p : Lvl) : Prop where
  val : valB p = true
  one : (∃ c, p = ⟨c, []⟩) ∨ ∃ v, p = ⟨0, [v]⟩
theorem part_c {c : Int} (h : 0 ≤ c ∧ c ≤ 100) : PartL ⟨c, []⟩ := ⟨valB_iff.2 ⟨by simp [validB, covB, ascB, h], fun x hx => by cases hx⟩, .inl ⟨c, rfl⟩⟩
theorem part_v {v : LV} (h : okV v) (h0 : 0 ≤ v.1) : PartL ⟨0, [v]⟩ := ⟨valB_iff.2 ⟨by simp [validB, covB, ascB, okVar]; unfold okV at h; omega, fun x hx => by simp at hx; rw [hx]; exact h0⟩, .inr ⟨v, rfl⟩⟩
theorem mem_parts {L : Lvl} {v : LV} (h : v ∈ L.vs) : (⟨0, [v]⟩ : Lvl) ∈ partsL L := List.mem_append_right _ (List.mem_map.2 ⟨v, h, rfl⟩)
theorem parts_part {L : Lvl} (h : valB L = true) {p : Lvl} (hp : p ∈ partsL L) : PartL p := by
  obtain ⟨h1, h2⟩ := valB_iff.1 h
  unfold partsL at hp
  rcases List.mem_append.1 hp with hp | hp
  · split at hp
    · simp at hp; rw [hp]; exact part_c (valid_c h1)
    · cases hp
  · obtain ⟨v, hv, rfl⟩ := List.mem_map.1 hp
    exact part_v (okV_valid h1 hv) (h2 v hv)
theorem low_part {p : Lvl} (h : PartL p) {k : Int} (hk : 0 ≤ k ∧ k ≤ 100) : PartL (lowL p k) := by
  obtain ⟨h1, h2⟩ := valB_iff.1 h.val
  rcases h.one with ⟨c, rfl⟩ | ⟨v, rfl⟩
  · have := valid_c h1
    dsimp only at this
    exact part_c (c := max 0 (c - k)) ⟨by omega, by omega⟩
  · have hv := okV_valid h1 (v := v) List.mem_cons_self
    unfold okV at hv
    exact part_v (v := (v.1, max 0 (v.2 - k))) ⟨by dsimp only; omega, by dsimp only; omega, by dsimp only; omega, by dsimp only; omega⟩ (h2 v List.mem_cons_self)
theorem parts_le {L H : Lvl} (h : valB L = true) (hH : validB H = true) (hp : ∀ p ∈ partsL L, leqB p H = true) : leqB L H = true := by
  obtain ⟨h1, h2⟩ := valB_iff.1 h
  refine leqB_iff.2 ⟨h1, hH, ?_, fun x hx => ?_⟩
  · by_cases hc : 0 < L.c ∨ L.vs = []
    · exact (leqB_iff.1 (hp ⟨L.c, []⟩ (by unfold partsL; rw [if_pos hc]; simp))).2.2.1
    · have := (valid_c hH).1
      have := top_ge H.c H.vs
      have : ¬ 0 < L.c := fun k => hc (.inl k)
      unfold topL; omega
  · exact (leqB_iff.1 (hp ⟨0, [x]⟩ (mem_parts hx))).2.2.2 x List.mem_cons_self

theorem first_mem {L : Lvl} (h : WF L.vs) (h0 : ¬ (firstL L).1 < 0) : ∃ v ∈ L.vs, v.1 < 0 ∧ firstL L = (-1 - v.1, v.2) := by
  rw [firstL_eq h] at h0 ⊢
  cases hf : (L.vs.filter fun x => decide (x.1 < 0)).getLast? with
  | none => rw [hf] at h0; exact absurd (by decide) h0
  | some x =>
    have hx := List.mem_of_getLast? hf
    rw [List.mem_filter] at hx
    exact ⟨x, hx.1, by simpa using hx.2, rfl⟩
theorem first_at {n : Nat} {L : Lvl} (h : LvlIn n L) {ws : List Lvl} (hw : Vals n ws) (h0 : ¬ (firstL L).1 < 0) : ∃ (m : Nat) (v : LV), firstL L = ((m : Int), v.2) ∧ v ∈ L.vs ∧ hasV ws v ∧ ws[m]? = some (valV ws v) := by
  obtain ⟨v, hv, hn, e⟩ := first_mem (wf_valid h.valid) h0
  have hh := (h.has hw hv).2 hn
  refine ⟨(-1 - v.1).toNat, v, ?_, hv, hh, valV_at hh⟩
  rw [e, Int.toNat_of_nonneg (by omega)]

/-! ### A bound is visited -/
def visG (hi : Lvl) (s : List Lvl × Bool) (p : Lvl) : (List Lvl × Bool) ⊕ (List Lvl × Bool) :=
  if (assL hi s.1).2 = 0 then
    (if leqB p (assL hi s.1).1 then .inr s
    else if (firstL hi).1 < 0 then .inl s
    else .inr (s.1.set (firstL hi).1.toNat (joinL (s.1.getD (firstL hi).1.toNat ⟨0, []⟩) (lowL p (firstL hi).2)), true))
  else .inl s
def visL (b : Bnd) (ws : List Lvl) : (List Lvl × Bool) ⊕ (List Lvl × Bool) := if (assL b.lo ws).2 = 0 then runG (visG b.hi) (partsL (assL b.lo ws).1) (ws, false) else .inl (ws, false)

theorem val_join {A B : Lvl} (ha : valB A = true) (hb : valB B = true) : valB (joinL A B) = true := by
  obtain ⟨a1, a2⟩ := valB_iff.1 ha
  obtain ⟨b1, b2⟩ := valB_iff.1 hb
  refine valB_iff.2 ⟨join_valid a1 b1, fun x hx => ?_⟩
  rw [joinL_vs] at hx
  exact (merge_src (wf_valid a1) (wf_valid b1) hx).elim (a2 x) (b2 x)
theorem Vals.set {n : Nat} {ws : List Lvl} (h : Vals n ws) {m : Nat} {x : Lvl} (hx : valB x = true) : Vals n (ws.set m x) :=
  ⟨by rw [List.length_set, h.len], fun w hw => (List.mem_or_eq_of_mem_set hw).elim (h.val w) (fun e => e ▸ hx), h.le⟩

/-- one step of a visit changes nothing, or raises one value -/
theorem vis_step {n : Nat} {hi : Lvl} (h : LvlIn n hi) {s s' : List Lvl × Bool} (hs : Vals n s.1) {p : Lvl} (hp : PartL p) (e : visG hi s p = .inr s') :
    (s' = s ∧ leqB p (assL hi s.1).1 = true ∧ (assL hi s.1).2 = 0) ∨ (leqB p (assL hi s.1).1 = false ∧ (assL hi s.1).2 = 0 ∧ ∃ (m : Nat) (v : LV), firstL hi = ((m : Int), v.2) ∧ v ∈ hi.vs ∧ hasV s.1 v ∧ s.1[m]? = some (valV s.1 v) ∧ s' = (s.1.set m (joinL (valV s.1 v) (lowL p v.2)), true)) := by
  unfold visG at e
  by_cases he : (assL hi s.1).2 = 0
  · rw [if_pos he] at e
    cases hl : leqB p (assL hi s.1).1 with
    | true => rw [hl, if_pos rfl] at e; cases e; exact .inl ⟨rfl, rfl, he⟩
    | false =>
      rw [hl, if_neg Bool.false_ne_true] at e
      by_cases hf : (firstL hi).1 < 0
      · rw [if_pos hf] at e; cases e
      · rw [if_neg hf] at e
        obtain ⟨m, v, e1, e2, e3, e4⟩ := first_at h hs hf
        refine .inr ⟨rfl, he, m, v, e1, e2, e3, e4, ?_⟩
        cases e
        rw [e1]
        dsimp only
        rw [Int.toNat_natCast, List.getD_eq_getElem?_getD, e4]
        rfl
  · rw [if_neg he] at e; cases e
theorem vis_vals {n : Nat} {hi : Lvl} (h : LvlIn n hi) {s s' : List Lvl × Bool} (hs : Vals n s.1) {p : Lvl} (hp : PartL p) (e : visG hi s p = .inr s') : Vals n s'.1 := by
  rcases vis_step h hs hp e with ⟨rfl, -⟩ | ⟨-, -, m, v, e1, e2, e3, e4, rfl⟩
  · exact hs
  · have hv := okV_valid h.valid e2
    exact hs.set (val_join (valV_val hs e3) (low_part hp ⟨hv.2.2.1, hv.2.2.2⟩).val)

theorem parts_len {L : Lvl} (h : L.vs.length ≤ 100000) : (partsL L).length ≤ 900000 := by
  unfold partsL
  rw [List.length_append, List.length_map]
  split <;> simp <;> omega
end

section
open Go.RowKit
set_option linter.unusedSimpArgs false
set_option linter.unusedVariables false

theorem bind_of {α β : Type} {o : Option α} {f : α → Option β} {r : α} {R : Option β} (h : o = some r) (k : f r = R) : Option.bind o f = R := by rw [h]; exact k
theorem vis_err {hi : Lvl} {s e : List Lvl × Bool} {p : Lvl} (h : visG hi s p = .inl e) : e = s := by
  unfold visG at h
  split at h
  · split at h
    · cases h
    · split at h
      · cases h; rfl
      · cases h
  · cases h; rfl

theorem vis_code {n : Nat} {hi : Lvl} (hb : LvlIn n hi) {s : List Lvl × Bool} (hs : Vals n s.1) {p : Lvl} (hp : PartL p) :
    (Option.bind (m48o hi s.1 n) fun (x19 : Int × Int × (List LV)) =>
  cond (x19.1 != 0)
    (some (.inr ()))
    (guardO ((cond (Nat.ble p.vs.length 100000) (Nat.ble (⟨x19.2.1, x19.2.2⟩ : Lvl).vs.length 100000) false))
  (cond (leqB p (⟨x19.2.1, x19.2.2⟩ : Lvl))
    (some (.inl (s.1, s.2)))
    (Option.bind (m54 hi) fun (x23 : Int × Int) =>
  cond (decide (x23.1 < 0))
    (some (.inr ()))
    (Option.bind (idx s.1 x23.1) fun (x25 : Lvl) =>
  guardO (Nat.beq s.1.length n)
  (Option.bind (m56 p x23.2) fun (x27 : Lvl) =>
  Option.bind (m55 x25 x27) fun (x28 : Lvl × Int) =>
  cond (x28.2 != 0)
    (some (.inr ()))
    (Option.bind (idx s.1 x23.1) fun (x30 : Lvl) =>
  guardO (Nat.beq s.1.length n)
  (some (.inl ((s.1.set x23.1.toNat x28.1), true))))))))) : Option ((List Lvl × Bool) ⊕ Unit)) = some (Sum.elim (fun _ => .inr ()) .inl (visG hi s p)) := by
  have ea : m48o hi s.1 n = some (fl (assL hi s.1)) := by
    have := m48o_eq (L := hi) hb.len hs.fit
    rwa [hs.len] at this
  have hPv := (valB_iff.1 hp.val).1
  unfold visG
  rw [ea, Option.bind_some]
  show cond ((assL hi s.1).2 != 0) _ _ = _
  by_cases he : (assL hi s.1).2 = 0
  · have e1 : ((assL hi s.1).2 != 0) = false := by rw [he]; rfl
    have hV := ass_val hb hs he
    rw [e1, cond_false, if_pos he, guard_t (by rw [ble_t (wf_valid hPv).len, cond_true]; exact ble_t (wf_valid (valB_iff.1 hV).1).len)]
    show cond (leqB p (assL hi s.1).1) _ _ = _
    cases hq : leqB p (assL hi s.1).1 with
    | true => rfl
    | false =>
      rw [cond_false, if_neg Bool.false_ne_true, m54_eq (wf_valid hb.valid), Option.bind_some]
      by_cases hf : (firstL hi).1 < 0
      · rw [decide_eq_true hf, cond_true, if_pos hf]; rfl
      · obtain ⟨m, v, f1, f2, f3, f4⟩ := first_at hb hs hf
        have hvk := okV_valid hb.valid f2
        have hL := (valB_iff.1 (low_part hp ⟨hvk.2.2.1, hvk.2.2.2⟩).val).1
        have hW := (valB_iff.1 (valV_val hs f3)).1
        rw [decide_eq_false hf, cond_false, if_neg hf, f1]
        dsimp only
        rw [idx_nat (Int.natCast_nonneg _) (by simpa using f4), Option.bind_some, guard_t (by rw [hs.len]; simp), m56_eq hPv ⟨hvk.2.2.1, hvk.2.2.2⟩, Option.bind_some, m55_eq (wf_valid hW).len (wf_valid hL).len, maxL_ok hW hL, Option.bind_some, show (((joinL (valV s.1 v) (lowL p v.2), (0 : Int)).2 != 0)) = false from rfl, cond_false, Option.bind_some, guard_t (by rw [hs.len]; simp)]
        rw [Int.toNat_natCast, List.getD_eq_getElem?_getD, f4]
        rfl
  · have e1 : ((assL hi s.1).2 != 0) = true := by simpa using he
    rw [e1, cond_true, if_neg he]; rfl

theorem m31o_l0_eq {n : Nat} {b : Bnd} (hb : LvlIn n b.hi) {e c : Int} {vs : List LV} (hp : ∀ v ∈ vs, PartL ⟨0, [v]⟩) (hl : vs.length ≤ 900000) {s : List Lvl × Bool} (hs : Vals n s.1) :
    loopN (m31o_l0 (e, c, vs) b n) FUEL (0, s.1, s.2) = some (Sum.elim (fun s => .inr (.inr (s.1, s.2))) (fun s => .inl (s.1, s.2)) (runG (fun s v => visG b.hi s ⟨0, [v]⟩) vs s)) := by
  have key := run_loop (step := m31o_l0 (e, c, vs) b n) (l := vs) (fun i (s : List Lvl × Bool) => (i, s.1, s.2)) (fun s => .inl (s.1, s.2)) (fun (s : List Lvl × Bool) => .inr (.inr (s.1, s.2))) (fun s v => visG b.hi s ⟨0, [v]⟩) (fun _ s => Vals n s.1) hl (fun k v s hx hs => by
    have hk := (List.getElem?_eq_some_iff.1 hx).1
    have hP := hp v (List.mem_of_getElem? hx)
    have hc := vis_code hb hs hP
    have key : m31o_l0 (e, c, vs) b n ((k : Int), s.1, s.2) = some (Sum.elim (fun _ => .done (.inr (.inr (s.1, s.2)))) (fun s => .next (w64 ((k : Int) + 1), s.1, s.2)) (visG b.hi s ⟨0, [v]⟩)) := by
      unfold m31o_l0
      dsimp only
      rw [decide_eq_true (by omega : (k : Int) < vs.length), cond_true, idx_nat (Int.natCast_nonneg _) (by simpa using hx), Option.bind_some]
      refine bind_of hc ?_
      cases visG b.hi s ⟨0, [v]⟩ <;> rfl
    cases hg : visG b.hi s ⟨0, [v]⟩ with
    | inl r => rw [hg] at key; rw [vis_err hg]; exact key
    | inr s' => rw [hg] at key; exact ⟨key, vis_vals hb hs hP hg⟩) (fun s _ => by unfold m31o_l0; dsimp only; rw [decide_eq_false (by omega), cond_false]) s hs
  exact key

theorem m31o_eq {n : Nat} {b : Bnd} (hl : LvlIn n b.lo) (hb : LvlIn n b.hi) {ws : List Lvl} (hw : Vals n ws) :
    m31o ws b n = some (Sum.elim (fun s => (s.1, false, 15)) (fun s => (s.1, s.2, 0)) (visL b ws)) := by
  unfold m31o visL
  have ea : m48o b.lo ws n = some (fl (assL b.lo ws)) := by
    have := m48o_eq (L := b.lo) hl.len hw.fit
    rwa [hw.len] at this
  rw [ea, Option.bind_some]
  show cond ((assL b.lo ws).2 != 0) _ _ = _
  by_cases he : (assL b.lo ws).2 = 0
  · have e1 : ((assL b.lo ws).2 != 0) = false := by rw [he]; rfl
    have hV := ass_val hl hw he
    have hlen := (wf_valid (valB_iff.1 hV).1).len
    rw [e1, cond_false, if_pos he, Option.bind_some]
    have hP : ∀ v ∈ (assL b.lo ws).1.vs, PartL ⟨0, [v]⟩ := fun v hv => parts_part hV (mem_parts hv)
    have hC : 0 < (assL b.lo ws).1.c ∨ (assL b.lo ws).1.vs = [] → PartL ⟨(assL b.lo ws).1.c, []⟩ := fun h => parts_part hV (by unfold partsL; rw [if_pos h]; simp)
    -- the rest: from the state behind the constant
    have rest : ∀ (r : (List Lvl × Bool) ⊕ (List Lvl × Bool)), (∀ s, r = .inr s → Vals n s.1) → (∀ s, r = .inl s → s = (ws, false)) →
        Option.bind (Option.bind (some (Sum.elim (fun _ => Sum.inr ()) Sum.inl r : (List Lvl × Bool) ⊕ Unit)) (Sum.elim (fun (v9 : (List Lvl) × Bool) => Option.bind (loopN (m31o_l0 (fl (assL b.lo ws)) b n) FUEL (0, v9.1, v9.2)) (Sum.elim (fun (o11 : (List Lvl) × Bool) => some (.inl (o11.1, o11.2))) (fun o => some o))) (fun (v10 : Unit) => some (.inr (ws, false))))) (Sum.elim (fun (y5 : (List Lvl) × Bool) => some (y5.1, y5.2, (0 : Int))) (fun (y6 : (List Lvl) × Bool) => some (y6.1, false, 15)))
        = some (Sum.elim (fun s => (s.1, false, 15)) (fun s => (s.1, s.2, 0)) (Sum.elim Sum.inl (fun s' => runG (visG b.hi) ((assL b.lo ws).1.vs.map fun v => (⟨0, [v]⟩ : Lvl)) s') r)) := by
      intro r h1 h2
      cases r with
      | inl s => rw [h2 s rfl]; rfl
      | inr s =>
        simp only [Sum.elim_inr, Sum.elim_inl, Option.bind_some]
        rw [run_map, show loopN (m31o_l0 (fl (assL b.lo ws)) b n) FUEL (0, s.1, s.2) = _ from m31o_l0_eq (e := (assL b.lo ws).2) (c := (assL b.lo ws).1.c) hb hP (by omega) (h1 s rfl), Option.bind_some]
        cases runG (fun s v => visG b.hi s ⟨0, [v]⟩) (assL b.lo ws).1.vs s <;> rfl
    unfold partsL
    rw [run_append]
    have one : ∀ p, PartL p → runG (visG b.hi) [p] (ws, false) = visG b.hi (ws, false) p := fun p _ => by
      unfold runG
      cases visG b.hi (ws, false) p <;> rfl
    by_cases hc : 0 < (assL b.lo ws).1.c
    · have hp := hC (.inl hc)
      rw [show decide (0 < (fl (assL b.lo ws)).2.1) = true from decide_eq_true hc, cond_true, if_pos (.inl hc), one _ hp]
      refine (congrArg (fun z => Option.bind (Option.bind z _) _) (bind_of (vis_code (s := (ws, false)) hb hw hp) (R := some (Sum.elim (fun _ => Sum.inr ()) Sum.inl (visG b.hi (ws, false) ⟨(assL b.lo ws).1.c, []⟩) : (List Lvl × Bool) ⊕ Unit)) ?_)).trans (rest _ (fun s hs => vis_vals (s := (ws, false)) hb hw hp hs) (fun s hs => vis_err hs))
      cases visG b.hi (ws, false) ⟨(assL b.lo ws).1.c, []⟩ <;> rfl
    · rw [show decide (0 < (fl (assL b.lo ws)).2.1) = false from decide_eq_false hc, cond_false]
      by_cases hv : (assL b.lo ws).1.vs = []
      · have hp := hC (.inr hv)
        rw [show (((fl (assL b.lo ws)).2.2.length : Int) == 0) = true by show (((assL b.lo ws).1.vs.length : Int) == 0) = true; rw [hv]; rfl, cond_true, if_pos (.inr hv), one _ hp]
        refine (congrArg (fun z => Option.bind (Option.bind z _) _) (bind_of (vis_code (s := (ws, false)) hb hw hp) (R := some (Sum.elim (fun _ => Sum.inr ()) Sum.inl (visG b.hi (ws, false) ⟨(assL b.lo ws).1.c, []⟩) : (List Lvl × Bool) ⊕ Unit)) ?_)).trans (rest _ (fun s hs => vis_vals (s := (ws, false)) hb hw hp hs) (fun s hs => vis_err hs))
        cases visG b.hi (ws, false) ⟨(assL b.lo ws).1.c, []⟩ <;> rfl
      · rw [show (((fl (assL b.lo ws)).2.2.length : Int) == 0) = false by show (((assL b.lo ws).1.vs.length : Int) == 0) = false; simp; exact hv, cond_false, if_neg (by simp [hc, hv])]
        exact rest (.inr (ws, false)) (fun s hs => by cases hs; exact hw) (fun s hs => by cases hs)
  · have e1 : ((assL b.lo ws).2 != 0) = true := by simpa using he
    rw [e1, cond_true, if_neg he]; rfl

/-! ### Values grow -/
def gs : Option Int → Nat
  | none => 0
  | some p => p.toNat + 1
def muV (w : Lvl) : Nat := (topL w).toNat + ((List.range 8).map fun (i : Nat) => gs (getV w.vs (i : Int))).sum
def mu (ws : List Lvl) : Nat := (ws.map muV).sum

theorem sum_le {α : Type} {f g : α → Nat} : ∀ (l : List α), (∀ x ∈ l, f x ≤ g x) → (l.map f).sum ≤ (l.map g).sum
  | [], _ => Nat.le_refl _
  | x :: l, h => by
    have h1 := h x List.mem_cons_self
    have h2 := sum_le l fun y hy => h y (List.mem_cons_of_mem _ hy)
    simp only [List.map_cons, List.sum_cons]; omega
theorem sum_lt {α : Type} {f g : α → Nat} : ∀ (l : List α), (∀ x ∈ l, f x ≤ g x) → (∃ x ∈ l, f x < g x) → (l.map f).sum < (l.map g).sum
  | [], _, h => by obtain ⟨x, hx, -⟩ := h; cases hx
  | x :: l, h, ⟨y, hy, hlt⟩ => by
    have h1 := h x List.mem_cons_self
    have hl : ∀ y ∈ l, f y ≤ g y := fun y hy => h y (List.mem_cons_of_mem _ hy)
    have h2 := sum_le l hl
    simp only [List.map_cons, List.sum_cons]
    rcases List.mem_cons.1 hy with rfl | hy
    · omega
    · have := sum_lt l hl ⟨y, hy, hlt⟩
      omega
theorem sum_set {α : Type} {f : α → Nat} {x : α} : ∀ (l : List α) (m : Nat) (w : α), l[m]? = some w → f w < f x → (l.map f).sum < ((l.set m x).map f).sum
  | [], m, w, h, _ => by cases h
  | y :: l, 0, w, h, hlt => by
    cases h
    simp only [List.set_cons_zero, List.map_cons, List.sum_cons]; omega
  | y :: l, m + 1, w, h, hlt => by
    have := sum_set l m w (by simpa using h) hlt
    simp only [List.set_cons_succ, List.map_cons, List.sum_cons]; omega
theorem sum_bound {α : Type} {f : α → Nat} {B : Nat} : ∀ (l : List α), (∀ x ∈ l, f x ≤ B) → (l.map f).sum ≤ l.length * B
  | [], _ => by simp
  | x :: l, h => by
    have h1 := h x List.mem_cons_self
    have h2 := sum_bound l fun y hy => h y (List.mem_cons_of_mem _ hy)
    simp only [List.map_cons, List.sum_cons, List.length_cons, Nat.add_mul]; omega

theorem top_val {w : Lvl} (h : validB w = true) : 0 ≤ topL w ∧ topL w ≤ 100 := by
  refine ⟨?_, topL_le.2 ⟨(valid_c h).2, fun x hx => (okV_valid h hx).2.2.2⟩⟩
  have := (valid_c h).1
  have := top_ge w.c w.vs
  unfold topL; omega
theorem muV_lt {w w' : Lvl} (h1 : valB w = true) (h2 : valB w' = true) (hle : leL w w') (hn : ¬ leL w' w) : muV w < muV w' := by
  obtain ⟨v1, n1⟩ := valB_iff.1 h1
  obtain ⟨v2, n2⟩ := valB_iff.1 h2
  have t1 := top_val v1
  have t := hle.top
  have a1 := (wf_valid v1).1
  have a2 := (wf_valid v2).1
  have mono : ∀ i ∈ List.range 8, gs (getV w.vs ((i : Nat) : Int)) ≤ gs (getV w'.vs ((i : Nat) : Int)) := by
    intro i _
    cases hg : getV w.vs ((i : Nat) : Int) with
    | none => exact Nat.zero_le _
    | some p =>
      obtain ⟨y, hy, e, hp⟩ := hle.2 _ ((getV_mem a1).1 hg)
      dsimp only at e hp
      rw [← e, getV_of_mem a2 hy]
      show p.toNat + 1 ≤ y.2.toNat + 1
      omega
  unfold muV
  have hs := sum_le _ mono
  by_cases ht : topL w < topL w'
  · omega
  · have : ∃ i ∈ List.range 8, gs (getV w.vs ((i : Nat) : Int)) < gs (getV w'.vs ((i : Nat) : Int)) := by
      have hx : ∃ x ∈ w'.vs, ¬ inB x w := by
        refine Classical.byContradiction fun hc => hn ⟨?_, fun x hx => Classical.byContradiction fun h => hc ⟨x, hx, h⟩⟩
        have := top_ge w'.c w'.vs
        have e : topL w' = topOf w'.c w'.vs := rfl
        omega
      obtain ⟨x, hx, hnx⟩ := hx
      have hv := okV_valid v2 hx
      have h0 := n2 x hx
      have h3 := hv.2.2.1; have h4 := hv.2.1
      have ei : ((x.1.toNat : Nat) : Int) = x.1 := Int.toNat_of_nonneg h0
      refine ⟨x.1.toNat, List.mem_range.2 (by omega), ?_⟩
      rw [ei, getV_of_mem a2 hx]
      cases hg : getV w.vs x.1 with
      | none => show 0 < x.2.toNat + 1; omega
      | some p =>
        have hm := (getV_mem a1).1 hg
        have : p < x.2 := Int.not_le.1 fun hle => hnx ⟨_, hm, rfl, hle⟩
        have hp := (okV_valid v1 hm).2.2.1
        dsimp only at hp
        show p.toNat + 1 < x.2.toNat + 1
        omega
    have := sum_lt _ mono this
    omega
theorem muV_le {w : Lvl} (h : valB w = true) : muV w ≤ 908 := by
  obtain ⟨v1, n1⟩ := valB_iff.1 h
  have t := top_val v1
  have : ((List.range 8).map fun (i : Nat) => gs (getV w.vs (i : Int))).sum ≤ (List.range 8).length * 101 := sum_bound _ fun i _ => by
    cases hg : getV w.vs ((i : Nat) : Int) with
    | none => exact Nat.zero_le _
    | some p =>
      have := (okV_valid v1 ((getV_mem (wf_valid v1).1).1 hg)).2.2.2
      dsimp only at this
      show p.toNat + 1 ≤ 101
      omega
  simp only [List.length_range] at this
  unfold muV; omega
theorem mu_le {n : Nat} {ws : List Lvl} (h : Vals n ws) : mu ws ≤ n * 908 := by
  have := sum_bound (f := muV) ws fun w hw => muV_le (h.val w hw)
  rw [h.len] at this
  exact this

/-- what a value plus the offset does not reach, raises it -/
theorem low_le {n : Nat} {hi : Lvl} (h : LvlIn n hi) {ws : List Lvl} (hw : Vals n ws) {p : Lvl} (hp : PartL p) (he : (assL hi ws).2 = 0) {v : LV} (hv : v ∈ hi.vs) (hh : hasV ws v) (hl : leL (lowL p v.2) (valV ws v)) : leqB p (assL hi ws).1 = true := by
  obtain ⟨-, -, e3, -, e5⟩ := ass_ok h.valid hw.valid he
  have k := leW.self h.valid hw.valid hv
  have kt := k.top hh
  have hk := (okV_valid h.valid hv).2.2.1
  refine leqB_iff.2 ⟨(valB_iff.1 hp.val).1, e3, leL.trans ?_ e5⟩
  unfold leW at k
  rw [if_pos hh] at k
  rcases hp.one with ⟨c, rfl⟩ | ⟨u, rfl⟩
  · refine ⟨?_, fun x hx => by cases hx⟩
    have h1 : max 0 (c - v.2) ≤ topL (valV ws v) := hl.1
    show c ≤ _
    omega
  · obtain ⟨y, hy, f1, f2⟩ : inB (u.1, max 0 (u.2 - v.2)) (valV ws v) := hl.2 _ List.mem_cons_self
    obtain ⟨z, hz, f3, f4⟩ := k.2 y hy
    dsimp only at f1 f2 f3 f4
    have hu : inB u (gathL hi ws) := ⟨z, hz, by omega, by omega⟩
    have := hu.top
    have h0 := (okV_valid (valB_iff.1 hp.val).1 (v := u) List.mem_cons_self).2.2.1
    refine ⟨by show (0 : Int) ≤ _; omega, fun x hx => by simp at hx; rw [hx]; exact hu⟩

/-- nothing happens, or values grow -/
def Grow (s s' : List Lvl × Bool) : Prop := s' = s ∨ (s'.2 = true ∧ mu s.1 < mu s'.1)
theorem Grow.trans {a b c : List Lvl × Bool} (h : Grow a b) (k : Grow b c) : Grow a c := by
  rcases k with rfl | ⟨k1, k2⟩
  · exact h
  · rcases h with rfl | ⟨h1, h2⟩
    · exact .inr ⟨k1, k2⟩
    · exact .inr ⟨k1, by omega⟩
theorem vis_grow {n : Nat} {hi : Lvl} (h : LvlIn n hi) {s s' : List Lvl × Bool} (hs : Vals n s.1) {p : Lvl} (hp : PartL p) (e : visG hi s p = .inr s') : Grow s s' := by
  rcases vis_step h hs hp e with ⟨rfl, -⟩ | ⟨hq, he, m, v, e1, e2, e3, e4, rfl⟩
  · exact .inl rfl
  · refine .inr ⟨rfl, ?_⟩
    have hv := okV_valid h.valid e2
    have vw := valV_val hs e3
    have vq := (low_part hp ⟨hv.2.2.1, hv.2.2.2⟩).val
    have g1 := good_valid (valB_iff.1 vw).1
    have g2 := good_valid (valB_iff.1 vq).1
    obtain ⟨j1, j2⟩ := (join_le g1 g2).1 (leL.refl (joinL (valV s.1 v) (lowL p v.2)))
    refine sum_set _ _ _ e4 (muV_lt vw (val_join vw vq) j1 fun hle => ?_)
    have := low_le h hs hp he e2 e3 (j2.trans hle)
    rw [this] at hq; cases hq
theorem visL_grow {n : Nat} {b : Bnd} (hl : LvlIn n b.lo) (hb : LvlIn n b.hi) {ws : List Lvl} (hw : Vals n ws) {s : List Lvl × Bool} (e : visL b ws = .inr s) : Vals n s.1 ∧ Grow (ws, false) s := by
  unfold visL at e
  by_cases he : (assL b.lo ws).2 = 0
  · rw [if_pos he] at e
    exact run_inv (Q := fun s => Vals n s.1) (R := Grow) (fun s _ => .inl rfl) (fun a b c => Grow.trans) _ (fun s p s' hp hq hg => ⟨vis_vals hb hq (parts_part (ass_val hl hw he) hp) hg, vis_grow hb hq (parts_part (ass_val hl hw he) hp) hg⟩) _ _ hw e
  · rw [if_neg he] at e; cases e
end

section
open Go.RowKit
set_option linter.unusedSimpArgs false
set_option linter.unusedVariables false

def BndsIn (n : Nat) (bs : List Bnd) : Prop := ∀ b ∈ bs, LvlIn n b.lo ∧ LvlIn n b.hi
def passG (s : Nat × Bool × List Lvl) (b : Bnd) : Nat ⊕ (Nat × Bool × List Lvl) := Sum.elim (fun _ => .inl s.1) (fun r => .inr (s.1 + 1, s.2.1 || r.2, r.1)) (visL b s.2.2)
def passL (bs : List Bnd) (ws : List Lvl) : Nat ⊕ (Nat × Bool × List Lvl) := runG passG bs (0, false, ws)

def GrowP (s s' : Nat × Bool × List Lvl) : Prop := s'.2 = s.2 ∨ (s'.2.1 = true ∧ mu s.2.2 < mu s'.2.2)
theorem passG_grow {n : Nat} {b : Bnd} (hb : LvlIn n b.lo ∧ LvlIn n b.hi) {s s' : Nat × Bool × List Lvl} (hs : Vals n s.2.2) (e : passG s b = .inr s') : (Vals n s'.2.2 ∧ s'.1 = s.1 + 1) ∧ GrowP s s' := by
  unfold passG at e
  cases hv : visL b s.2.2 with
  | inl r => rw [hv] at e; cases e
  | inr r =>
    rw [hv] at e
    cases e
    obtain ⟨h1, h2⟩ := visL_grow hb.1 hb.2 hs hv
    refine ⟨⟨h1, rfl⟩, ?_⟩
    rcases h2 with rfl | ⟨h3, h4⟩
    · left; show (s.2.1 || false, s.2.2) = s.2; rw [Bool.or_false]
    · right; refine ⟨?_, h4⟩; show (s.2.1 || r.2) = true; rw [h3, Bool.or_true]
theorem passL_grow {n : Nat} {bs : List Bnd} (hb : BndsIn n bs) {ws : List Lvl} (hw : Vals n ws) {s : Nat × Bool × List Lvl} (e : passL bs ws = .inr s) : Vals n s.2.2 ∧ (s.2 = (false, ws) ∨ (s.2.1 = true ∧ mu ws < mu s.2.2)) :=
  run_inv (g := passG) (Q := fun s => Vals n s.2.2) (R := GrowP) (fun s _ => .inl rfl) (fun a b c h k => by
    rcases k with k | ⟨k1, k2⟩
    · rcases h with h | ⟨h1, h2⟩
      · exact .inl (k.trans h)
      · exact .inr ⟨by rw [k]; exact h1, by rw [k]; exact h2⟩
    · rcases h with h | ⟨h1, h2⟩
      · exact .inr ⟨k1, by rw [h] at k2; exact k2⟩
      · exact .inr ⟨k1, by omega⟩) bs (fun s b s' hm hq hg => ⟨(passG_grow (hb b hm) hq hg).1.1, (passG_grow (hb b hm) hq hg).2⟩) (0, false, ws) s hw e

theorem m15_l0_eq {n : Nat} {bs : List Bnd} (hb : BndsIn n bs) (hl : bs.length ≤ 900000) {a0 : Int} (ha : a0.toNat = n) {ws : List Lvl} (hw : Vals n ws) :
    loopN (m15_l0 bs a0) FUEL (false, 0, ws) = some (Sum.elim (fun i => .inr ([], (i : Int), 15)) (fun s => .inl (s.2.1, s.2.2)) (passL bs ws)) := by
  have key := run_loop (step := m15_l0 bs a0) (l := bs) (fun i (s : Nat × Bool × List Lvl) => (s.2.1, i, s.2.2)) (fun s => .inl (s.2.1, s.2.2)) (fun (i : Nat) => .inr ([], (i : Int), 15)) passG (fun k s => s.1 = k ∧ Vals n s.2.2) hl (fun k b s hx hs => by
    have hk := (List.getElem?_eq_some_iff.1 hx).1
    have hB := hb b (List.mem_of_getElem? hx)
    have key : m15_l0 bs a0 (s.2.1, (k : Int), s.2.2) = some (Sum.elim (fun i => .done (.inr ([], (i : Int), 15))) (fun s => .next (s.2.1, w64 ((k : Int) + 1), s.2.2)) (passG s b)) := by
      unfold m15_l0 passG
      dsimp only
      rw [decide_eq_true (by omega : (k : Int) < bs.length), cond_true, idx_nat (Int.natCast_nonneg _) (by simpa using hx), Option.bind_some, ha, m31o_eq hB.1 hB.2 hs.2, Option.bind_some]
      cases visL b s.2.2 with
      | inl r => rw [hs.1]; rfl
      | inr r => cases s.2.1 <;> rfl
    cases hg : passG s b with
    | inl r => rw [hg] at key; exact key
    | inr s' =>
      rw [hg] at key
      obtain ⟨⟨h1, h2⟩, -⟩ := passG_grow hB hs.2 hg
      exact ⟨key, by rw [h2, hs.1], h1⟩) (fun s _ => by unfold m15_l0; dsimp only; rw [decide_eq_false (by omega), cond_false]) (0, false, ws) ⟨rfl, hw⟩
  exact key
/-- passes until nothing changes; left: the index of the bound that fails -/
def solveN (bs : List Bnd) : Nat → List Lvl → Nat ⊕ List Lvl
  | 0, ws => .inr ws
  | k + 1, ws => match passL bs ws with
    | .inl i => .inl i
    | .inr s => cond s.2.1 (solveN bs k s.2.2) (.inr s.2.2)
def outS : Nat ⊕ List Lvl → List Lvl ⊕ (List Lvl × Int × Int) := Sum.elim (fun i => .inr ([], (i : Int), 15)) .inl

theorem pass_count : ∀ (l : List Bnd) (a s' : Nat × Bool × List Lvl), runG passG l a = .inr s' → s'.1 = a.1 + l.length
  | [], a, s', h => by cases h; rfl
  | b :: l, a, s', h => by
    unfold runG at h
    cases hx : passG a b with
    | inl e => rw [hx] at h; cases h
    | inr a1 =>
      rw [hx] at h
      have := pass_count l a1 s' h
      have h1 : a1.1 = a.1 + 1 := by
        unfold passG at hx
        cases hvv : visL b a.2.2 with
        | inl r => rw [hvv] at hx; cases hx
        | inr r => rw [hvv] at hx; cases hx; rfl
      rw [this, h1, List.length_cons]; omega
/-- what a pass says of the passes that follow -/
theorem solve_inl {bs : List Bnd} {ws : List Lvl} {i : Nat} (hp : passL bs ws = .inl i) (k : Nat) : solveN bs (k + 1) ws = .inl i := by rw [solveN, hp]
theorem solve_inr {bs : List Bnd} {ws : List Lvl} {s : Nat × Bool × List Lvl} (hp : passL bs ws = .inr s) (k : Nat) : solveN bs (k + 1) ws = cond s.2.1 (solveN bs k s.2.2) (.inr s.2.2) := by rw [solveN, hp]

theorem loop15 {n : Nat} {bs : List Bnd} (hb : BndsIn n bs) (hl : bs.length ≤ 900000) {a0 : Int} (ha : a0.toNat = n) : ∀ (k : Nat) (ws : List Lvl), Vals n ws → n * 908 < mu ws + k → ∀ N, k ≤ N →
    loopN (m15_l1 bs a0) N ws = some (outS (solveN bs k ws)) ∧ ∀ r, solveN bs k ws = .inr r → Vals n r ∧ passL bs r = .inr (bs.length, false, r)
  | 0, ws, hw, h, N, hN => by have := mu_le hw; omega
  | k + 1, ws, hw, h, 0, hN => by omega
  | k + 1, ws, hw, h, N + 1, hN => by
    have e15 := m15_l0_eq hb hl ha hw
    cases hp : passL bs ws with
    | inl i =>
      rw [hp] at e15
      rw [solve_inl hp k]
      have : m15_l1 bs a0 ws = some (.done (.inr ([], (i : Int), 15))) := by unfold m15_l1; rw [e15]; rfl
      exact ⟨by simp only [loopN, this]; rfl, fun r hr => by cases hr⟩
    | inr s =>
      rw [hp] at e15
      obtain ⟨hv, hg⟩ := passL_grow hb hw hp
      have s15 : m15_l1 bs a0 ws = some (cond (!s.2.1) (.done (.inl s.2.2)) (.next s.2.2)) := by
        unfold m15_l1; rw [e15]
        simp only [Option.bind_some, Sum.elim_inr, Sum.elim_inl]
        cases s.2.1 <;> rfl
      rw [solve_inr hp k]
      cases ha1 : s.2.1 with
      | false =>
        rw [ha1] at s15
        have ew : s.2 = (false, ws) := hg.resolve_right fun h => by rw [ha1] at h; cases h.1
        refine ⟨by simp only [loopN, s15]; rfl, fun r hr => ?_⟩
        cases hr
        refine ⟨hv, ?_⟩
        have e2 : s.2.2 = ws := by rw [ew]
        have e1 : s.1 = bs.length := by simpa using pass_count bs (0, false, ws) s hp
        rw [e2, hp, ← e1, ← ew]
      | true =>
        rw [ha1] at s15
        have hmu : mu ws < mu s.2.2 := by
          rcases hg with h | h
          · rw [h] at ha1; cases ha1
          · exact h.2
        obtain ⟨h1, h3⟩ := loop15 hb hl ha k s.2.2 hv (by omega) N (by omega)
        exact ⟨by simp only [loopN, s15, Bool.not_true, cond_false]; exact h1, h3⟩

/-! ### Check says that bounds are in order -/
theorem firstR_at {α β : Type} {f : Nat → α → Option β} : ∀ (l : List α) (k : Nat), firstR f l k = none → ∀ x ∈ l, ∃ j, f j x = none
  | [], _, _, x, hx => by cases hx
  | y :: l, k, h, x, hx => by
    unfold firstR at h
    cases hf : f k y with
    | some b => rw [hf] at h; cases h
    | none =>
      rw [hf] at h
      rcases List.mem_cons.1 hx with rfl | hx
      · exact ⟨k, hf⟩
      · exact firstR_at l (k + 1) h x hx
theorem firstR_some {α β : Type} {f : Nat → α → Option β} {b : β} : ∀ (l : List α) (k : Nat), firstR f l k = some b → ∃ j x, f j x = some b
  | [], _, h => by cases h
  | y :: l, k, h => by
    unfold firstR at h
    cases hf : f k y with
    | some c => rw [hf] at h; cases h; exact ⟨k, y, hf⟩
    | none => rw [hf] at h; exact firstR_some l (k + 1) h
theorem bey_in {L : Lvl} {m : Int} (hm : 0 ≤ m) (h : validB L = true) (hb : beyB L m = false) : LvlIn m.toNat L := by
  refine ⟨h, fun v hv hn => ?_⟩
  rw [beyB_valid h, List.any_eq_false] at hb
  have := hb v hv
  simp only [Bool.and_eq_true, decide_eq_true_eq, not_and] at this
  have := this hn
  omega
theorem chk_zero {m : Int} {bs : List Bnd} (h : (chkL m bs).2 = 0) : (0 ≤ m ∧ m ≤ 2000) ∧ ∀ b ∈ bs, chkB m b = 0 := by
  unfold chkL at h
  by_cases hm : m < 0 ∨ 2000 < m
  · rw [if_pos hm] at h; cases h
  · rw [if_neg hm] at h
    refine ⟨by omega, fun b hb => ?_⟩
    have hn : firstR (chkF m) bs 0 = none := by
      cases hf : firstR (chkF m) bs 0 with
      | none => rfl
      | some r =>
        rw [hf] at h
        obtain ⟨j, x, hx⟩ := firstR_some _ _ hf
        unfold chkF at hx
        by_cases hc : chkB m x = 0
        · rw [hc] at hx; cases hx
        · rw [if_neg (by simpa using hc)] at hx
          cases hx
          exact absurd h hc
    obtain ⟨j, hj⟩ := firstR_at _ _ hn b hb
    unfold chkF at hj
    by_cases hc : chkB m b = 0
    · exact hc
    · rw [if_neg (by simpa using hc)] at hj; cases hj
theorem chk_of {m : Int} {bs : List Bnd} (hm : 0 ≤ m ∧ m ≤ 2000) (h : ∀ b ∈ bs, chkB m b = 0) : (chkL m bs).2 = 0 := by
  unfold chkL
  rw [if_neg (by omega)]
  have : ∀ (l : List Bnd) (k : Nat), (∀ b ∈ l, chkB m b = 0) → firstR (chkF m) l k = none := by
    intro l
    induction l with
    | nil => intro k _; rfl
    | cons b l ih =>
      intro k hl
      unfold firstR
      have e : chkF m k b = none := by unfold chkF; rw [hl b List.mem_cons_self]; rfl
      rw [e]
      exact ih _ fun x hx => hl x (List.mem_cons_of_mem _ hx)
  rw [this bs 0 h]
  rfl
theorem chk_in {m : Int} {bs : List Bnd} (h : (chkL m bs).2 = 0) : 0 ≤ m ∧ m ≤ 2000 ∧ BndsIn m.toNat bs := by
  obtain ⟨hm, hz⟩ := chk_zero h
  refine ⟨hm.1, hm.2, fun b hb => ?_⟩
  have hc := hz b hb
  unfold chkB at hc
  cases hlo : validB b.lo <;> cases hhi : validB b.hi <;> rw [hlo, hhi] at hc
  · cases hc
  · cases hc
  · cases hc
  · cases h1 : beyB b.lo m <;> cases h2 : beyB b.hi m <;> rw [h1, h2] at hc
    · exact ⟨bey_in (by omega) hlo h1, bey_in (by omega) hhi h2⟩
    · cases hc
    · cases hc
    · cases hc

/-- what Solve returns -/
def zeros (n : Nat) : List Lvl := List.replicate n ⟨0, []⟩
theorem zeros_vals {n : Nat} (h : n ≤ 100000) : Vals n (zeros n) := ⟨List.length_replicate, fun w hw => by rw [List.eq_of_mem_replicate hw]; rfl, h⟩
def solL (m : Int) (bs : List Bnd) : List Lvl × Int × Int := if (chkL m bs).2 = 0 then Sum.elim (fun ws => (ws, 0, 0)) id (outS (solveN bs 20000 (zeros m.toNat))) else ([], chkL m bs)

theorem solve15 {m : Int} {bs : List Bnd} (hs : shortVs bs) (hm : m ≤ 10 ∨ 2000 < m) : m15 m bs = some (solL m bs) ∧
    ((solL m bs).2.2 = 0 → (chkL m bs).2 = 0 ∧ 0 ≤ m ∧ m ≤ 10 ∧ BndsIn m.toNat bs ∧ Vals m.toNat (solL m bs).1 ∧ passL bs (solL m bs).1 = .inr (bs.length, false, (solL m bs).1) ∧ (solL m bs).2.1 = 0) ∧ ((solL m bs).2.2 ≠ 0 → (solL m bs).1 = []) := by
  unfold m15 solL
  rw [m13_eq m bs hs, Option.bind_some]
  by_cases hc : (chkL m bs).2 = 0
  · obtain ⟨h0, h1, hB⟩ := chk_in hc
    have e1 : ((chkL m bs).2 != 0) = false := by rw [hc]; rfl
    have hn : m.toNat ≤ 10 := by omega
    have hz := zeros_vals (n := m.toNat) (by omega)
    obtain ⟨l15, l3⟩ := loop15 hB (by have := hs.1; omega) rfl 20000 (zeros m.toNat) hz (by have : m.toNat * 908 ≤ 10 * 908 := Nat.mul_le_mul_right _ hn; omega) FUEL (by decide)
    rw [e1, cond_false, if_pos hc, guard_t (by rw [decide_eq_true h0, cond_true]; exact ble_t (by omega))]
    show Option.bind (loopN (m15_l1 bs m) FUEL (zeros m.toNat)) _ = _ ∧ _
    rw [l15, Option.bind_some]
    cases hr : solveN bs 20000 (zeros m.toNat) with
    | inl i => exact ⟨rfl, fun h => (by cases h), fun _ => rfl⟩
    | inr ws =>
      obtain ⟨v1, v2⟩ := l3 ws hr
      have eb : Nat.beq ws.length m.toNat = true := by rw [v1.len]; exact Nat.beq_refl _
      refine ⟨?_, fun _ => ⟨hc, h0, by omega, hB, v1, v2, rfl⟩, fun h => absurd rfl h⟩
      show guardO (Nat.beq ws.length m.toNat) _ = _
      rw [guard_t eb]; rfl
  · have e1 : ((chkL m bs).2 != 0) = true := by simpa using hc
    rw [e1, cond_true, if_neg hc]
    exact ⟨rfl, fun h => absurd h hc, fun _ => rfl⟩
end

end Go.Proofs.Ytkimijmiphkddaa
