/- Plain laws: raise visits a bound as the reference does; values grow. -/
import Derived.Test.YtkimijmiphkddaaPt
namespace Go.Proofs.Ytkimijmiphkddaa
open Go.RowKit
set_option linter.unusedSimpArgs false
set_option linter.unusedVariables false

theorem bind_of {α β : Type} {o : Option α} {f : α → Option β} {r : α} {R : Option β} (h : o = some r) (k : f r = R) : Option.bind o f = R := by rw [h]; exact k
theorem vis_err {hi : Lvl} {s e : List Lvl × Bool} {p : Lvl} (h : visG hi s p = .inl e) : e = s := by
  unfold visG at h
  split at h
  · split at h
    · cases h
    · split at h
      · cases h; rfl
      · cases h
  · cases h; rfl

theorem vis_code {n : Nat} {hi : Lvl} (hb : LvlIn n hi) {s : List Lvl × Bool} (hs : Vals n s.1) {p : Lvl} (hp : PartL p) :
    (Option.bind (m48o hi s.1 n) fun (x19 : Int × Int × (List LV)) =>
  cond (x19.1 != 0)
    (some (.inr ()))
    (guardO ((cond (Nat.ble p.vs.length 100000) (Nat.ble (⟨x19.2.1, x19.2.2⟩ : Lvl).vs.length 100000) false))
  (cond (leqB p (⟨x19.2.1, x19.2.2⟩ : Lvl))
    (some (.inl (s.1, s.2)))
    (Option.bind (m54 hi) fun (x23 : Int × Int) =>
  cond (decide (x23.1 < 0))
    (some (.inr ()))
    (Option.bind (idx s.1 x23.1) fun (x25 : Lvl) =>
  guardO (Nat.beq s.1.length n)
  (Option.bind (m56 p x23.2) fun (x27 : Lvl) =>
  Option.bind (m55 x25 x27) fun (x28 : Lvl × Int) =>
  cond (x28.2 != 0)
    (some (.inr ()))
    (Option.bind (idx s.1 x23.1) fun (x30 : Lvl) =>
  guardO (Nat.beq s.1.length n)
  (some (.inl ((s.1.set x23.1.toNat x28.1), true))))))))) : Option ((List Lvl × Bool) ⊕ Unit)) = some (Sum.elim (fun _ => .inr ()) .inl (visG hi s p)) := by
  have ea : m48o hi s.1 n = some (fl (assL hi s.1)) := by
    have := m48o_eq (L := hi) hb.len hs.fit
    rwa [hs.len] at this
  have hPv := (valB_iff.1 hp.val).1
  unfold visG
  rw [ea, Option.bind_some]
  show cond ((assL hi s.1).2 != 0) _ _ = _
  by_cases he : (assL hi s.1).2 = 0
  · have e1 : ((assL hi s.1).2 != 0) = false := by rw [he]; rfl
    have hV := ass_val hb hs he
    rw [e1, cond_false, if_pos he, guard_t (by rw [ble_t (wf_valid hPv).len, cond_true]; exact ble_t (wf_valid (valB_iff.1 hV).1).len)]
    show cond (leqB p (assL hi s.1).1) _ _ = _
    cases hq : leqB p (assL hi s.1).1 with
    | true => rfl
    | false =>
      rw [cond_false, if_neg Bool.false_ne_true, m54_eq (wf_valid hb.valid), Option.bind_some]
      by_cases hf : (firstL hi).1 < 0
      · rw [decide_eq_true hf, cond_true, if_pos hf]; rfl
      · obtain ⟨m, v, f1, f2, f3, f4⟩ := first_at hb hs hf
        have hvk := okV_valid hb.valid f2
        have hL := (valB_iff.1 (low_part hp ⟨hvk.2.2.1, hvk.2.2.2⟩).val).1
        have hW := (valB_iff.1 (valV_val hs f3)).1
        rw [decide_eq_false hf, cond_false, if_neg hf, f1]
        dsimp only
        rw [idx_nat (Int.natCast_nonneg _) (by simpa using f4), Option.bind_some, guard_t (by rw [hs.len]; simp), m56_eq hPv ⟨hvk.2.2.1, hvk.2.2.2⟩, Option.bind_some, m55_eq (wf_valid hW).len (wf_valid hL).len, maxL_ok hW hL, Option.bind_some, show (((joinL (valV s.1 v) (lowL p v.2), (0 : Int)).2 != 0)) = false from rfl, cond_false, Option.bind_some, guard_t (by rw [hs.len]; simp)]
        rw [Int.toNat_natCast, List.getD_eq_getElem?_getD, f4]
        rfl
  · have e1 : ((assL hi s.1).2 != 0) = true := by simpa using he
    rw [e1, cond_true, if_neg he]; rfl

theorem m31o_l0_eq {n : Nat} {b : Bnd} (hb : LvlIn n b.hi) {e c : Int} {vs : List LV} (hp : ∀ v ∈ vs, PartL ⟨0, [v]⟩) (hl : vs.length ≤ 900000) {s : List Lvl × Bool} (hs : Vals n s.1) :
    loopN (m31o_l0 (e, c, vs) b n) FUEL (0, s.1, s.2) = some (Sum.elim (fun s => .inr (.inr (s.1, s.2))) (fun s => .inl (s.1, s.2)) (runG (fun s v => visG b.hi s ⟨0, [v]⟩) vs s)) := by
  have key := run_loop (step := m31o_l0 (e, c, vs) b n) (l := vs) (fun i (s : List Lvl × Bool) => (i, s.1, s.2)) (fun s => .inl (s.1, s.2)) (fun (s : List Lvl × Bool) => .inr (.inr (s.1, s.2))) (fun s v => visG b.hi s ⟨0, [v]⟩) (fun _ s => Vals n s.1) hl (fun k v s hx hs => by
    have hk := (List.getElem?_eq_some_iff.1 hx).1
    have hP := hp v (List.mem_of_getElem? hx)
    have hc := vis_code hb hs hP
    have key : m31o_l0 (e, c, vs) b n ((k : Int), s.1, s.2) = some (Sum.elim (fun _ => .done (.inr (.inr (s.1, s.2)))) (fun s => .next (w64 ((k : Int) + 1), s.1, s.2)) (visG b.hi s ⟨0, [v]⟩)) := by
      unfold m31o_l0
      dsimp only
      rw [decide_eq_true (by omega : (k : Int) < vs.length), cond_true, idx_nat (Int.natCast_nonneg _) (by simpa using hx), Option.bind_some]
      refine bind_of hc ?_
      cases visG b.hi s ⟨0, [v]⟩ <;> rfl
    cases hg : visG b.hi s ⟨0, [v]⟩ with
    | inl r => rw [hg] at key; rw [vis_err hg]; exact key
    | inr s' => rw [hg] at key; exact ⟨key, vis_vals hb hs hP hg⟩) (fun s _ => by unfold m31o_l0; dsimp only; rw [decide_eq_false (by omega), cond_false]) s hs
  exact key

theorem m31o_eq {n : Nat} {b : Bnd} (hl : LvlIn n b.lo) (hb : LvlIn n b.hi) {ws : List Lvl} (hw : Vals n ws) :
    m31o ws b n = some (Sum.elim (fun s => (s.1, false, 15)) (fun s => (s.1, s.2, 0)) (visL b ws)) := by
  unfold m31o visL
  have ea : m48o b.lo ws n = some (fl (assL b.lo ws)) := by
    have := m48o_eq (L := b.lo) hl.len hw.fit
    rwa [hw.len] at this
  rw [ea, Option.bind_some]
  show cond ((assL b.lo ws).2 != 0) _ _ = _
  by_cases he : (assL b.lo ws).2 = 0
  · have e1 : ((assL b.lo ws).2 != 0) = false := by rw [he]; rfl
    have hV := ass_val hl hw he
    have hlen := (wf_valid (valB_iff.1 hV).1).len
    rw [e1, cond_false, if_pos he, Option.bind_some]
    have hP : ∀ v ∈ (assL b.lo ws).1.vs, PartL ⟨0, [v]⟩ := fun v hv => parts_part hV (mem_parts hv)
    have hC : 0 < (assL b.lo ws).1.c ∨ (assL b.lo ws).1.vs = [] → PartL ⟨(assL b.lo ws).1.c, []⟩ := fun h => parts_part hV (by unfold partsL; rw [if_pos h]; simp)
    -- the rest: from the state behind the constant
    have rest : ∀ (r : (List Lvl × Bool) ⊕ (List Lvl × Bool)), (∀ s, r = .inr s → Vals n s.1) → (∀ s, r = .inl s → s = (ws, false)) →
        Option.bind (Option.bind (some (Sum.elim (fun _ => Sum.inr ()) Sum.inl r : (List Lvl × Bool) ⊕ Unit)) (Sum.elim (fun (v9 : (List Lvl) × Bool) => Option.bind (loopN (m31o_l0 (fl (assL b.lo ws)) b n) FUEL (0, v9.1, v9.2)) (Sum.elim (fun (o11 : (List Lvl) × Bool) => some (.inl (o11.1, o11.2))) (fun o => some o))) (fun (v10 : Unit) => some (.inr (ws, false))))) (Sum.elim (fun (y5 : (List Lvl) × Bool) => some (y5.1, y5.2, (0 : Int))) (fun (y6 : (List Lvl) × Bool) => some (y6.1, false, 15)))
        = some (Sum.elim (fun s => (s.1, false, 15)) (fun s => (s.1, s.2, 0)) (Sum.elim Sum.inl (fun s' => runG (visG b.hi) ((assL b.lo ws).1.vs.map fun v => (⟨0, [v]⟩ : Lvl)) s') r)) := by
      intro r h1 h2
      cases r with
      | inl s => rw [h2 s rfl]; rfl
      | inr s =>
        simp only [Sum.elim_inr, Sum.elim_inl, Option.bind_some]
        rw [run_map, show loopN (m31o_l0 (fl (assL b.lo ws)) b n) FUEL (0, s.1, s.2) = _ from m31o_l0_eq (e := (assL b.lo ws).2) (c := (assL b.lo ws).1.c) hb hP (by omega) (h1 s rfl), Option.bind_some]
        cases runG (fun s v => visG b.hi s ⟨0, [v]⟩) (assL b.lo ws).1.vs s <;> rfl
    unfold partsL
    rw [run_append]
    have one : ∀ p, PartL p → runG (visG b.hi) [p] (ws, false) = visG b.hi (ws, false) p := fun p _ => by
      unfold runG
      cases visG b.hi (ws, false) p <;> rfl
    by_cases hc : 0 < (assL b.lo ws).1.c
    · have hp := hC (.inl hc)
      rw [show decide (0 < (fl (assL b.lo ws)).2.1) = true from decide_eq_true hc, cond_true, if_pos (.inl hc), one _ hp]
      refine (congrArg (fun z => Option.bind (Option.bind z _) _) (bind_of (vis_code (s := (ws, false)) hb hw hp) (R := some (Sum.elim (fun _ => Sum.inr ()) Sum.inl (visG b.hi (ws, false) ⟨(assL b.lo ws).1.c, []⟩) : (List Lvl × Bool) ⊕ Unit)) ?_)).trans (rest _ (fun s hs => vis_vals (s := (ws, false)) hb hw hp hs) (fun s hs => vis_err hs))
      cases visG b.hi (ws, false) ⟨(assL b.lo ws).1.c, []⟩ <;> rfl
    · rw [show decide (0 < (fl (assL b.lo ws)).2.1) = false from decide_eq_false hc, cond_false]
      by_cases hv : (assL b.lo ws).1.vs = []
      · have hp := hC (.inr hv)
        rw [show (((fl (assL b.lo ws)).2.2.length : Int) == 0) = true by show (((assL b.lo ws).1.vs.length : Int) == 0) = true; rw [hv]; rfl, cond_true, if_pos (.inr hv), one _ hp]
        refine (congrArg (fun z => Option.bind (Option.bind z _) _) (bind_of (vis_code (s := (ws, false)) hb hw hp) (R := some (Sum.elim (fun _ => Sum.inr ()) Sum.inl (visG b.hi (ws, false) ⟨(assL b.lo ws).1.c, []⟩) : (List Lvl × Bool) ⊕ Unit)) ?_)).trans (rest _ (fun s hs => vis_vals (s := (ws, false)) hb hw hp hs) (fun s hs => vis_err hs))
        cases visG b.hi (ws, false) ⟨(assL b.lo ws).1.c, []⟩ <;> rfl
      · rw [show (((fl (assL b.lo ws)).2.2.length : Int) == 0) = false by show (((assL b.lo ws).1.vs.length : Int) == 0) = false; simp; exact hv, cond_false, if_neg (by simp [hc, hv])]
        exact rest (.inr (ws, false)) (fun s hs => by cases hs; exact hw) (fun s hs => by cases hs)
  · have e1 : ((assL b.lo ws).2 != 0) = true := by simpa using he
    rw [e1, cond_true, if_neg he]; rfl

/-! ### Values grow -/
def gs : Option Int → Nat
  | none => 0
  | some p => p.toNat + 1
def muV (w : Lvl) : Nat := (topL w).toNat + ((List.range 8).map fun (i : Nat) => gs (getV w.vs (i : Int))).sum
def mu (ws : List Lvl) : Nat := (ws.map muV).sum

theorem sum_le {α : Type} {f g : α → Nat} : ∀ (l : List α), (∀ x ∈ l, f x ≤ g x) → (l.map f).sum ≤ (l.map g).sum
  | [], _ => Nat.le_refl _
  | x :: l, h => by
    have h1 := h x List.mem_cons_self
    have h2 := sum_le l fun y hy => h y (List.mem_cons_of_mem _ hy)
    simp only [List.map_cons, List.sum_cons]; omega
theorem sum_lt {α : Type} {f g : α → Nat} : ∀ (l : List α), (∀ x ∈ l, f x ≤ g x) → (∃ x ∈ l, f x < g x) → (l.map f).sum < (l.map g).sum
  | [], _, h => by obtain ⟨x, hx, -⟩ := h; cases hx
  | x :: l, h, ⟨y, hy, hlt⟩ => by
    have h1 := h x List.mem_cons_self
    have hl : ∀ y ∈ l, f y ≤ g y := fun y hy => h y (List.mem_cons_of_mem _ hy)
    have h2 := sum_le l hl
    simp only [List.map_cons, List.sum_cons]
    rcases List.mem_cons.1 hy with rfl | hy
    · omega
    · have := sum_lt l hl ⟨y, hy, hlt⟩
      omega
theorem sum_set {α : Type} {f : α → Nat} {x : α} : ∀ (l : List α) (m : Nat) (w : α), l[m]? = some w → f w < f x → (l.map f).sum < ((l.set m x).map f).sum
  | [], m, w, h, _ => by cases h
  | y :: l, 0, w, h, hlt => by
    cases h
    simp only [List.set_cons_zero, List.map_cons, List.sum_cons]; omega
  | y :: l, m + 1, w, h, hlt => by
    have := sum_set l m w (by simpa using h) hlt
    simp only [List.set_cons_succ, List.map_cons, List.sum_cons]; omega
theorem sum_bound {α : Type} {f : α → Nat} {B : Nat} : ∀ (l : List α), (∀ x ∈ l, f x ≤ B) → (l.map f).sum ≤ l.length * B
  | [], _ => by simp
  | x :: l, h => by
    have h1 := h x List.mem_cons_self
    have h2 := sum_bound l fun y hy => h y (List.mem_cons_of_mem _ hy)
    simp only [List.map_cons, List.sum_cons, List.length_cons, Nat.add_mul]; omega

theorem top_val {w : Lvl} (h : validB w = true) : 0 ≤ topL w ∧ topL w ≤ 100 := by
  refine ⟨?_, topL_le.2 ⟨(valid_c h).2, fun x hx => (okV_valid h hx).2.2.2⟩⟩
  have := (valid_c h).1
  have := top_ge w.c w.vs
  unfold topL; omega
theorem muV_lt {w w' : Lvl} (h1 : valB w = true) (h2 : valB w' = true) (hle : leL w w') (hn : ¬ leL w' w) : muV w < muV w' := by
  obtain ⟨v1, n1⟩ := valB_iff.1 h1
  obtain ⟨v2, n2⟩ := valB_iff.1 h2
  have t1 := top_val v1
  have t := hle.top
  have a1 := (wf_valid v1).1
  have a2 := (wf_valid v2).1
  have mono : ∀ i ∈ List.range 8, gs (getV w.vs ((i : Nat) : Int)) ≤ gs (getV w'.vs ((i : Nat) : Int)) := by
    intro i _
    cases hg : getV w.vs ((i : Nat) : Int) with
    | none => exact Nat.zero_le _
    | some p =>
      obtain ⟨y, hy, e, hp⟩ := hle.2 _ ((getV_mem a1).1 hg)
      dsimp only at e hp
      rw [← e, getV_of_mem a2 hy]
      show p.toNat + 1 ≤ y.2.toNat + 1
      omega
  unfold muV
  have hs := sum_le _ mono
  by_cases ht : topL w < topL w'
  · omega
  · have : ∃ i ∈ List.range 8, gs (getV w.vs ((i : Nat) : Int)) < gs (getV w'.vs ((i : Nat) : Int)) := by
      have hx : ∃ x ∈ w'.vs, ¬ inB x w := by
        refine Classical.byContradiction fun hc => hn ⟨?_, fun x hx => Classical.byContradiction fun h => hc ⟨x, hx, h⟩⟩
        have := top_ge w'.c w'.vs
        have e : topL w' = topOf w'.c w'.vs := rfl
        omega
      obtain ⟨x, hx, hnx⟩ := hx
      have hv := okV_valid v2 hx
      have h0 := n2 x hx
      have h3 := hv.2.2.1; have h4 := hv.2.1
      have ei : ((x.1.toNat : Nat) : Int) = x.1 := Int.toNat_of_nonneg h0
      refine ⟨x.1.toNat, List.mem_range.2 (by omega), ?_⟩
      rw [ei, getV_of_mem a2 hx]
      cases hg : getV w.vs x.1 with
      | none => show 0 < x.2.toNat + 1; omega
      | some p =>
        have hm := (getV_mem a1).1 hg
        have : p < x.2 := Int.not_le.1 fun hle => hnx ⟨_, hm, rfl, hle⟩
        have hp := (okV_valid v1 hm).2.2.1
        dsimp only at hp
        show p.toNat + 1 < x.2.toNat + 1
        omega
    have := sum_lt _ mono this
    omega
theorem muV_le {w : Lvl} (h : valB w = true) : muV w ≤ 908 := by
  obtain ⟨v1, n1⟩ := valB_iff.1 h
  have t := top_val v1
  have : ((List.range 8).map fun (i : Nat) => gs (getV w.vs (i : Int))).sum ≤ (List.range 8).length * 101 := sum_bound _ fun i _ => by
    cases hg : getV w.vs ((i : Nat) : Int) with
    | none => exact Nat.zero_le _
    | some p =>
      have := (okV_valid v1 ((getV_mem (wf_valid v1).1).1 hg)).2.2.2
      dsimp only at this
      show p.toNat + 1 ≤ 101
      omega
  simp only [List.length_range] at this
  unfold muV; omega
theorem mu_le {n : Nat} {ws : List Lvl} (h : Vals n ws) : mu ws ≤ n * 908 := by
  have := sum_bound (f := muV) ws fun w hw => muV_le (h.val w hw)
  rw [h.len] at this
  exact this

/-- what a value plus the offset does not reach, raises it -/
theorem low_le {n : Nat} {hi : Lvl} (h : LvlIn n hi) {ws : List Lvl} (hw : Vals n ws) {p : Lvl} (hp : PartL p) (he : (assL hi ws).2 = 0) {v : LV} (hv : v ∈ hi.vs) (hh : hasV ws v) (hl : leL (lowL p v.2) (valV ws v)) : leqB p (assL hi ws).1 = true := by
  obtain ⟨-, -, e3, -, e5⟩ := ass_ok h.valid hw.valid he
  have k := leW.self h.valid hw.valid hv
  have kt := k.top hh
  have hk := (okV_valid h.valid hv).2.2.1
  refine leqB_iff.2 ⟨(valB_iff.1 hp.val).1, e3, leL.trans ?_ e5⟩
  unfold leW at k
  rw [if_pos hh] at k
  rcases hp.one with ⟨c, rfl⟩ | ⟨u, rfl⟩
  · refine ⟨?_, fun x hx => by cases hx⟩
    have h1 : max 0 (c - v.2) ≤ topL (valV ws v) := hl.1
    show c ≤ _
    omega
  · obtain ⟨y, hy, f1, f2⟩ : inB (u.1, max 0 (u.2 - v.2)) (valV ws v) := hl.2 _ List.mem_cons_self
    obtain ⟨z, hz, f3, f4⟩ := k.2 y hy
    dsimp only at f1 f2 f3 f4
    have hu : inB u (gathL hi ws) := ⟨z, hz, by omega, by omega⟩
    have := hu.top
    have h0 := (okV_valid (valB_iff.1 hp.val).1 (v := u) List.mem_cons_self).2.2.1
    refine ⟨by show (0 : Int) ≤ _; omega, fun x hx => by simp at hx; rw [hx]; exact hu⟩

/-- nothing happens, or values grow -/
def Grow (s s' : List Lvl × Bool) : Prop := s' = s ∨ (s'.2 = true ∧ mu s.1 < mu s'.1)
theorem Grow.trans {a b c : List Lvl × Bool} (h : Grow a b) (k : Grow b c) : Grow a c := by
  rcases k with rfl | ⟨k1, k2⟩
  · exact h
  · rcases h with rfl | ⟨h1, h2⟩
    · exact .inr ⟨k1, k2⟩
    · exact .inr ⟨k1, by omega⟩
theorem vis_grow {n : Nat} {hi : Lvl} (h : LvlIn n hi) {s s' : List Lvl × Bool} (hs : Vals n s.1) {p : Lvl} (hp : PartL p) (e : visG hi s p = .inr s') : Grow s s' := by
  rcases vis_step h hs hp e with ⟨rfl, -⟩ | ⟨hq, he, m, v, e1, e2, e3, e4, rfl⟩
  · exact .inl rfl
  · refine .inr ⟨rfl, ?_⟩
    have hv := okV_valid h.valid e2
    have vw := valV_val hs e3
    have vq := (low_part hp ⟨hv.2.2.1, hv.2.2.2⟩).val
    have g1 := good_valid (valB_iff.1 vw).1
    have g2 := good_valid (valB_iff.1 vq).1
    obtain ⟨j1, j2⟩ := (join_le g1 g2).1 (leL.refl (joinL (valV s.1 v) (lowL p v.2)))
    refine sum_set _ _ _ e4 (muV_lt vw (val_join vw vq) j1 fun hle => ?_)
    have := low_le h hs hp he e2 e3 (j2.trans hle)
    rw [this] at hq; cases hq
theorem visL_grow {n : Nat} {b : Bnd} (hl : LvlIn n b.lo) (hb : LvlIn n b.hi) {ws : List Lvl} (hw : Vals n ws) {s : List Lvl × Bool} (e : visL b ws = .inr s) : Vals n s.1 ∧ Grow (ws, false) s := by
  unfold visL at e
  by_cases he : (assL b.lo ws).2 = 0
  · rw [if_pos he] at e
    exact run_inv (Q := fun s => Vals n s.1) (R := Grow) (fun s _ => .inl rfl) (fun a b c => Grow.trans) _ (fun s p s' hp hq hg => ⟨vis_vals hb hq (parts_part (ass_val hl hw he) hp) hg, vis_grow hb hq (parts_part (ass_val hl hw he) hp) hg⟩) _ _ hw e
  · rw [if_neg he] at e; cases e
end Go.Proofs.Ytkimijmiphkddaa
