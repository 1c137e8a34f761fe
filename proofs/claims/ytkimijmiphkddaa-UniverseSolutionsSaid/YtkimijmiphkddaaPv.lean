/- Plain laws: a solution holds; where each High has at most one metavariable it is the least one. -/
import Derived.Test.YtkimijmiphkddaaPu
import Derived.Test.YtkimijmiphkddaaPh
namespace Go.Proofs.Ytkimijmiphkddaa
open Go.RowKit
set_option linter.unusedSimpArgs false
set_option linter.unusedVariables false

/-! ### Where what is gathered comes from -/
theorem addV_src_c {ms : List Lvl} : ∀ (l : List LV) (s : List LV × Int), (l.foldl (addV ms) s).2 = s.2 ∨ ∃ v ∈ l, hasV ms v ∧ (l.foldl (addV ms) s).2 = (valV ms v).c + v.2
  | [], s => .inl rfl
  | v :: l, s => by
    rw [List.foldl_cons]
    rcases addV_src_c l (addV ms s v) with h | ⟨w, hw, h1, h2⟩
    · by_cases hh : hasV ms v
      · have e : (addV ms s v).2 = max s.2 ((valV ms v).c + v.2) := by unfold addV; rw [if_pos hh]
        by_cases hc : (valV ms v).c + v.2 ≤ s.2
        · exact .inl (by rw [h, e]; omega)
        · exact .inr ⟨v, List.mem_cons_self, hh, by rw [h, e]; omega⟩
      · have e : (addV ms s v).2 = s.2 := by unfold addV; rw [if_neg hh]
        exact .inl (h.trans e)
    · exact .inr ⟨w, List.mem_cons_of_mem _ hw, h1, h2⟩
theorem gath_src_c (L : Lvl) (ms : List Lvl) : (gathL L ms).c = L.c ∨ ∃ v ∈ L.vs, hasV ms v ∧ (gathL L ms).c = (valV ms v).c + v.2 := addV_src_c L.vs ([], L.c)

/-- what values w reach and s do not is reached by one metavariable -/
theorem reach {n : Nat} {hi : Lvl} (h : LvlIn n hi) {s w : List Lvl} (hs : Vals n s) (hw : Vals n w) {p : Lvl} (hp : PartL p) (h1 : leL p (gathL hi w)) (h2 : ¬ leL p (gathL hi s)) :
    ∃ v ∈ hi.vs, hasV w v ∧ leL (lowL p v.2) (valV w v) := by
  have es : ∀ v ∈ hi.vs, ¬ hasV w v → ¬ hasV s v := fun v hv hn k => hn ((h.has hw hv).2 ((h.has hs hv).1 k))
  have G := (gath_le h.valid hs.valid).1 (leL.refl (gathL hi s))
  have self : ∀ v ∈ hi.vs, ¬ hasV w v → inB v (gathL hi s) := fun v hv hn => by
    have := G.2 v hv
    unfold leW at this
    rwa [if_neg (es v hv hn)] at this
  have t0 : ∀ {v : LV}, hasV w v → 0 ≤ topL (valV w v) := fun hv => (top_val (valB_iff.1 (valV_val hw hv)).1).1
  have gs := gath_good h.valid hs.valid
  have g0 : 0 ≤ topL (gathL hi s) := by have := gs.c; have := top_ge (gathL hi s).c (gathL hi s).vs; unfold topL; omega
  rcases hp.one with ⟨c, rfl⟩ | ⟨u, rfl⟩
  · have hc : ¬ c ≤ topL (gathL hi s) := fun k => h2 ⟨k, fun x hx => by cases hx⟩
    have h1c : c ≤ topL (gathL hi w) := h1.1
    have fin : ∀ v, hasV w v → c - v.2 ≤ topL (valV w v) → leL (lowL ⟨c, []⟩ v.2) (valV w v) := fun v hv k => ⟨by have := t0 hv; show max 0 (c - v.2) ≤ _; omega, fun x hx => by cases hx⟩
    by_cases hG : c ≤ (gathL hi w).c
    · rcases gath_src_c hi w with e | ⟨v, hv, hh, e⟩
      · exact absurd (by have := G.1; omega) hc
      · exact ⟨v, hv, hh, fin v hh (by have := top_ge (valV w v).c (valV w v).vs; unfold topL; omega)⟩
    · have : ∃ y ∈ (gathL hi w).vs, c ≤ y.2 := by
        refine Classical.byContradiction fun hn => ?_
        have := topL_le.2 (⟨by omega, fun x hx => Int.not_lt.1 fun k => hn ⟨x, hx, by omega⟩⟩ : (gathL hi w).c ≤ c - 1 ∧ ∀ x ∈ (gathL hi w).vs, x.2 ≤ c - 1)
        omega
      obtain ⟨y, hy, hcy⟩ := this
      obtain ⟨v, hv, ⟨hh, x, hx, rfl⟩ | ⟨hh, rfl⟩⟩ := gath_src h.valid hw.valid hy
      · have := le_topOf (c := (valV w v).c) hx
        exact ⟨v, hv, hh, fin v hh (by dsimp only at hcy; unfold topL; omega)⟩
      · exact absurd (by have := (self y hv hh).top; omega) hc
  · have hn : ¬ inB u (gathL hi s) := fun k => h2 ⟨g0, fun x hx => by simp at hx; rw [hx]; exact k⟩
    obtain ⟨z, hz, e1, e2⟩ := h1.2 u List.mem_cons_self
    obtain ⟨v, hv, ⟨hh, x, hx, rfl⟩ | ⟨hh, rfl⟩⟩ := gath_src h.valid hw.valid hz
    · have hx0 := (okV_valid (valB_iff.1 (valV_val hw hh)).1 hx).2.2.1
      dsimp only at e1 e2
      exact ⟨v, hv, hh, t0 hh, fun y hy => by
        have : y = (u.1, max 0 (u.2 - v.2)) := by simpa [lowL] using hy
        rw [this]; exact ⟨x, hx, e1, by dsimp only; omega⟩⟩
    · obtain ⟨y, hy, f1, f2⟩ := self z hv hh
      exact absurd ⟨y, hy, by omega, by omega⟩ hn

def oneM (L : Lvl) : Prop := ∀ u ∈ L.vs, ∀ v ∈ L.vs, u.1 < 0 → v.1 < 0 → u = v
theorem vis_least {n : Nat} {hi : Lvl} (h : LvlIn n hi) (h1 : oneM hi) {s : List Lvl × Bool} {w : List Lvl} (hs : Vals n s.1) (hw : Vals n w) (hle : leM s.1 w) {p : Lvl} (hp : PartL p) (hpw : leL p (gathL hi w)) (ht : topL (gathL hi w) ≤ 100) :
    ∃ s', visG hi s p = .inr s' ∧ Vals n s'.1 ∧ leM s'.1 w := by
  have he : (assL hi s.1).2 = 0 := (ass_err h.valid hs.valid).2 (Int.le_trans (gath_mono h.valid hs.valid hw.valid hle).top ht)
  obtain ⟨-, -, a3, a4, a5⟩ := ass_ok h.valid hs.valid he
  cases hq : leqB p (assL hi s.1).1 with
  | true => exact ⟨s, by unfold visG; rw [if_pos he, hq, if_pos rfl], hs, hle⟩
  | false =>
    have hn : ¬ leL p (gathL hi s.1) := fun k => by
      have := leqB_iff.2 ⟨(valB_iff.1 hp.val).1, a3, k.trans a5⟩
      rw [this] at hq; cases hq
    obtain ⟨v, hv, hh, hl⟩ := reach h hs hw hp hpw hn
    have hf : ¬ (firstL hi).1 < 0 := fun k => by
      have e := firstL_any (wf_valid h.valid)
      have e2 : (hi.vs.any fun x => decide (x.1 < 0)) = true := List.any_eq_true.2 ⟨v, hv, decide_eq_true hh.1⟩
      rw [e2, decide_eq_true_eq] at e
      omega
    obtain ⟨m, v', e1, e2, e3, e4⟩ := first_at h hs hf
    obtain rfl := h1 v hv v' e2 hh.1 e3.1
    have em : m = (-1 - v.1).toNat := by
      obtain ⟨v2, hv2, hn2, e5⟩ := first_mem (wf_valid h.valid) hf
      rw [e1] at e5
      have h5 := congrArg Prod.fst e5
      have h6 : v2 = v := h1 v2 hv2 v hv hn2 hh.1
      rw [h6] at h5
      dsimp only at h5
      omega
    have ev : visG hi s p = .inr (s.1.set m (joinL (valV s.1 v) (lowL p v.2)), true) := by
      unfold visG
      rw [if_pos he, hq, if_neg Bool.false_ne_true, if_neg hf, e1]
      dsimp only
      rw [Int.toNat_natCast, List.getD_eq_getElem?_getD, e4]
      rfl
    refine ⟨_, ev, vis_vals h hs hp ev, ?_, fun i x y hx hy => ?_⟩
    · show (s.1.set m _).length = w.length
      rw [List.length_set]; exact hle.1
    · have hvk := okV_valid h.valid hv
      by_cases hi' : m = i
      · subst hi'
        have hlt := (List.getElem?_eq_some_iff.1 e4).1
        have ex : x = joinL (valV s.1 v) (lowL p v.2) := by
          have : (s.1.set m (joinL (valV s.1 v) (lowL p v.2)))[m]? = some (joinL (valV s.1 v) (lowL p v.2)) := List.getElem?_set_self hlt
          rw [show (s.1.set m (joinL (valV s.1 v) (lowL p v.2)), true).1 = s.1.set m (joinL (valV s.1 v) (lowL p v.2)) from rfl, this] at hx
          cases hx; rfl
        have ew := valV_at hh
        rw [← em, hy] at ew
        cases ew
        rw [ex]
        refine (join_le (good_valid (valB_iff.1 (valV_val hs e3)).1) (good_valid (valB_iff.1 (low_part hp ⟨hvk.2.2.1, hvk.2.2.2⟩).val).1)).2 ⟨?_, hl⟩
        exact hle.2 m _ _ e4 hy
      · have hx2 : s.1[i]? = some x := by
          have := List.getElem?_set_ne (a := joinL (valV s.1 v) (lowL p v.2)) (l := s.1) hi'
          rw [← this]; exact hx
        exact hle.2 i x y hx2 hy

theorem run_ex {α σ ε : Type} {g : σ → α → ε ⊕ σ} {Q : σ → Prop} : ∀ (l : List α), (∀ s x, x ∈ l → Q s → ∃ s', g s x = .inr s' ∧ Q s') → ∀ s, Q s → ∃ s', runG g l s = .inr s' ∧ Q s'
  | [], _, s, hq => ⟨s, rfl, hq⟩
  | x :: l, h, s, hq => by
    obtain ⟨s1, h1, q1⟩ := h s x List.mem_cons_self hq
    obtain ⟨s2, h2, q2⟩ := run_ex l (fun s y hy => h s y (List.mem_cons_of_mem _ hy)) s1 q1
    exact ⟨s2, by unfold runG; rw [h1]; exact h2, q2⟩
theorem part_le {L : Lvl} (h : validB L = true) {p : Lvl} (hp : p ∈ partsL L) : leL p L := by
  unfold partsL at hp
  rcases List.mem_append.1 hp with hp | hp
  · split at hp
    · simp at hp; rw [hp]; exact ⟨top_ge _ _, fun x hx => by cases hx⟩
    · cases hp
  · obtain ⟨v, hv, rfl⟩ := List.mem_map.1 hp
    exact ⟨(top_val h).1, fun x hx => by simp at hx; rw [hx]; exact ⟨v, hv, rfl, Int.le_refl _⟩⟩

/-- a bound holds for values -/
def Hold (ws : List Lvl) (b : Bnd) : Prop := (assL b.lo ws).2 = 0 ∧ (assL b.hi ws).2 = 0 ∧ leqB (assL b.lo ws).1 (assL b.hi ws).1 = true
theorem visL_least {n : Nat} {b : Bnd} (hb : LvlIn n b.lo ∧ LvlIn n b.hi) (h1 : oneM b.hi) {ws w : List Lvl} (hs : Vals n ws) (hw : Vals n w) (hle : leM ws w) (hh : Hold w b) : ∃ s, visL b ws = .inr s ∧ Vals n s.1 ∧ leM s.1 w := by
  obtain ⟨k1, k2, k3⟩ := hh
  obtain ⟨-, l2, l3, l4, l5⟩ := ass_ok hb.1.valid hw.valid k1
  obtain ⟨-, u2, u3, u4, u5⟩ := ass_ok hb.2.valid hw.valid k2
  have he : (assL b.lo ws).2 = 0 := (ass_err hb.1.valid hs.valid).2 (Int.le_trans (gath_mono hb.1.valid hs.valid hw.valid hle).top l2)
  obtain ⟨-, -, a3, a4, -⟩ := ass_ok hb.1.valid hs.valid he
  unfold visL
  rw [if_pos he]
  refine run_ex (Q := fun (s : List Lvl × Bool) => Vals n s.1 ∧ leM s.1 w) _ (fun s p hp hq => ?_) _ ⟨hs, hle⟩
  refine vis_least hb.2 h1 hq.1 hw hq.2 (parts_part (ass_val hb.1 hs he) hp) ?_ u2
  exact ((((part_le a3 hp).trans a4).trans (gath_mono hb.1.valid hs.valid hw.valid hle)).trans l5).trans ((leqB_iff.1 k3).2.2.trans u4)
theorem pass_least {n : Nat} {bs : List Bnd} (hb : BndsIn n bs) (h1 : ∀ b ∈ bs, oneM b.hi) {ws w : List Lvl} (hs : Vals n ws) (hw : Vals n w) (hle : leM ws w) (hh : ∀ b ∈ bs, Hold w b) : ∃ s, passL bs ws = .inr s ∧ Vals n s.2.2 ∧ leM s.2.2 w := by
  refine run_ex (g := passG) (Q := fun (s : Nat × Bool × List Lvl) => Vals n s.2.2 ∧ leM s.2.2 w) _ (fun s b hm hq => ?_) (0, false, ws) ⟨hs, hle⟩
  obtain ⟨r, e, v, l⟩ := visL_least (hb b hm) (h1 b hm) hq.1 hw hq.2 (hh b hm)
  exact ⟨_, by unfold passG; rw [e]; rfl, v, l⟩
theorem solve_least {n : Nat} {bs : List Bnd} (hb : BndsIn n bs) (h1 : ∀ b ∈ bs, oneM b.hi) {w : List Lvl} (hw : Vals n w) (hh : ∀ b ∈ bs, Hold w b) : ∀ (k : Nat) (ws : List Lvl), Vals n ws → leM ws w → ∃ r, solveN bs k ws = .inr r ∧ leM r w
  | 0, ws, _, hle => ⟨ws, rfl, hle⟩
  | k + 1, ws, hs, hle => by
    obtain ⟨s, e, v, l⟩ := pass_least hb h1 hs hw hle hh
    rw [solve_inr e]
    cases s.2.1 with
    | false => exact ⟨_, rfl, l⟩
    | true => exact solve_least hb h1 hw hh k _ v l
theorem zeros_le {n : Nat} {w : List Lvl} (hw : Vals n w) : leM (zeros n) w := by
  refine ⟨by rw [zeros, List.length_replicate, hw.len], fun i x y hx hy => ?_⟩
  have : x = ⟨0, []⟩ := List.eq_of_mem_replicate (List.mem_of_getElem? hx)
  rw [this]
  exact ⟨(top_val (valB_iff.1 (hw.val y (List.mem_of_getElem? hy))).1).1, fun x hx => by cases hx⟩
theorem least {m : Int} {bs : List Bnd} (hc : (chkL m bs).2 = 0) (h1 : ∀ b ∈ bs, oneM b.hi) {w : List Lvl} (hw : Vals m.toNat w) (hh : ∀ b ∈ bs, Hold w b) : (solL m bs).2 = (0, 0) ∧ leM (solL m bs).1 w := by
  obtain ⟨r, e, l⟩ := solve_least (chk_in hc).2.2 h1 hw hh 20000 (zeros m.toNat) (zeros_vals hw.le) (zeros_le hw)
  unfold solL
  rw [if_pos hc, e]
  exact ⟨rfl, l⟩

/-! ### A pass without a change -/
theorem run_true {α ε : Type} {g : (List Lvl × Bool) → α → ε ⊕ (List Lvl × Bool)} : ∀ (l : List α), (∀ s x s', x ∈ l → g s x = .inr s' → s.2 = true → s'.2 = true) → ∀ s s', runG g l s = .inr s' → s.2 = true → s'.2 = true
  | [], _, s, s', h, k => by cases h; exact k
  | x :: l, hg, s, s', h, k => by
    unfold runG at h
    cases hx : g s x with
    | inl e => rw [hx] at h; cases h
    | inr s1 => rw [hx] at h; exact run_true l (fun s y s' hy => hg s y s' (List.mem_cons_of_mem _ hy)) s1 s' h (hg s x s1 List.mem_cons_self hx k)
theorem vis_true {hi : Lvl} {s s' : List Lvl × Bool} {p : Lvl} (h : visG hi s p = .inr s') (k : s.2 = true) : s'.2 = true := by
  unfold visG at h
  split at h
  · split at h
    · cases h; exact k
    · split at h
      · cases h
      · cases h; rfl
  · cases h
theorem vis_fix {n : Nat} {hi : Lvl} (h : LvlIn n hi) {ws : List Lvl} (hs : Vals n ws) : ∀ (l : List Lvl), (∀ p ∈ l, PartL p) → ∀ s', runG (visG hi) l (ws, false) = .inr s' → s'.2 = false → s' = (ws, false) ∧ ∀ p ∈ l, leqB p (assL hi ws).1 = true ∧ (assL hi ws).2 = 0
  | [], _, s', e, _ => by cases e; exact ⟨rfl, fun p hp => by cases hp⟩
  | p :: l, hp, s', e, k => by
    unfold runG at e
    cases hx : visG hi (ws, false) p with
    | inl e' => rw [hx] at e; cases e
    | inr s1 =>
      rw [hx] at e
      rcases vis_step h (s := (ws, false)) hs (hp p List.mem_cons_self) hx with ⟨rfl, e1, e2⟩ | ⟨-, -, m, v, -, -, -, -, rfl⟩
      · obtain ⟨f1, f2⟩ := vis_fix h hs l (fun q hq => hp q (List.mem_cons_of_mem _ hq)) s' e k
        refine ⟨f1, fun q hq => ?_⟩
        rcases List.mem_cons.1 hq with rfl | hq
        · exact ⟨e1, e2⟩
        · exact f2 q hq
      · have := run_true l (fun s x s' _ => vis_true) _ s' e rfl
        rw [this] at k; cases k
theorem parts_ne (L : Lvl) : ∃ p, p ∈ partsL L := by
  cases hv : L.vs with
  | nil => exact ⟨⟨L.c, []⟩, by unfold partsL; rw [if_pos (.inr hv)]; simp⟩
  | cons v r => exact ⟨_, mem_parts (v := v) (by rw [hv]; exact List.mem_cons_self)⟩
theorem visL_fix {n : Nat} {b : Bnd} (hb : LvlIn n b.lo ∧ LvlIn n b.hi) {ws : List Lvl} (hs : Vals n ws) {s : List Lvl × Bool} (e : visL b ws = .inr s) (k : s.2 = false) : s = (ws, false) ∧ Hold ws b := by
  unfold visL at e
  by_cases he : (assL b.lo ws).2 = 0
  · rw [if_pos he] at e
    have hv := ass_val hb.1 hs he
    obtain ⟨f1, f2⟩ := vis_fix hb.2 hs _ (fun p hp => parts_part hv hp) s e k
    obtain ⟨p, hp⟩ := parts_ne (assL b.lo ws).1
    have e2 := (f2 p hp).2
    exact ⟨f1, he, e2, parts_le hv (ass_ok hb.2.valid hs.valid e2).2.2.1 fun p hp => (f2 p hp).1⟩
  · rw [if_neg he] at e; cases e
theorem pass_true : ∀ (l : List Bnd) (s s' : Nat × Bool × List Lvl), runG passG l s = .inr s' → s.2.1 = true → s'.2.1 = true
  | [], s, s', h, k => by cases h; exact k
  | b :: l, s, s', h, k => by
    unfold runG at h
    cases hx : passG s b with
    | inl e => rw [hx] at h; cases h
    | inr s1 =>
      rw [hx] at h
      refine pass_true l s1 s' h ?_
      unfold passG at hx
      cases hv : visL b s.2.2 with
      | inl r => rw [hv] at hx; cases hx
      | inr r => rw [hv] at hx; cases hx; show (s.2.1 || r.2) = true; rw [k, Bool.true_or]
theorem pass_fix {n : Nat} {ws : List Lvl} (hs : Vals n ws) : ∀ (l : List Bnd), BndsIn n l → ∀ (i : Nat) (s' : Nat × Bool × List Lvl), runG passG l (i, false, ws) = .inr s' → s'.2.1 = false → ∀ b ∈ l, Hold ws b
  | [], _, i, s', _, _, b, hb => by cases hb
  | c :: l, hl, i, s', h, k, b, hb => by
    unfold runG at h
    cases hx : passG (i, false, ws) c with
    | inl e => rw [hx] at h; cases h
    | inr s1 =>
      rw [hx] at h
      unfold passG at hx
      cases hv : visL c ws with
      | inl r => rw [hv] at hx; cases hx
      | inr r =>
        rw [hv] at hx
        cases hx
        cases hr : r.2 with
        | true =>
          have := pass_true l _ s' h (by show (false || r.2) = true; rw [hr]; rfl)
          rw [this] at k; cases k
        | false =>
          obtain ⟨e1, e2⟩ := visL_fix (hl c List.mem_cons_self) hs hv hr
          rcases List.mem_cons.1 hb with rfl | hb
          · exact e2
          · rw [e1] at h
            exact pass_fix hs l (fun x hx => hl x (List.mem_cons_of_mem _ hx)) _ s' h k b hb
/-- all bounds hold for their solution -/
theorem sol_holds {m : Int} {bs : List Bnd} (hs : shortVs bs) (hm : m ≤ 10 ∨ 2000 < m) (h : (solL m bs).2.2 = 0) : ∀ b ∈ bs, Hold (solL m bs).1 b := by
  obtain ⟨-, -, -, h3, h4, h5, -⟩ := (solve15 hs hm).2.1 h
  exact pass_fix h4 bs h3 0 _ h5 rfl

theorem holds_iff {ws : List Lvl} : ∀ (bs : List Bnd) (a : Bool), exitGo (holdG ws) Sum.inl bs a = .inl true ↔ a = true ∧ ∀ b ∈ bs, Hold ws b
  | [], a => by
    show Sum.inl a = Sum.inl true ↔ _
    simp
  | b :: bs, a => by
    have hf : holdF ws b = some true ↔ Hold ws b := by
      unfold holdF Hold
      by_cases h : (assL b.lo ws).2 = 0 ∧ (assL b.hi ws).2 = 0
      · rw [if_pos h]; simp [h.1, h.2]
      · rw [if_neg h]
        refine ⟨fun k => (by cases k), fun k => absurd ⟨k.1, k.2.1⟩ h⟩
    rw [exitGo]
    cases hh : holdF ws b with
    | none =>
      rw [hh] at hf
      rw [show holdG ws a b = .inl (.inr (false, 15)) by unfold holdG; rw [hh]]
      refine ⟨fun k => (by cases k), fun k => ?_⟩
      have := hf.2 (k.2 b List.mem_cons_self)
      cases this
    | some c =>
      rw [show holdG ws a b = .inr (a && c) by unfold holdG; rw [hh]]
      dsimp only
      rw [holds_iff bs (a && c)]
      cases c with
      | false =>
        rw [hh] at hf
        refine ⟨fun k => (by simp at k), fun k => ?_⟩
        have := hf.2 (k.2 b List.mem_cons_self)
        cases this
      | true =>
        have hb := hf.1 hh
        simp only [Bool.and_true]
        exact ⟨fun k => ⟨k.1, fun x hx => (List.mem_cons.1 hx).elim (fun e => e ▸ hb) (k.2 x)⟩, fun k => ⟨k.1, fun x hx => k.2 x (List.mem_cons_of_mem _ hx)⟩⟩
theorem holdsL_true {ws : List Lvl} {bs : List Bnd} : holdsL ws bs = (true, 0) ↔ ws.all valB = true ∧ (chkL ws.length bs).2 = 0 ∧ ∀ b ∈ bs, Hold ws b := by
  have key := holds_iff (ws := ws) bs true
  unfold holdsL
  cases hv : ws.all valB with
  | false => simp
  | true =>
    rw [if_pos rfl]
    by_cases hc : (chkL ws.length bs).2 = 0
    · rw [if_pos hc]
      cases hx : exitGo (holdG ws) Sum.inl bs true with
      | inl a =>
        rw [hx] at key
        simp only [Sum.elim_inl, Prod.mk.injEq, and_true, hc, true_and]
        simpa using key
      | inr r =>
        rw [hx] at key
        have hn : ¬ ∀ b ∈ bs, Hold ws b := fun k => by have := key.2 ⟨rfl, k⟩; cases this
        have hr : ∀ (l : List Bnd) (a : Bool) (r : Bool × Int), exitGo (holdG ws) Sum.inl l a = .inr r → r = (false, 15) := by
          intro l
          induction l with
          | nil => intro a r h; cases h
          | cons b l ih =>
            intro a r h
            unfold exitGo holdG at h
            cases hh : holdF ws b with
            | none => rw [hh] at h; cases h; rfl
            | some c => rw [hh] at h; exact ih _ r h
        rw [hr _ _ _ hx]
        simp only [Sum.elim_inr, id]
        refine ⟨fun k => (by cases k), fun k => absurd k.2.2 hn⟩
    · rw [if_neg hc]
      refine ⟨fun k => absurd (congrArg Prod.snd k) hc, fun k => absurd k.2.1 hc⟩

/-! ### Two levels that are each at most the other are the same -/
theorem anti {A B : Lvl} (ha : validB A = true) (hb : validB B = true) (h : leL A B) (k : leL B A) : A = B := by
  have wa := (wf_valid ha).1; have wb := (wf_valid hb).1
  have ev : A.vs = B.vs := by
    refine asc_ext wa wb fun i => ?_
    cases hA : getV A.vs i with
    | none =>
      cases hB : getV B.vs i with
      | none => rfl
      | some q =>
        obtain ⟨y, hy, e, -⟩ := k.2 _ ((getV_mem wb).1 hB)
        have := getV_of_mem wa hy
        rw [e] at this
        rw [this] at hA; cases hA
    | some p =>
      obtain ⟨y, hy, e, hp⟩ := h.2 _ ((getV_mem wa).1 hA)
      have h1 := getV_of_mem wb hy
      obtain ⟨z, hz, e2, hq⟩ := k.2 y hy
      have h2 := getV_of_mem wa hz
      dsimp only at e hp
      rw [e2, e, hA] at h2
      rw [e] at h1
      rw [h1]
      have : p = z.2 := by injection h2
      exact congrArg some (by omega)
  have et : topL A = topL B := Int.le_antisymm h.top k.top
  have nc : ∀ {L : Lvl}, validB L = true → 0 < L.c → ∀ x ∈ L.vs, x.2 < L.c := fun {L} hv hc x hx => by
    have := ((valid_parts L).1 hv).2.2.1 hc
    refine Int.not_le.1 fun hn => ?_
    rw [cov_mem.2 ⟨x, hx, hn⟩] at this; cases this
  have ec : A.c = B.c := by
    have a0 := (valid_c ha).1; have b0 := (valid_c hb).1
    have tA : 0 < A.c → topL A = A.c := fun hc => Int.le_antisymm (topL_le.2 ⟨Int.le_refl _, fun x hx => by have := nc ha hc x hx; omega⟩) (top_ge _ _)
    have tB : 0 < B.c → topL B = B.c := fun hc => Int.le_antisymm (topL_le.2 ⟨Int.le_refl _, fun x hx => by have := nc hb hc x hx; omega⟩) (top_ge _ _)
    by_cases h1 : 0 < A.c
    · by_cases h2 : 0 < B.c
      · have := tA h1; have := tB h2; omega
      · exfalso
        have e1 := tA h1
        have : topL B ≤ A.c - 1 := topL_le.2 ⟨by omega, fun x hx => by have := nc ha h1 x (by rw [ev]; exact hx); omega⟩
        omega
    · by_cases h2 : 0 < B.c
      · exfalso
        have e1 := tB h2
        have : topL A ≤ B.c - 1 := topL_le.2 ⟨by omega, fun x hx => by have := nc hb h2 x (by rw [← ev]; exact hx); omega⟩
        omega
      · omega
  cases A; cases B
  dsimp only at ev ec
  rw [ev, ec]
theorem antiM {n : Nat} {v w : List Lvl} (hv : Vals n v) (hw : Vals n w) (h : leM v w) (k : leM w v) : v = w := by
  refine List.ext_getElem? fun i => ?_
  rcases Nat.lt_or_ge i v.length with hi | hi
  · have e1 : v[i]? = some v[i] := List.getElem?_eq_getElem hi
    have hi2 : i < w.length := by rw [← h.1]; exact hi
    have e2 : w[i]? = some w[i] := List.getElem?_eq_getElem hi2
    rw [e1, e2, anti (valB_iff.1 (hv.val _ (List.mem_of_getElem? e1))).1 (valB_iff.1 (hw.val _ (List.mem_of_getElem? e2))).1 (h.2 i _ _ e1 e2) (k.2 i _ _ e2 e1)]
  · rw [List.getElem?_eq_none hi, List.getElem?_eq_none (by rw [← h.1]; exact hi)]
end Go.Proofs.Ytkimijmiphkddaa
