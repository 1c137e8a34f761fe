/- Plain laws: the order of levels; what Assign gathers is the least level above all that it gathers. Plain laws: the first metavariable of a level. Plain laws: what raise and visit call: pivot, the parts of a level, less, Max, the reference's Assign. -/
import Derived.Test.YtkimijmiphkddaaPf
import Derived.Test.YtkimijmiphkddaaMf
namespace Go.Proofs.Ytkimijmiphkddaa
section
open Go.RowKit
set_option linter.unusedSimpArgs false
set_option linter.unusedVariables false

/-- a variable is at most a level -/
def inB (v : LV) (B : Lvl) : Prop := ∃ y ∈ B.vs, y.1 = v.1 ∧ v.2 ≤ y.2
def topL (B : Lvl) : Int := topOf B.c B.vs
def leL (A B : Lvl) : Prop := A.c ≤ topL B ∧ ∀ x ∈ A.vs, inB x B

theorem inB.top {v : LV} {B : Lvl} (h : inB v B) : v.2 ≤ topL B := by
  obtain ⟨y, hy, -, h2⟩ := h
  have := le_topOf (c := B.c) hy
  unfold topL; omega
theorem topL_le {B : Lvl} {m : Int} : topL B ≤ m ↔ B.c ≤ m ∧ ∀ x ∈ B.vs, x.2 ≤ m := topOf_le
theorem leL.top {A B : Lvl} (h : leL A B) : topL A ≤ topL B := topL_le.2 ⟨h.1, fun x hx => (h.2 x hx).top⟩
theorem leL.inB {A B : Lvl} {v : LV} (h : leL A B) (hv : inB v A) : inB v B := by
  obtain ⟨y, hy, e, h2⟩ := hv
  obtain ⟨z, hz, e2, h3⟩ := h.2 y hy
  exact ⟨z, hz, by omega, by omega⟩
theorem leL.refl (A : Lvl) : leL A A := ⟨top_ge _ _, fun x hx => ⟨x, hx, rfl, Int.le_refl _⟩⟩
theorem leL.trans {A B C : Lvl} (h : leL A B) (k : leL B C) : leL A C := ⟨Int.le_trans h.1 k.top, fun x hx => k.inB (h.2 x hx)⟩
theorem leqB_iff {A B : Lvl} : leqB A B = true ↔ validB A = true ∧ validB B = true ∧ leL A B := by
  simp only [leqB, leqVarsB, leL, inB, topL, Bool.and_eq_true, decide_eq_true_eq, List.all_eq_true, List.any_eq_true, beq_iff_eq, and_assoc]

theorem inV_merge {a b : List LV} (ha : WF a) (hb : WF b) {B : Lvl} : (∀ x ∈ mergeV a b, inB x B) ↔ (∀ x ∈ a, inB x B) ∧ ∀ x ∈ b, inB x B := by
  constructor
  · intro h
    refine ⟨fun x hx => ?_, fun x hx => ?_⟩
    · obtain ⟨y, hy, e, h2⟩ := merge_ge_l ha hb hx
      obtain ⟨z, hz, e2, h3⟩ := h y hy
      exact ⟨z, hz, by omega, by omega⟩
    · obtain ⟨y, hy, e, h2⟩ := merge_ge_r ha hb hx
      obtain ⟨z, hz, e2, h3⟩ := h y hy
      exact ⟨z, hz, by omega, by omega⟩
  · rintro ⟨h1, h2⟩ x hx
    exact (merge_src ha hb hx).elim (h1 x) (h2 x)

theorem cov_mem {c : Int} {vs : List LV} : covB c vs = true ↔ ∃ x ∈ vs, c ≤ x.2 := by simp [covB]
theorem trim_eqv {A : Lvl} (h : 0 ≤ A.c) : leL (trimL A) A ∧ leL A (trimL A) := by
  unfold trimL
  by_cases hc : covB A.c A.vs = true
  · rw [if_pos hc]
    obtain ⟨x, hx, h2⟩ := cov_mem.1 hc
    have h3 := top_ge A.c A.vs
    refine ⟨⟨by show (0 : Int) ≤ topL A; unfold topL; omega, (leL.refl A).2⟩, ?_, (leL.refl A).2⟩
    have := le_topOf (c := 0) hx
    show A.c ≤ topOf 0 A.vs
    omega
  · rw [if_neg hc]; exact ⟨leL.refl _, leL.refl _⟩
theorem big_top {A : Lvl} : bigB A = decide (100 < topL A) := by
  have : bigB A = true ↔ 100 < topL A := by
    rw [← Int.not_le, topL_le]
    simp only [bigB, Bool.or_eq_true, List.any_eq_true, decide_eq_true_eq]
    constructor
    · rintro (⟨x, hx, h⟩ | h) ⟨h1, h2⟩
      · have := h2 x hx; omega
      · omega
    · intro h
      by_cases hc : 100 < A.c
      · exact .inr hc
      · left
        refine Classical.byContradiction fun hn => h ⟨by omega, fun x hx => ?_⟩
        exact Int.not_lt.1 fun h2 => hn ⟨x, hx, h2⟩
  rw [Bool.eq_iff_iff, this, decide_eq_true_eq]
theorem lim_ok {A : Lvl} (h : (limL A).2 = 0) : limL A = (trimL A, 0) ∧ topL A ≤ 100 := by
  unfold limL at h ⊢
  cases hb : bigB A with
  | true => rw [if_pos hb] at h; cases h
  | false =>
    rw [if_neg Bool.false_ne_true]
    rw [big_top, decide_eq_false_iff_not] at hb
    exact ⟨rfl, by omega⟩
theorem lim_err {A : Lvl} : (limL A).2 = 0 ↔ topL A ≤ 100 := by
  refine ⟨fun h => (lim_ok h).2, fun h => ?_⟩
  unfold limL
  rw [if_neg (by rw [big_top, decide_eq_true_eq]; omega)]

/-- a good level before it is trimmed -/
structure GoodL (A : Lvl) : Prop where
  wf : WF A.vs
  c : 0 ≤ A.c
  v : ∀ x ∈ A.vs, 0 ≤ x.2
theorem good_valid {A : Lvl} (h : validB A = true) : GoodL A := ⟨wf_valid h, (valid_c h).1, fun x hx => (okV_valid h hx).2.2.1⟩
theorem trim_vs (A : Lvl) : (trimL A).vs = A.vs := by unfold trimL; split <;> rfl
theorem valid_trim {A : Lvl} (h : GoodL A) (ht : topL A ≤ 100) : validB (trimL A) = true := by
  obtain ⟨h1, h2⟩ := topL_le.1 ht
  have h0 := h.c
  have ha : A.vs.all okVar = true := List.all_eq_true.2 fun x hx => by
    have := h.v x hx; have := h2 x hx; have := h.wf.2 x hx
    simp [okVar]; omega
  have hs : ascB A.vs = true := asc_pair.2 h.wf.1
  unfold trimL
  by_cases hc : covB A.c A.vs = true
  · rw [if_pos hc]; simp [validB, ha, hs]
  · rw [if_neg hc]; simp [validB, ha, hs, hc, h0, h1]

theorem join_trim {A B : Lvl} (ha : GoodL A) (hb : GoodL B) : joinL A B = trimL ⟨max A.c B.c, mergeV A.vs B.vs⟩ := by
  have h1 := ha.c
  rw [join_eq, trim_eq (by omega) fun x hx => (merge_src ha.wf hb.wf hx).elim (ha.v x) (hb.v x)]
theorem good_merge {A B : Lvl} (ha : GoodL A) (hb : GoodL B) : GoodL ⟨max A.c B.c, mergeV A.vs B.vs⟩ := ⟨wf_merge _ _ ha.wf hb.wf, by have := ha.c; show 0 ≤ max A.c B.c; omega, fun x hx => (merge_src ha.wf hb.wf hx).elim (ha.v x) (hb.v x)⟩
theorem merge_le {A B C : Lvl} (ha : GoodL A) (hb : GoodL B) : leL ⟨max A.c B.c, mergeV A.vs B.vs⟩ C ↔ leL A C ∧ leL B C := by
  unfold leL
  rw [inV_merge ha.wf hb.wf]
  dsimp only
  have : max A.c B.c ≤ topL C ↔ A.c ≤ topL C ∧ B.c ≤ topL C := by omega
  rw [this]
  constructor
  · rintro ⟨⟨h1, h2⟩, h3, h4⟩; exact ⟨⟨h1, h3⟩, h2, h4⟩
  · rintro ⟨⟨h1, h3⟩, h2, h4⟩; exact ⟨⟨h1, h2⟩, h3, h4⟩
theorem join_le {A B C : Lvl} (ha : GoodL A) (hb : GoodL B) : leL (joinL A B) C ↔ leL A C ∧ leL B C := by
  rw [← merge_le ha hb, join_trim ha hb]
  have h := trim_eqv (good_merge ha hb).c
  exact ⟨fun k => h.2.trans k, fun k => h.1.trans k⟩
theorem join_valid {A B : Lvl} (ha : validB A = true) (hb : validB B = true) : validB (joinL A B) = true := by
  rw [join_trim (good_valid ha) (good_valid hb)]
  refine valid_trim (good_merge (good_valid ha) (good_valid hb)) (topL_le.2 ⟨?_, fun x hx => ?_⟩)
  · have := valid_c ha; have := valid_c hb; show max A.c B.c ≤ 100; omega
  · rcases merge_src (wf_valid ha) (wf_valid hb) hx with h | h
    · exact (okV_valid ha h).2.2.2
    · exact (okV_valid hb h).2.2.2

/-! ### What is gathered -/
def leW (ms : List Lvl) (v : LV) (B : Lvl) : Prop := if hasV ms v then ((valV ms v).c + v.2 ≤ topL B ∧ ∀ x ∈ (valV ms v).vs, inB (x.1, x.2 + v.2) B) else inB v B

theorem addV_le {ms : List Lvl} (hm : ms.all validB = true) {s : List LV × Int} (h : WF s.1) {v : LV} (hv : okV v) {B : Lvl} :
    ((addV ms s v).2 ≤ topL B ∧ ∀ x ∈ (addV ms s v).1, inB x B) ↔ (s.2 ≤ topL B ∧ ∀ x ∈ s.1, inB x B) ∧ leW ms v B := by
  unfold addV leW
  by_cases hh : hasV ms v
  · rw [if_pos hh, if_pos hh]
    dsimp only
    rw [inV_merge h (wf_upV v.2 (wf_valid (valV_valid hm hh)))]
    have e : max s.2 ((valV ms v).c + v.2) ≤ topL B ↔ s.2 ≤ topL B ∧ (valV ms v).c + v.2 ≤ topL B := by omega
    have e2 : (∀ x ∈ upV v.2 (valV ms v).vs, inB x B) ↔ ∀ x ∈ (valV ms v).vs, inB (x.1, x.2 + v.2) B := ⟨fun h x hx => h _ (upV_mem.2 ⟨x, hx, rfl⟩), fun h y hy => by obtain ⟨x, hx, rfl⟩ := upV_mem.1 hy; exact h x hx⟩
    rw [e, e2]
    constructor
    · rintro ⟨⟨h1, h2⟩, h3, h4⟩; exact ⟨⟨h1, h3⟩, h2, h4⟩
    · rintro ⟨⟨h1, h3⟩, h2, h4⟩; exact ⟨⟨h1, h2⟩, h3, h4⟩
  · rw [if_neg hh, if_neg hh]
    dsimp only
    rw [inV_merge h (wf_one ⟨hv.1, hv.2.1⟩)]
    simp [and_assoc]
theorem addV_les {ms : List Lvl} (hm : ms.all validB = true) {B : Lvl} : ∀ (l : List LV) (s : List LV × Int), WF s.1 → (∀ v ∈ l, okV v) →
    (((l.foldl (addV ms) s).2 ≤ topL B ∧ ∀ x ∈ (l.foldl (addV ms) s).1, inB x B) ↔ (s.2 ≤ topL B ∧ ∀ x ∈ s.1, inB x B) ∧ ∀ v ∈ l, leW ms v B)
  | [], s, _, _ => by simp
  | v :: l, s, hs, hl => by
    have hv := hl v List.mem_cons_self
    rw [List.foldl_cons, addV_les hm l _ (addV_wf hm hs hv) fun x hx => hl x (List.mem_cons_of_mem _ hx), addV_le hm hs hv]
    simp [and_assoc]
theorem gath_le {L : Lvl} {ms : List Lvl} (h1 : validB L = true) (h2 : ms.all validB = true) {B : Lvl} : leL (gathL L ms) B ↔ L.c ≤ topL B ∧ ∀ v ∈ L.vs, leW ms v B := by
  have := addV_les h2 (B := B) L.vs ([], L.c) wf_nil fun v hv => okV_valid h1 hv
  unfold leL gathL
  dsimp only
  rw [this]
  simp

theorem addV_src {ms : List Lvl} (hm : ms.all validB = true) : ∀ (l : List LV) (s : List LV × Int), WF s.1 → (∀ v ∈ l, okV v) → s.2 ≤ (l.foldl (addV ms) s).2 ∧
    ∀ y ∈ (l.foldl (addV ms) s).1, y ∈ s.1 ∨ ∃ v ∈ l, (hasV ms v ∧ ∃ x ∈ (valV ms v).vs, y = (x.1, x.2 + v.2)) ∨ (¬ hasV ms v ∧ y = v)
  | [], s, _, _ => ⟨Int.le_refl _, fun y hy => .inl hy⟩
  | v :: l, s, hs, hl => by
    have hv := hl v List.mem_cons_self
    obtain ⟨h1, h2⟩ := addV_src hm l _ (addV_wf hm hs hv) fun x hx => hl x (List.mem_cons_of_mem _ hx)
    rw [List.foldl_cons]
    refine ⟨Int.le_trans ?_ h1, fun y hy => ?_⟩
    · unfold addV; split
      · show s.2 ≤ max s.2 _; omega
      · exact Int.le_refl _
    · rcases h2 y hy with h | ⟨w, hw, h⟩
      · by_cases hh : hasV ms v
        · have e : (addV ms s v).1 = mergeV s.1 (upV v.2 (valV ms v).vs) := by unfold addV; rw [if_pos hh]
          rw [e] at h
          rcases merge_src hs (wf_upV v.2 (wf_valid (valV_valid hm hh))) h with h | h
          · exact .inl h
          · exact .inr ⟨v, List.mem_cons_self, .inl ⟨hh, upV_mem.1 h⟩⟩
        · have e : (addV ms s v).1 = mergeV s.1 [v] := by unfold addV; rw [if_neg hh]
          rw [e] at h
          rcases merge_src hs (wf_one ⟨hv.1, hv.2.1⟩) h with h | h
          · exact .inl h
          · exact .inr ⟨v, List.mem_cons_self, .inr ⟨hh, by simpa using h⟩⟩
      · exact .inr ⟨w, List.mem_cons_of_mem _ hw, h⟩
theorem gath_src {L : Lvl} {ms : List Lvl} (h1 : validB L = true) (h2 : ms.all validB = true) {y : LV} (hy : y ∈ (gathL L ms).vs) : ∃ v ∈ L.vs, (hasV ms v ∧ ∃ x ∈ (valV ms v).vs, y = (x.1, x.2 + v.2)) ∨ (¬ hasV ms v ∧ y = v) :=
  ((addV_src h2 L.vs ([], L.c) wf_nil fun v hv => okV_valid h1 hv).2 y hy).resolve_left fun h => by cases h
theorem gath_good {L : Lvl} {ms : List Lvl} (h1 : validB L = true) (h2 : ms.all validB = true) : GoodL (gathL L ms) := by
  refine ⟨(gath_limL h1 h2).1.wf, ?_, fun y hy => ?_⟩
  · have := (addV_src h2 L.vs ([], L.c) wf_nil fun v hv => okV_valid h1 hv).1
    have h3 := (valid_c h1).1
    show 0 ≤ (L.vs.foldl (addV ms) ([], L.c)).2
    dsimp only at this
    omega
  · obtain ⟨v, hv, ⟨hh, x, hx, rfl⟩ | ⟨-, rfl⟩⟩ := gath_src h1 h2 hy
    · have := (okV_valid (valV_valid h2 hh) hx).2.2.1
      have := (okV_valid h1 hv).2.2.1
      show 0 ≤ x.2 + v.2
      omega
    · exact (okV_valid h1 hv).2.2.1

/-- what Assign says, where it does not fail -/
theorem ass_ok {L : Lvl} {ms : List Lvl} (h1 : validB L = true) (h2 : ms.all validB = true) (he : (assL L ms).2 = 0) :
    (assL L ms).1 = trimL (gathL L ms) ∧ topL (gathL L ms) ≤ 100 ∧ validB (assL L ms).1 = true ∧ leL (assL L ms).1 (gathL L ms) ∧ leL (gathL L ms) (assL L ms).1 := by
  have g := gath_good h1 h2
  rw [assL_gath h1 h2] at he ⊢
  obtain ⟨e, ht⟩ := lim_ok he
  rw [e]
  exact ⟨rfl, ht, valid_trim g ht, trim_eqv g.c⟩
theorem ass_err {L : Lvl} {ms : List Lvl} (h1 : validB L = true) (h2 : ms.all validB = true) : (assL L ms).2 = 0 ↔ topL (gathL L ms) ≤ 100 := by
  rw [assL_gath h1 h2, lim_err]

/-- values that are at most others -/
def leM (ms ns : List Lvl) : Prop := ms.length = ns.length ∧ ∀ (i : Nat) (x y : Lvl), ms[i]? = some x → ns[i]? = some y → leL x y
theorem leM.refl (ms : List Lvl) : leM ms ms := ⟨rfl, fun i x y h1 h2 => by rw [h1] at h2; cases h2; exact leL.refl _⟩
theorem leM.trans {a b c : List Lvl} (h : leM a b) (k : leM b c) : leM a c := by
  refine ⟨h.1.trans k.1, fun i x y h1 h2 => ?_⟩
  have hi := (List.getElem?_eq_some_iff.1 h1).1
  obtain ⟨z, h3⟩ : ∃ z, b[i]? = some z := ⟨_, List.getElem?_eq_getElem (by rw [← h.1]; exact hi)⟩
  exact (h.2 i x z h1 h3).trans (k.2 i z y h3 h2)
theorem leW.self {L : Lvl} {ms : List Lvl} (h1 : validB L = true) (h2 : ms.all validB = true) {v : LV} (hv : v ∈ L.vs) : leW ms v (gathL L ms) := ((gath_le h1 h2).1 (leL.refl _)).2 v hv
theorem leW.top {ms : List Lvl} {v : LV} {B : Lvl} (h : leW ms v B) (hh : hasV ms v) : topL (valV ms v) + v.2 ≤ topL B := by
  unfold leW at h
  rw [if_pos hh] at h
  have : topL (valV ms v) ≤ topL B - v.2 := topL_le.2 ⟨by omega, fun x hx => by have := (h.2 x hx).top; dsimp only at this; omega⟩
  omega
theorem gath_mono {L : Lvl} {ms ns : List Lvl} (h1 : validB L = true) (h2 : ms.all validB = true) (h3 : ns.all validB = true) (h : leM ms ns) : leL (gathL L ms) (gathL L ns) := by
  refine (gath_le h1 h2).2 ⟨((gath_le h1 h3).1 (leL.refl _)).1, fun v hv => ?_⟩
  have k := leW.self h1 h3 hv
  have e : hasV ms v ↔ hasV ns v := by unfold hasV; rw [h.1]
  by_cases hh : hasV ms v
  · have hl : leL (valV ms v) (valV ns v) := h.2 _ _ _ (valV_at hh) (valV_at (e.1 hh))
    have kt := k.top (e.1 hh)
    unfold leW at k ⊢
    rw [if_pos (e.1 hh)] at k
    rw [if_pos hh]
    refine ⟨by have := hl.1; omega, fun x hx => ?_⟩
    obtain ⟨y, hy, e1, e2⟩ := hl.2 x hx
    obtain ⟨z, hz, e3, e4⟩ := k.2 y hy
    exact ⟨z, hz, by dsimp only at e3 ⊢; omega, by dsimp only at e4 ⊢; omega⟩
  · unfold leW at k ⊢
    rw [if_neg (fun hn => hh (e.2 hn))] at k
    rw [if_neg hh]; exact k

theorem firstR_const {α β : Type} {p : α → Bool} {b : β} : ∀ (l : List α) (k : Nat), firstR (fun _ x => if !(p x) then some b else none) l k = if l.all p then none else some b
  | [], _ => rfl
  | x :: l, k => by
    unfold firstR
    cases hx : p x with
    | true => simp only [Bool.not_true, Bool.false_eq_true, if_false]; rw [firstR_const l (k + 1)]; simp [hx]
    | false => simp [hx]
end

section
open Go.RowKit
set_option linter.unusedSimpArgs false
set_option linter.unusedVariables false

/-! ### The first metavariable -/
def firstF (s : Int × Int) (x : LV) : Int × Int := cond (cond (decide (x.1 < 0)) (cond (decide (s.1 < 0)) true (decide (w64 (-1 - x.1) < s.1))) false) (w64 (-1 - x.1), x.2) s
/-- the metavariable with the least number, and its offset -/
def firstL (L : Lvl) : Int × Int := L.vs.foldl firstF (-1, 0)
theorem m43_eq {L : Lvl} (hL : L.vs.length ≤ 100000) : m43 L = some (firstL L) := by
  unfold m43
  have key := fold_loopG (step := m43_l0 L) (l := L.vs) (fun i s => (s.1, s.2, i)) (fun s => s) firstF (fun _ _ => True) (by omega) (fun k x s hx _ => by
    have hk := (List.getElem?_eq_some_iff.1 hx).1
    refine ⟨?_, trivial⟩
    unfold m43_l0
    dsimp only
    rw [decide_eq_true (by omega : (k : Int) < L.vs.length), cond_true, idx_nat (Int.natCast_nonneg _) (by simpa using hx), Option.bind_some]
    unfold firstF
    cases decide (x.1 < 0) <;> cases decide (s.1 < 0) <;> cases decide (w64 (-1 - x.1) < s.1) <;> rfl) (fun s _ => by unfold m43_l0; dsimp only; rw [decide_eq_false (by omega), cond_false]) (-1, 0) trivial
  dsimp only at key
  rw [key]
  rfl

/-- what is met in an ascending list -/
theorem firstF_asc : ∀ (l : List LV) (s : Int × Int), WF l → (s.1 < 0 ∨ ∀ x ∈ l, x.1 < 0 → -1 - x.1 < s.1) → l.foldl firstF s = ((l.filter fun x => decide (x.1 < 0)).getLast?.map fun x => (-1 - x.1, x.2)).getD s
  | [], s, _, _ => rfl
  | x :: l, s, hw, hs => by
    obtain ⟨h1, h2⟩ := List.pairwise_cons.1 hw.1
    have hw' : WF l := ⟨h2, fun y hy => hw.2 y (List.mem_cons_of_mem _ hy)⟩
    have hx := hw.2 x List.mem_cons_self
    rw [List.foldl_cons]
    by_cases hn : x.1 < 0
    · have e : firstF s x = (-1 - x.1, x.2) := by
        unfold firstF
        rw [decide_eq_true hn, cond_true, w64_neg hx]
        by_cases h3 : s.1 < 0
        · rw [decide_eq_true h3]; rfl
        · rw [decide_eq_false h3, cond_false, decide_eq_true ((hs.resolve_left h3) x List.mem_cons_self hn)]; rfl
      rw [e, firstF_asc l _ hw' (.inr fun y hy _ => by have := h1 y hy; dsimp only; omega), List.filter_cons_of_pos (by simpa using hn)]
      cases hf : (l.filter fun x => decide (x.1 < 0)) with
      | nil => rfl
      | cons y r =>
        rw [List.getLast?_cons_cons]
        obtain ⟨z, hz⟩ : ∃ z, (y :: r).getLast? = some z := ⟨_, List.getLast?_eq_some_getLast (List.cons_ne_nil _ _)⟩
        rw [hz]; rfl
    · have e : firstF s x = s := by unfold firstF; rw [decide_eq_false hn]; rfl
      rw [e, firstF_asc l s hw' (hs.imp id fun h y hy => h y (List.mem_cons_of_mem _ hy)), List.filter_cons_of_neg (by simpa using hn)]
theorem firstL_eq {L : Lvl} (h : WF L.vs) : firstL L = ((L.vs.filter fun x => decide (x.1 < 0)).getLast?.map fun x => (-1 - x.1, x.2)).getD (-1, 0) := firstF_asc _ _ h (.inl (by decide))
theorem firstL_any {L : Lvl} (h : WF L.vs) : decide (0 ≤ (firstL L).1) = L.vs.any fun x => decide (x.1 < 0) := by
  rw [firstL_eq h]
  cases hf : (L.vs.filter fun x => decide (x.1 < 0)).getLast? with
  | none =>
    rw [List.getLast?_eq_none_iff, List.filter_eq_nil_iff] at hf
    have : (L.vs.any fun x => decide (x.1 < 0)) = false := List.any_eq_false.2 hf
    rw [this]; rfl
  | some x =>
    have hx := List.mem_of_getLast? hf
    rw [List.mem_filter] at hx
    have : (L.vs.any fun x => decide (x.1 < 0)) = true := List.any_eq_true.2 ⟨x, hx.1, hx.2⟩
    rw [this]
    have h2 : x.1 < 0 := by simpa using hx.2
    simp; omega

/-! ### The reference's replacement -/
theorem hasV_b {ms : List Lvl} {v : LV} : (cond ((decide (v.1 < 0)) == true) (some (decide (-1 - v.1 < (ms.length : Int)))) (some false)) = some (decide (hasV ms v)) := by
  by_cases h1 : v.1 < 0
  · rw [decide_eq_true h1]
    by_cases h2 : -1 - v.1 < (ms.length : Int)
    · rw [decide_eq_true h2, decide_eq_true (show hasV ms v from ⟨h1, h2⟩)]; rfl
    · rw [decide_eq_false h2, decide_eq_false (show ¬ hasV ms v from fun e => h2 e.2)]; rfl
  · rw [decide_eq_false h1, decide_eq_false (show ¬ hasV ms v from fun e => h1 e.1)]; rfl

theorem repStep_wf {ms : List Lvl} (hm : ms.all validB = true) {out : Lvl} (hw : WF out.vs) {v : LV} (hv : okV v) : WF (repStep ms out v).1.vs := by
  unfold repStep
  by_cases hh : hasV ms v
  · rw [if_pos (show v.1 < 0 ∧ -1 - v.1 < ms.length from hh)]
    split
    · exact wf_join hw (wf_plus (wf_valid (valV_valid hm hh)))
    · exact wf_nil
  · rw [if_neg (show ¬ (v.1 < 0 ∧ -1 - v.1 < ms.length) from hh)]
    exact wf_join hw (wf_one ⟨hv.1, hv.2.1⟩)

theorem repStep_has {ms : List Lvl} {out : Lvl} {v : LV} (hh : hasV ms v) : repStep ms out v = (if (plusL (valV ms v) v.2).2 = 0 then (joinL out (plusL (valV ms v) v.2).1, (0 : Int)) else (⟨0, []⟩, (plusL (valV ms v) v.2).2)) := if_pos hh
end

section
open Go.RowKit
set_option linter.unusedSimpArgs false
set_option linter.unusedVariables false

/-! ### pivot, first -/
theorem piv_filter : ∀ r : List LV, pivR r = ((r.reverse.filter fun x => decide (x.1 < 0)).getLast?.map fun x => (-1 - x.1, x.2)).getD (-1, 0)
  | [] => rfl
  | x :: r => by
    rw [List.reverse_cons, List.filter_append]
    unfold pivR
    by_cases h : x.1 < 0
    · rw [if_pos h, List.filter_cons_of_pos (by simpa using h)]; simp
    · rw [if_neg h, List.filter_cons_of_neg (by simpa using h), piv_filter r]; simp
theorem pivL_eq {L : Lvl} (h : WF L.vs) : pivL L.vs = firstL L := by
  rw [firstL_eq h]
  unfold pivL
  rw [piv_filter, List.reverse_reverse]
theorem pivR_neg : ∀ r : List LV, (pivR r).1 < 0 → pivR r = (-1, 0)
  | [], _ => rfl
  | x :: r, h => by
    unfold pivR at h ⊢
    by_cases hx : x.1 < 0
    · rw [if_pos hx] at h; dsimp only at h; omega
    · rw [if_neg hx] at h ⊢; exact pivR_neg r h

theorem m54_eq {L : Lvl} (h : WF L.vs) : m54 L = some (firstL L) := by
  have hlen := h.len
  unfold m54
  have key := loop_spec (step := m54_l0 L) (fun s => -1 ≤ s ∧ s < L.vs.length) (fun s => (s + 1).toNat) (fun s => if (pivL (L.vs.take (s + 1).toNat)).1 < 0 then .inl () else .inr (pivL (L.vs.take (s + 1).toNat))) (fun s hs => by
    obtain ⟨h0, h1⟩ := hs
    unfold m54_l0
    by_cases hn : 0 ≤ s
    · obtain ⟨k, rfl⟩ := Int.eq_ofNat_of_zero_le hn
      obtain ⟨x, hx⟩ : ∃ x, L.vs[k]? = some x := ⟨_, List.getElem?_eq_getElem (by omega)⟩
      have hw := h.2 x (List.mem_of_getElem? hx)
      have e : ((k : Int) + 1).toNat = k + 1 := by omega
      rw [decide_eq_true hn, cond_true, idx_nat hn (by simpa using hx), Option.bind_some, e, piv_snoc hx]
      by_cases hx0 : x.1 < 0
      · left
        rw [decide_eq_true hx0, cond_true, w64_neg hw, if_pos hx0, if_neg (by dsimp only; omega)]
      · right
        rw [decide_eq_false hx0, cond_false, if_neg hx0, w64_id (by omega) (by omega)]
        refine ⟨_, rfl, ⟨by omega, by omega⟩, by omega, ?_⟩
        have e2 : ((k : Int) - 1 + 1).toNat = k := by omega
        rw [e2]
    · left
      rw [decide_eq_false hn, cond_false]
      have e : (s + 1).toNat = 0 := by omega
      rw [e]
      rfl) FUEL (w64 ((L.vs.length : Int) - 1)) (by rw [w64_id (by omega) (by omega)]; omega) (by rw [w64_id (by omega) (by omega)]; unfold FUEL; omega)
  rw [key, w64_id (by omega) (by omega)]
  have e : ((L.vs.length : Int) - 1 + 1).toNat = L.vs.length := by omega
  rw [e, List.take_length]
  rw [← pivL_eq h]
  by_cases hn : (pivL L.vs).1 < 0
  · rw [if_pos hn, pivR_neg _ hn |> (show pivL L.vs = (-1, 0) from ·)]; rfl
  · rw [if_neg hn]; rfl

/-! ### Parts -/
def partsL (L : Lvl) : List Lvl := (if 0 < L.c ∨ L.vs = [] then [⟨L.c, []⟩] else []) ++ L.vs.map fun v => ⟨0, [v]⟩

/-! ### less -/
theorem m56_eq {p : Lvl} {k : Int} (hp : validB p = true) (hk : 0 ≤ k ∧ k ≤ 100) : m56 p k = some (lowL p k) := by
  have h1 := valid_c hp
  unfold m56
  cases hv : p.vs with
  | nil => rw [lowL_nil hv, w64_id (by omega) (by omega)]; rfl
  | cons x r =>
    have hx := okV_valid hp (v := x) (by rw [hv]; exact List.mem_cons_self)
    have e : (((x :: r).length : Int) == 0) = false := by simp; omega
    have h3 := hx.2.2.1; have h4 := hx.2.2.2
    have ew : w64 (x.2 - k) = x.2 - k := w64_id (by omega) (by omega)
    rw [e, cond_false, lowL_cons (x := x) (by rw [hv]; rfl)]
    show some (⟨0, [(x.1, max 0 (w64 (x.2 - k)))]⟩ : Lvl) = _
    rw [ew]
/-! ### Max -/
theorem m55_loop (a b : List LV) (hab : a.length + b.length ≤ 300000) : loopN m55_l0 FUEL ([], a, b) = some (mergeV a b, [], []) := by
  have key := loop_spec (step := m55_l0) (fun s => s.1.length + s.2.1.length + s.2.2.length ≤ 300000) (fun s => s.2.1.length + s.2.2.length) (fun s => (s.1 ++ mergeV s.2.1 s.2.2, [], [])) (fun s hs => by
    obtain ⟨o, a, b⟩ := s
    dsimp only at hs ⊢
    unfold m55_l0
    dsimp only
    cases a with
    | nil =>
      cases b with
      | nil => left; simp [mergeV]
      | cons y b =>
        right
        simp only [List.length_nil, List.length_cons] at hs
        refine ⟨(o ++ [y], [], b), ?_, (by simp only [List.length_append, List.length_cons, List.length_nil]; omega), (by simp only [List.length_cons, List.length_nil]; omega), by simp [mergeV_nil_l]⟩
        have e1 : decide ((0 : Int) < ((([] : List LV).length : Nat) : Int)) = false := rfl
        have e2 : decide ((0 : Int) < (((y :: b).length : Nat) : Int)) = true := decide_eq_true (by rw [List.length_cons]; omega)
        have e3 : ((((y :: b).length : Nat) : Int) == 0) = false := by simp; omega
        have e4 : ((((([] : List LV)).length : Nat) : Int) == 0) = true := rfl
        have g1 : Nat.ble (1 : Int).toNat (y :: b).length = true := by simp [Nat.ble]
        have g2 : decide ((0 : Int) ≤ 1) = true := rfl
        have i1 : idx (y :: b) 0 = some y := rfl
        simp only [e1, e2, e3, e4, g1, g2, i1, cond_false, cond_true, Option.bind_some, guard_t]
        rw [guard_t (ble_t (by simp only [List.length_cons, List.length_nil]; omega))]
        rfl
    | cons x a =>
      have e1 : decide ((0 : Int) < (((x :: a).length : Nat) : Int)) = true := decide_eq_true (by rw [List.length_cons]; omega)
      have e4 : ((((x :: a).length : Nat) : Int) == 0) = false := by simp; omega
      right
      rw [e1, cond_true, Option.bind_some, cond_true]
      cases b with
      | nil =>
        simp only [List.length_nil, List.length_cons] at hs
        refine ⟨(o ++ [x], a, []), ?_, (by simp only [List.length_append, List.length_cons, List.length_nil]; omega), (by simp only [List.length_cons, List.length_nil]; omega), by simp [mergeV_nil_r]⟩
        have e3 : (((([] : List LV).length : Nat) : Int) == 0) = true := rfl
        rw [e3, cond_true, Option.bind_some, cond_true]
        show Option.bind (some x) _ = _
        rw [Option.bind_some, guard_t (by simp [Nat.ble]), guard_t (ble_t (by simp only [List.length_cons, List.length_nil]; omega))]
        rfl
      | cons y b =>
        simp only [List.length_cons] at hs
        have e3 : ((((y :: b).length : Nat) : Int) == 0) = false := by simp; omega
        have g1 : Nat.ble (1 : Int).toNat (x :: a).length = true := by simp [Nat.ble]
        have g2 : Nat.ble (1 : Int).toNat (y :: b).length = true := by simp [Nat.ble]
        have i1 : idx (x :: a) 0 = some x := rfl
        have i2 : idx (y :: b) 0 = some y := rfl
        have d1 : decide ((0 : Int) ≤ 1) = true := rfl
        rw [e3, cond_false, e4, cond_false, i1, i2, g1, g2, d1, cond_true]
        simp only [Option.bind_some]
        by_cases h1 : x.1 < y.1
        · rw [decide_eq_true h1]
          refine ⟨(o ++ [x], a, y :: b), ?_, (by simp only [List.length_append, List.length_cons, List.length_nil]; omega), (by simp only [List.length_cons]; omega), ?_⟩
          · simp only [cond_true, guard_t]; rw [guard_t (ble_t (by simp only [List.length_cons, List.length_nil]; omega))]; rfl
          · simp [mergeV, h1]
        · rw [decide_eq_false h1, cond_false]
          by_cases h2 : y.1 < x.1
          · rw [decide_eq_true h2]
            refine ⟨(o ++ [y], x :: a, b), ?_, (by simp only [List.length_append, List.length_cons, List.length_nil]; omega), (by simp only [List.length_cons]; omega), ?_⟩
            · simp only [cond_true, guard_t]; rw [guard_t (ble_t (by simp only [List.length_cons, List.length_nil]; omega))]; rfl
            · simp [mergeV, h1, h2]
          · rw [decide_eq_false h2]
            refine ⟨(o ++ [(x.1, max x.2 y.2)], a, b), ?_, (by simp only [List.length_append, List.length_cons, List.length_nil]; omega), (by simp only [List.length_cons]; omega), ?_⟩
            · rw [cond_false, cond_true, guard_t (b := true) rfl, guard_t (b := true) rfl, guard_t (ble_t (by simp only [List.length_cons, List.length_nil]; omega))]; rfl
            · simp [mergeV, h1, h2]) FUEL ([], a, b) (by simpa using hab) (by dsimp only; unfold FUEL; omega)
  simpa using key
theorem m55_eq {A B : Lvl} (ha : A.vs.length ≤ 100000) (hb : B.vs.length ≤ 100000) : m55 A B = some (maxL A B) := by
  unfold m55
  rw [guard_t (ble_t ha)]
  cases hA : validB A with
  | false => rw [maxL_inv (by rw [hA]; rfl)]; rfl
  | true =>
    simp only [Bool.not_true, cond_false]
    rw [guard_t (ble_t hb)]
    cases hB : validB B with
    | false => rw [maxL_inv (by rw [hB]; simp)]; rfl
    | true =>
      simp only [Bool.not_true, Option.bind_some, cond_false]
      rw [m55_loop _ _ (by omega)]
      simp only [Option.bind_some]
      have gA := good_valid hA; have gB := good_valid hB
      have g := good_merge gA gB
      rw [guard_t (ble_t g.wf.len), maxL_ok hA hB, join_trim gA gB]
      have ht : topL ⟨max A.c B.c, mergeV A.vs B.vs⟩ ≤ 100 := topL_le.2 ⟨by have := valid_c hA; have := valid_c hB; show max A.c B.c ≤ 100; omega, fun x hx => (merge_src gA.wf gB.wf hx).elim (fun h => (okV_valid hA h).2.2.2) fun h => (okV_valid hB h).2.2.2⟩
      rw [(lim_ok (lim_err.2 ht)).1]
end

end Go.Proofs.Ytkimijmiphkddaa
