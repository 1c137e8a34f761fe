/- Plain laws: the order of levels; what Assign gathers is the least level above all that it gathers. -/
import Derived.Test.YtkimijmiphkddaaPf
namespace Go.Proofs.Ytkimijmiphkddaa
open Go.RowKit
set_option linter.unusedSimpArgs false
set_option linter.unusedVariables false

/-- a variable is at most a level -/
def inB (v : LV) (B : Lvl) : Prop := ∃ y ∈ B.vs, y.1 = v.1 ∧ v.2 ≤ y.2
def topL (B : Lvl) : Int := topOf B.c B.vs
def leL (A B : Lvl) : Prop := A.c ≤ topL B ∧ ∀ x ∈ A.vs, inB x B

theorem inB.top {v : LV} {B : Lvl} (h : inB v B) : v.2 ≤ topL B := by
  obtain ⟨y, hy, -, h2⟩ := h
  have := le_topOf (c := B.c) hy
  unfold topL; omega
theorem topL_le {B : Lvl} {m : Int} : topL B ≤ m ↔ B.c ≤ m ∧ ∀ x ∈ B.vs, x.2 ≤ m := topOf_le
theorem leL.top {A B : Lvl} (h : leL A B) : topL A ≤ topL B := topL_le.2 ⟨h.1, fun x hx => (h.2 x hx).top⟩
theorem leL.inB {A B : Lvl} {v : LV} (h : leL A B) (hv : inB v A) : inB v B := by
  obtain ⟨y, hy, e, h2⟩ := hv
  obtain ⟨z, hz, e2, h3⟩ := h.2 y hy
  exact ⟨z, hz, by omega, by omega⟩
theorem leL.refl (A : Lvl) : leL A A := ⟨top_ge _ _, fun x hx => ⟨x, hx, rfl, Int.le_refl _⟩⟩
theorem leL.trans {A B C : Lvl} (h : leL A B) (k : leL B C) : leL A C := ⟨Int.le_trans h.1 k.top, fun x hx => k.inB (h.2 x hx)⟩
theorem leqB_iff {A B : Lvl} : leqB A B = true ↔ validB A = true ∧ validB B = true ∧ leL A B := by
  simp only [leqB, leqVarsB, leL, inB, topL, Bool.and_eq_true, decide_eq_true_eq, List.all_eq_true, List.any_eq_true, beq_iff_eq, and_assoc]

theorem inV_merge {a b : List LV} (ha : WF a) (hb : WF b) {B : Lvl} : (∀ x ∈ mergeV a b, inB x B) ↔ (∀ x ∈ a, inB x B) ∧ ∀ x ∈ b, inB x B := by
  constructor
  · intro h
    refine ⟨fun x hx => ?_, fun x hx => ?_⟩
    · obtain ⟨y, hy, e, h2⟩ := merge_ge_l ha hb hx
      obtain ⟨z, hz, e2, h3⟩ := h y hy
      exact ⟨z, hz, by omega, by omega⟩
    · obtain ⟨y, hy, e, h2⟩ := merge_ge_r ha hb hx
      obtain ⟨z, hz, e2, h3⟩ := h y hy
      exact ⟨z, hz, by omega, by omega⟩
  · rintro ⟨h1, h2⟩ x hx
    exact (merge_src ha hb hx).elim (h1 x) (h2 x)

theorem cov_mem {c : Int} {vs : List LV} : covB c vs = true ↔ ∃ x ∈ vs, c ≤ x.2 := by simp [covB]
theorem trim_eqv {A : Lvl} (h : 0 ≤ A.c) : leL (trimL A) A ∧ leL A (trimL A) := by
  unfold trimL
  by_cases hc : covB A.c A.vs = true
  · rw [if_pos hc]
    obtain ⟨x, hx, h2⟩ := cov_mem.1 hc
    have h3 := top_ge A.c A.vs
    refine ⟨⟨by show (0 : Int) ≤ topL A; unfold topL; omega, (leL.refl A).2⟩, ?_, (leL.refl A).2⟩
    have := le_topOf (c := 0) hx
    show A.c ≤ topOf 0 A.vs
    omega
  · rw [if_neg hc]; exact ⟨leL.refl _, leL.refl _⟩
theorem big_top {A : Lvl} : bigB A = decide (100 < topL A) := by
  have : bigB A = true ↔ 100 < topL A := by
    rw [← Int.not_le, topL_le]
    simp only [bigB, Bool.or_eq_true, List.any_eq_true, decide_eq_true_eq]
    constructor
    · rintro (⟨x, hx, h⟩ | h) ⟨h1, h2⟩
      · have := h2 x hx; omega
      · omega
    · intro h
      by_cases hc : 100 < A.c
      · exact .inr hc
      · left
        refine Classical.byContradiction fun hn => h ⟨by omega, fun x hx => ?_⟩
        exact Int.not_lt.1 fun h2 => hn ⟨x, hx, h2⟩
  rw [Bool.eq_iff_iff, this, decide_eq_true_eq]
theorem lim_ok {A : Lvl} (h : (limL A).2 = 0) : limL A = (trimL A, 0) ∧ topL A ≤ 100 := by
  unfold limL at h ⊢
  cases hb : bigB A with
  | true => rw [if_pos hb] at h; cases h
  | false =>
    rw [if_neg Bool.false_ne_true]
    rw [big_top, decide_eq_false_iff_not] at hb
    exact ⟨rfl, by omega⟩
theorem lim_err {A : Lvl} : (limL A).2 = 0 ↔ topL A ≤ 100 := by
  refine ⟨fun h => (lim_ok h).2, fun h => ?_⟩
  unfold limL
  rw [if_neg (by rw [big_top, decide_eq_true_eq]; omega)]

/-- a good level before it is trimmed -/
structure GoodL (A : Lvl) : Prop where
  wf : WF A.vs
  c : 0 ≤ A.c
  v : ∀ x ∈ A.vs, 0 ≤ x.2
theorem good_valid {A : Lvl} (h : validB A = true) : GoodL A := ⟨wf_valid h, (valid_c h).1, fun x hx => (okV_valid h hx).2.2.1⟩
theorem trim_vs (A : Lvl) : (trimL A).vs = A.vs := by unfold trimL; split <;> rfl
theorem valid_trim {A : Lvl} (h : GoodL A) (ht : topL A ≤ 100) : validB (trimL A) = true := by
  obtain ⟨h1, h2⟩ := topL_le.1 ht
  have h0 := h.c
  have ha : A.vs.all okVar = true := List.all_eq_true.2 fun x hx => by
    have := h.v x hx; have := h2 x hx; have := h.wf.2 x hx
    simp [okVar]; omega
  have hs : ascB A.vs = true := asc_pair.2 h.wf.1
  unfold trimL
  by_cases hc : covB A.c A.vs = true
  · rw [if_pos hc]; simp [validB, ha, hs]
  · rw [if_neg hc]; simp [validB, ha, hs, hc, h0, h1]

theorem join_trim {A B : Lvl} (ha : GoodL A) (hb : GoodL B) : joinL A B = trimL ⟨max A.c B.c, mergeV A.vs B.vs⟩ := by
  have h1 := ha.c
  rw [join_eq, trim_eq (by omega) fun x hx => (merge_src ha.wf hb.wf hx).elim (ha.v x) (hb.v x)]
theorem good_merge {A B : Lvl} (ha : GoodL A) (hb : GoodL B) : GoodL ⟨max A.c B.c, mergeV A.vs B.vs⟩ := ⟨wf_merge _ _ ha.wf hb.wf, by have := ha.c; show 0 ≤ max A.c B.c; omega, fun x hx => (merge_src ha.wf hb.wf hx).elim (ha.v x) (hb.v x)⟩
theorem merge_le {A B C : Lvl} (ha : GoodL A) (hb : GoodL B) : leL ⟨max A.c B.c, mergeV A.vs B.vs⟩ C ↔ leL A C ∧ leL B C := by
  unfold leL
  rw [inV_merge ha.wf hb.wf]
  dsimp only
  have : max A.c B.c ≤ topL C ↔ A.c ≤ topL C ∧ B.c ≤ topL C := by omega
  rw [this]
  constructor
  · rintro ⟨⟨h1, h2⟩, h3, h4⟩; exact ⟨⟨h1, h3⟩, h2, h4⟩
  · rintro ⟨⟨h1, h3⟩, h2, h4⟩; exact ⟨⟨h1, h2⟩, h3, h4⟩
theorem join_le {A B C : Lvl} (ha : GoodL A) (hb : GoodL B) : leL (joinL A B) C ↔ leL A C ∧ leL B C := by
  rw [← merge_le ha hb, join_trim ha hb]
  have h := trim_eqv (good_merge ha hb).c
  exact ⟨fun k => h.2.trans k, fun k => h.1.trans k⟩
theorem join_valid {A B : Lvl} (ha : validB A = true) (hb : validB B = true) : validB (joinL A B) = true := by
  rw [join_trim (good_valid ha) (good_valid hb)]
  refine valid_trim (good_merge (good_valid ha) (good_valid hb)) (topL_le.2 ⟨?_, fun x hx => ?_⟩)
  · have := valid_c ha; have := valid_c hb; show max A.c B.c ≤ 100; omega
  · rcases merge_src (wf_valid ha) (wf_valid hb) hx with h | h
    · exact (okV_valid ha h).2.2.2
    · exact (okV_valid hb h).2.2.2

/-! ### What is gathered -/
def leW (ms : List Lvl) (v : LV) (B : Lvl) : Prop := if hasV ms v then ((valV ms v).c + v.2 ≤ topL B ∧ ∀ x ∈ (valV ms v).vs, inB (x.1, x.2 + v.2) B) else inB v B

theorem addV_le {ms : List Lvl} (hm : ms.all validB = true) {s : List LV × Int} (h : WF s.1) {v : LV} (hv : okV v) {B : Lvl} :
    ((addV ms s v).2 ≤ topL B ∧ ∀ x ∈ (addV ms s v).1, inB x B) ↔ (s.2 ≤ topL B ∧ ∀ x ∈ s.1, inB x B) ∧ leW ms v B := by
  unfold addV leW
  by_cases hh : hasV ms v
  · rw [if_pos hh, if_pos hh]
    dsimp only
    rw [inV_merge h (wf_upV v.2 (wf_valid (valV_valid hm hh)))]
    have e : max s.2 ((valV ms v).c + v.2) ≤ topL B ↔ s.2 ≤ topL B ∧ (valV ms v).c + v.2 ≤ topL B := by omega
    have e2 : (∀ x ∈ upV v.2 (valV ms v).vs, inB x B) ↔ ∀ x ∈ (valV ms v).vs, inB (x.1, x.2 + v.2) B := ⟨fun h x hx => h _ (upV_mem.2 ⟨x, hx, rfl⟩), fun h y hy => by obtain ⟨x, hx, rfl⟩ := upV_mem.1 hy; exact h x hx⟩
    rw [e, e2]
    constructor
    · rintro ⟨⟨h1, h2⟩, h3, h4⟩; exact ⟨⟨h1, h3⟩, h2, h4⟩
    · rintro ⟨⟨h1, h3⟩, h2, h4⟩; exact ⟨⟨h1, h2⟩, h3, h4⟩
  · rw [if_neg hh, if_neg hh]
    dsimp only
    rw [inV_merge h (wf_one ⟨hv.1, hv.2.1⟩)]
    simp [and_assoc]
theorem addV_les {ms : List Lvl} (hm : ms.all validB = true) {B : Lvl} : ∀ (l : List LV) (s : List LV × Int), WF s.1 → (∀ v ∈ l, okV v) →
    (((l.foldl (addV ms) s).2 ≤ topL B ∧ ∀ x ∈ (l.foldl (addV ms) s).1, inB x B) ↔ (s.2 ≤ topL B ∧ ∀ x ∈ s.1, inB x B) ∧ ∀ v ∈ l, leW ms v B)
  | [], s, _, _ => by simp
  | v :: l, s, hs, hl => by
    have hv := hl v List.mem_cons_self
    rw [List.foldl_cons, addV_les hm l _ (addV_wf hm hs hv) fun x hx => hl x (List.mem_cons_of_mem _ hx), addV_le hm hs hv]
    simp [and_assoc]
theorem gath_le {L : Lvl} {ms : List Lvl} (h1 : validB L = true) (h2 : ms.all validB = true) {B : Lvl} : leL (gathL L ms) B ↔ L.c ≤ topL B ∧ ∀ v ∈ L.vs, leW ms v B := by
  have := addV_les h2 (B := B) L.vs ([], L.c) wf_nil fun v hv => okV_valid h1 hv
  unfold leL gathL
  dsimp only
  rw [this]
  simp

theorem addV_src {ms : List Lvl} (hm : ms.all validB = true) : ∀ (l : List LV) (s : List LV × Int), WF s.1 → (∀ v ∈ l, okV v) → s.2 ≤ (l.foldl (addV ms) s).2 ∧
    ∀ y ∈ (l.foldl (addV ms) s).1, y ∈ s.1 ∨ ∃ v ∈ l, (hasV ms v ∧ ∃ x ∈ (valV ms v).vs, y = (x.1, x.2 + v.2)) ∨ (¬ hasV ms v ∧ y = v)
  | [], s, _, _ => ⟨Int.le_refl _, fun y hy => .inl hy⟩
  | v :: l, s, hs, hl => by
    have hv := hl v List.mem_cons_self
    obtain ⟨h1, h2⟩ := addV_src hm l _ (addV_wf hm hs hv) fun x hx => hl x (List.mem_cons_of_mem _ hx)
    rw [List.foldl_cons]
    refine ⟨Int.le_trans ?_ h1, fun y hy => ?_⟩
    · unfold addV; split
      · show s.2 ≤ max s.2 _; omega
      · exact Int.le_refl _
    · rcases h2 y hy with h | ⟨w, hw, h⟩
      · by_cases hh : hasV ms v
        · have e : (addV ms s v).1 = mergeV s.1 (upV v.2 (valV ms v).vs) := by unfold addV; rw [if_pos hh]
          rw [e] at h
          rcases merge_src hs (wf_upV v.2 (wf_valid (valV_valid hm hh))) h with h | h
          · exact .inl h
          · exact .inr ⟨v, List.mem_cons_self, .inl ⟨hh, upV_mem.1 h⟩⟩
        · have e : (addV ms s v).1 = mergeV s.1 [v] := by unfold addV; rw [if_neg hh]
          rw [e] at h
          rcases merge_src hs (wf_one ⟨hv.1, hv.2.1⟩) h with h | h
          · exact .inl h
          · exact .inr ⟨v, List.mem_cons_self, .inr ⟨hh, by simpa using h⟩⟩
      · exact .inr ⟨w, List.mem_cons_of_mem _ hw, h⟩
theorem gath_src {L : Lvl} {ms : List Lvl} (h1 : validB L = true) (h2 : ms.all validB = true) {y : LV} (hy : y ∈ (gathL L ms).vs) : ∃ v ∈ L.vs, (hasV ms v ∧ ∃ x ∈ (valV ms v).vs, y = (x.1, x.2 + v.2)) ∨ (¬ hasV ms v ∧ y = v) :=
  ((addV_src h2 L.vs ([], L.c) wf_nil fun v hv => okV_valid h1 hv).2 y hy).resolve_left fun h => by cases h
theorem gath_good {L : Lvl} {ms : List Lvl} (h1 : validB L = true) (h2 : ms.all validB = true) : GoodL (gathL L ms) := by
  refine ⟨(gath_limL h1 h2).1.wf, ?_, fun y hy => ?_⟩
  · have := (addV_src h2 L.vs ([], L.c) wf_nil fun v hv => okV_valid h1 hv).1
    have h3 := (valid_c h1).1
    show 0 ≤ (L.vs.foldl (addV ms) ([], L.c)).2
    dsimp only at this
    omega
  · obtain ⟨v, hv, ⟨hh, x, hx, rfl⟩ | ⟨-, rfl⟩⟩ := gath_src h1 h2 hy
    · have := (okV_valid (valV_valid h2 hh) hx).2.2.1
      have := (okV_valid h1 hv).2.2.1
      show 0 ≤ x.2 + v.2
      omega
    · exact (okV_valid h1 hv).2.2.1

/-- what Assign says, where it does not fail -/
theorem ass_ok {L : Lvl} {ms : List Lvl} (h1 : validB L = true) (h2 : ms.all validB = true) (he : (assL L ms).2 = 0) :
    (assL L ms).1 = trimL (gathL L ms) ∧ topL (gathL L ms) ≤ 100 ∧ validB (assL L ms).1 = true ∧ leL (assL L ms).1 (gathL L ms) ∧ leL (gathL L ms) (assL L ms).1 := by
  have g := gath_good h1 h2
  rw [assL_gath h1 h2] at he ⊢
  obtain ⟨e, ht⟩ := lim_ok he
  rw [e]
  exact ⟨rfl, ht, valid_trim g ht, trim_eqv g.c⟩
theorem ass_err {L : Lvl} {ms : List Lvl} (h1 : validB L = true) (h2 : ms.all validB = true) : (assL L ms).2 = 0 ↔ topL (gathL L ms) ≤ 100 := by
  rw [assL_gath h1 h2, lim_err]

/-- values that are at most others -/
def leM (ms ns : List Lvl) : Prop := ms.length = ns.length ∧ ∀ (i : Nat) (x y : Lvl), ms[i]? = some x → ns[i]? = some y → leL x y
theorem leM.refl (ms : List Lvl) : leM ms ms := ⟨rfl, fun i x y h1 h2 => by rw [h1] at h2; cases h2; exact leL.refl _⟩
theorem leM.trans {a b c : List Lvl} (h : leM a b) (k : leM b c) : leM a c := by
  refine ⟨h.1.trans k.1, fun i x y h1 h2 => ?_⟩
  have hi := (List.getElem?_eq_some_iff.1 h1).1
  obtain ⟨z, h3⟩ : ∃ z, b[i]? = some z := ⟨_, List.getElem?_eq_getElem (by rw [← h.1]; exact hi)⟩
  exact (h.2 i x z h1 h3).trans (k.2 i z y h3 h2)
theorem leW.self {L : Lvl} {ms : List Lvl} (h1 : validB L = true) (h2 : ms.all validB = true) {v : LV} (hv : v ∈ L.vs) : leW ms v (gathL L ms) := ((gath_le h1 h2).1 (leL.refl _)).2 v hv
theorem leW.top {ms : List Lvl} {v : LV} {B : Lvl} (h : leW ms v B) (hh : hasV ms v) : topL (valV ms v) + v.2 ≤ topL B := by
  unfold leW at h
  rw [if_pos hh] at h
  have : topL (valV ms v) ≤ topL B - v.2 := topL_le.2 ⟨by omega, fun x hx => by have := (h.2 x hx).top; dsimp only at this; omega⟩
  omega
theorem gath_mono {L : Lvl} {ms ns : List Lvl} (h1 : validB L = true) (h2 : ms.all validB = true) (h3 : ns.all validB = true) (h : leM ms ns) : leL (gathL L ms) (gathL L ns) := by
  refine (gath_le h1 h2).2 ⟨((gath_le h1 h3).1 (leL.refl _)).1, fun v hv => ?_⟩
  have k := leW.self h1 h3 hv
  have e : hasV ms v ↔ hasV ns v := by unfold hasV; rw [h.1]
  by_cases hh : hasV ms v
  · have hl : leL (valV ms v) (valV ns v) := h.2 _ _ _ (valV_at hh) (valV_at (e.1 hh))
    have kt := k.top (e.1 hh)
    unfold leW at k ⊢
    rw [if_pos (e.1 hh)] at k
    rw [if_pos hh]
    refine ⟨by have := hl.1; omega, fun x hx => ?_⟩
    obtain ⟨y, hy, e1, e2⟩ := hl.2 x hx
    obtain ⟨z, hz, e3, e4⟩ := k.2 y hy
    exact ⟨z, hz, by dsimp only at e3 ⊢; omega, by dsimp only at e4 ⊢; omega⟩
  · unfold leW at k ⊢
    rw [if_neg (fun hn => hh (e.2 hn))] at k
    rw [if_neg hh]; exact k
end Go.Proofs.Ytkimijmiphkddaa
