/- Plain laws of levels: loops as folds and scans, merging, order. -/
import Derived.Test.YtcapifnaceegmaaGreatDoorOwn
namespace Go.Proofs.YtcapifnaceegmaaGreatDoor
open Go.RowKit
set_option linter.unusedSimpArgs false
set_option linter.unusedVariables false

theorem loop_spec {σ β : Type} {step : σ → Option (LO σ β)} (I : σ → Prop) (μ : σ → Nat) (spec : σ → β)
    (h : ∀ s, I s → (step s = some (.done (spec s))) ∨ (∃ s', step s = some (.next s') ∧ I s' ∧ μ s' < μ s ∧ spec s' = spec s)) : ∀ (n : Nat) (s : σ), I s → μ s < n → loopN step n s = some (spec s)
  | 0, _, _, h0 => absurd h0 (Nat.not_lt_zero _)
  | n + 1, s, hs, hn => by
    rcases h s hs with h1 | ⟨s', h1, h2, h3, h4⟩
    · simp only [loopN, h1]
    · simp only [loopN, h1]
      rw [loop_spec I μ spec h n s' h2 (by omega), h4]

theorem w64_id {n : Int} (h1 : -9223372036854775808 ≤ n) (h2 : n ≤ 9223372036854775807) : w64 n = n := IntWalk.i64_in n ⟨h1, h2⟩

theorem idx_nat {α : Type} {l : List α} {i : Int} {x : α} (h0 : 0 ≤ i) (hx : l[i.toNat]? = some x) : idx l i = some x := by
  obtain ⟨k, rfl⟩ := Int.eq_ofNat_of_zero_le h0
  simpa [idx] using hx

/-! ### Metas -/
/-- the metavariables of variables, the last one first -/
def metGo : List LV → List Int
  | [] => []
  | x :: l => metGo l ++ (if x.1 < 0 then [-1 - x.1] else [])

def metL (L : Lvl) : List Int := if validB L then metGo L.vs else []

theorem metGo_take {l : List LV} {k : Nat} {x : LV} (h : l[k]? = some x) : metGo (l.take (k + 1)) = (if x.1 < 0 then [-1 - x.1] else []) ++ metGo (l.take k) := by
  induction l generalizing k with
  | nil => simp at h
  | cons y l ih =>
    cases k with
    | zero => simp at h; subst h; simp [metGo]
    | succ k =>
      simp only [List.getElem?_cons_succ] at h
      simp only [List.take_succ_cons, metGo, ih h, List.append_assoc]

/-- the first answer of a row -/
def firstR {α β : Type} (f : Nat → α → Option β) : List α → Nat → Option β
  | [], _ => none
  | x :: l, k => match f k x with
    | some b => some b
    | none => firstR f l (k + 1)

def sumR {β : Type} : Option β → Unit ⊕ β
  | some b => .inr b
  | none => .inl ()

theorem firstR_drop {α β : Type} {f : Nat → α → Option β} {l : List α} {k : Nat} {x : α} (h : l[k]? = some x) : firstR f (l.drop k) k = match f k x with
    | some b => some b
    | none => firstR f (l.drop (k + 1)) (k + 1) := by
  have hk := (List.getElem?_eq_some_iff.1 h).1
  rw [List.drop_eq_getElem_cons hk, (List.getElem?_eq_some_iff.1 h).2]
  rfl

theorem scan_loop {α β : Type} {step : Int → Option (LO Int (Unit ⊕ β))} {l : List α} (f : Nat → α → Option β) (hlen : l.length ≤ 900000)
    (hin : ∀ (k : Nat) (x : α), l[k]? = some x → step (k : Int) = some (match f k x with
      | some b => .done (.inr b)
      | none => .next (w64 ((k : Int) + 1)))) (hout : step (l.length : Int) = some (.done (.inl ()))) : loopN step FUEL 0 = some (sumR (firstR f l 0)) := by
  have key := loop_spec (step := step) (fun s => 0 ≤ s ∧ s ≤ l.length) (fun s => l.length - s.toNat) (fun s => sumR (firstR f (l.drop s.toNat) s.toNat)) (fun s hs => by
    obtain ⟨k, rfl⟩ := Int.eq_ofNat_of_zero_le hs.1
    rcases Nat.lt_or_ge k l.length with hk | hk
    · obtain ⟨x, hx⟩ : ∃ x, l[k]? = some x := ⟨_, List.getElem?_eq_getElem hk⟩
      have h1 := hin k x hx
      have h2 := firstR_drop (f := f) hx
      simp only [Int.toNat_natCast]
      rw [h1, h2]
      cases hf : f k x with
      | some b => left; rfl
      | none =>
        right
        refine ⟨_, rfl, ?_⟩
        rw [w64_id (by omega) (by omega)]
        refine ⟨by omega, by omega, ?_⟩
        rw [show ((k : Int) + 1).toNat = k + 1 by omega]
    · left
      have e : k = l.length := by omega
      subst e
      rw [hout]
      simp [firstR, sumR]) FUEL 0 ⟨Int.le_refl _, by omega⟩ (by simp [FUEL]; omega)
  simpa using key

theorem firstR_any {α : Type} {p : α → Bool} {β : Type} {g : Nat → β} : ∀ (l : List α) (k : Nat), (firstR (fun k x => if p x then some (g k) else none) l k).isSome = l.any p
  | [], _ => rfl
  | x :: l, k => by
    cases h : p x with
    | true => simp [firstR, h]
    | false => simp [firstR, h, firstR_any l (k + 1)]

theorem firstR_ge {α : Type} {p : α → Bool} : ∀ (l : List α) (k : Nat) (n : Int), firstR (fun k x => if p x then some (k : Int) else none) l k = some n → 0 ≤ n
  | [], _, _, h => by simp [firstR] at h
  | x :: l, k, n, h => by
    cases hp : p x with
    | true => simp [firstR, hp] at h; omega
    | false => simp [firstR, hp] at h; exact firstR_ge l (k + 1) n h

def beyB (L : Lvl) (m : Int) : Bool := (metL L).any fun x => decide (m ≤ x)

theorem metL_len {L : Lvl} : (metL L).length ≤ L.vs.length := by
  have : ∀ l : List LV, (metGo l).length ≤ l.length := fun l => by
    induction l with
    | nil => exact Nat.le_refl _
    | cons x l ih => simp only [metGo, List.length_append, List.length_cons]; split <;> simp <;> omega
  unfold metL
  split
  · exact this _
  · simp

/-! ### Check -/
def chkB (m : Int) (b : Bnd) : Int := if validB b.lo && validB b.hi then (if beyB b.lo m || beyB b.hi m then 24 else 0) else 3

def chkF (m : Int) (k : Nat) (b : Bnd) : Option (Int × Int) := if chkB m b == 0 then none else some ((k : Int), chkB m b)

def chkL (m : Int) (l : List Bnd) : Int × Int := if m < 0 ∨ 2000 < m then (0, 2) else (firstR (chkF m) l 0).getD (0, 0)

def shortVs (l : List Bnd) : Prop := l.length ≤ 100000 ∧ ∀ b ∈ l, b.lo.vs.length ≤ 100000 ∧ b.hi.vs.length ≤ 100000

theorem beyB_valid {L : Lvl} (h : validB L = true) (m : Int) : beyB L m = L.vs.any fun x => decide (x.1 < 0) && decide (m ≤ -1 - x.1) := by
  unfold beyB metL
  rw [if_pos h]
  induction L.vs with
  | nil => rfl
  | cons x l ih =>
    simp only [metGo, List.any_append, ih, List.any_cons]
    by_cases hx : x.1 < 0
    · rw [if_pos hx, decide_eq_true hx]; simp [Bool.or_comm]
    · rw [if_neg hx, decide_eq_false hx]; simp

/-- a value: valid, no metavariable -/
def valB (L : Lvl) : Bool := validB L && !(L.vs.any fun x => decide (x.1 < 0))

theorem w64_next {k n : Nat} (h : k < n) (hn : n ≤ 1000000000) : w64 ((k : Int) + 1) = ((k + 1 : Nat) : Int) := by rw [w64_id (by omega) (by omega)]; rfl

theorem drop_foldl {α σ : Type} {f : σ → α → σ} {l : List α} {k : Nat} {x : α} {s : σ} (h : l[k]? = some x) : (l.drop k).foldl f s = (l.drop (k + 1)).foldl f (f s x) := by
  have : l.drop k = x :: l.drop (k + 1) := by
    obtain ⟨hk, rfl⟩ := List.getElem?_eq_some_iff.1 h
    exact List.drop_eq_getElem_cons hk
  rw [this]; rfl

/-- A loop over a list, by its index: a fold. -/
theorem fold_loop {α σ : Type} {step : Int × σ → Option (LO (Int × σ) σ)} {l : List α} (f : σ → α → σ) (P : Nat → σ → Prop) (hlen : l.length ≤ 900000)
    (hin : ∀ (k : Nat) (x : α) (s : σ), l[k]? = some x → P k s → step ((k : Int), s) = some (.next (w64 ((k : Int) + 1), f s x)) ∧ P (k + 1) (f s x))
    (hout : ∀ s, P l.length s → step ((l.length : Int), s) = some (.done s)) (s0 : σ) (h0 : P 0 s0) : loopN step FUEL (0, s0) = some (l.foldl f s0) ∧ P l.length (l.foldl f s0) := by
  have key := loop_spec (step := step) (fun s => ∃ k : Nat, s.1 = (k : Int) ∧ k ≤ l.length ∧ P k s.2) (fun s => l.length - s.1.toNat) (fun s => (l.drop s.1.toNat).foldl f s.2) (fun s hs => by
    obtain ⟨i, s⟩ := s
    obtain ⟨k, rfl, hk, hp⟩ := hs
    dsimp only at hp ⊢
    rcases Nat.lt_or_ge k l.length with hlt | hge
    · obtain ⟨x, hx⟩ : ∃ x, l[k]? = some x := ⟨_, List.getElem?_eq_getElem hlt⟩
      obtain ⟨h1, h2⟩ := hin k x s hx hp
      right
      rw [w64_next hlt (by omega)] at h1
      refine ⟨_, h1, ⟨k + 1, rfl, hlt, h2⟩, ?_, ?_⟩
      · simp only [Int.toNat_natCast]; omega
      · simp only [Int.toNat_natCast]; exact (drop_foldl hx).symm
    · left
      obtain rfl : k = l.length := by omega
      rw [hout s hp]
      simp) FUEL (0, s0) ⟨0, rfl, Nat.zero_le _, h0⟩ (by show l.length - 0 < 1000000; omega)
  refine ⟨by simpa using key, ?_⟩
  -- the invariant at the end
  have hind : ∀ (k : Nat), k ≤ l.length → P k ((l.take k).foldl f s0) := by
    intro k
    induction k with
    | zero => intro _; exact h0
    | succ k ih =>
      intro hk
      have hx : l[k]? = some l[k] := List.getElem?_eq_getElem (by omega)
      have := (hin k _ _ hx (ih (by omega))).2
      rw [List.take_add_one, hx, List.foldl_append]
      exact this
  have := hind l.length (Nat.le_refl _)
  rwa [List.take_length] at this

/-! ### Loops whose index stands elsewhere in the state -/
theorem fold_loopG {α σ τ β : Type} {step : τ → Option (LO τ β)} {l : List α} (mk : Int → σ → τ) (fin : σ → β) (f : σ → α → σ) (P : Nat → σ → Prop) (hlen : l.length ≤ 900000)
    (hin : ∀ (k : Nat) (x : α) (s : σ), l[k]? = some x → P k s → step (mk (k : Int) s) = some (.next (mk (w64 ((k : Int) + 1)) (f s x))) ∧ P (k + 1) (f s x))
    (hout : ∀ s, P l.length s → step (mk (l.length : Int) s) = some (.done (fin s))) (s0 : σ) (h0 : P 0 s0) : loopN step FUEL (mk 0 s0) = some (fin (l.foldl f s0)) := by
  have key : ∀ (n k : Nat) (s : σ), k ≤ l.length → l.length - k < n → P k s → loopN step n (mk (k : Int) s) = some (fin ((l.drop k).foldl f s)) := by
    intro n
    induction n with
    | zero => intro k s h1 h2; omega
    | succ n ih =>
      intro k s h1 h2 hp
      rcases Nat.lt_or_ge k l.length with hlt | hge
      · obtain ⟨x, hx⟩ : ∃ x, l[k]? = some x := ⟨_, List.getElem?_eq_getElem hlt⟩
        obtain ⟨h3, h4⟩ := hin k x s hx hp
        rw [w64_next hlt (by omega)] at h3
        simp only [loopN, h3]
        rw [ih (k + 1) _ hlt (by omega) h4, drop_foldl hx]
      · obtain rfl : k = l.length := by omega
        simp only [loopN, hout s hp]
        rw [List.drop_length]; rfl
  have := key FUEL 0 s0 (Nat.zero_le _) (by unfold FUEL; omega) h0
  simpa using this

/-- a loop over a list with early answers -/
def exitGo {α σ β : Type} (g : σ → α → β ⊕ σ) (fin : σ → β) : List α → σ → β
  | [], s => fin s
  | x :: l, s => match g s x with
    | .inl r => r
    | .inr s' => exitGo g fin l s'

theorem exit_loopG {α σ τ β : Type} {step : τ → Option (LO τ β)} {l : List α} (mk : Int → σ → τ) (fin : σ → β) (g : σ → α → β ⊕ σ) (P : Nat → σ → Prop) (hlen : l.length ≤ 900000)
    (hin : ∀ (k : Nat) (x : α) (s : σ), l[k]? = some x → P k s → (match g s x with
      | .inl r => step (mk (k : Int) s) = some (.done r)
      | .inr s' => step (mk (k : Int) s) = some (.next (mk (w64 ((k : Int) + 1)) s')) ∧ P (k + 1) s'))
    (hout : ∀ s, P l.length s → step (mk (l.length : Int) s) = some (.done (fin s))) (s0 : σ) (h0 : P 0 s0) : loopN step FUEL (mk 0 s0) = some (exitGo g fin l s0) := by
  have key : ∀ (n k : Nat) (s : σ), k ≤ l.length → l.length - k < n → P k s → loopN step n (mk (k : Int) s) = some (exitGo g fin (l.drop k) s) := by
    intro n
    induction n with
    | zero => intro k s h1 h2; omega
    | succ n ih =>
      intro k s h1 h2 hp
      rcases Nat.lt_or_ge k l.length with hlt | hge
      · obtain ⟨x, hx⟩ : ∃ x, l[k]? = some x := ⟨_, List.getElem?_eq_getElem hlt⟩
        have h3 := hin k x s hx hp
        have e : l.drop k = x :: l.drop (k + 1) := by
          obtain ⟨hk, rfl⟩ := List.getElem?_eq_some_iff.1 hx
          exact List.drop_eq_getElem_cons hk
        rw [e]
        simp only [exitGo]
        cases hg : g s x with
        | inl r =>
          rw [hg] at h3
          dsimp only at h3
          simp only [loopN, h3]
        | inr s' =>
          rw [hg] at h3
          dsimp only at h3
          rw [w64_next hlt (by omega)] at h3
          simp only [loopN, h3.1]
          exact ih (k + 1) _ hlt (by omega) h3.2
      · obtain rfl : k = l.length := by omega
        simp only [loopN, hout s hp]
        rw [List.drop_length]; rfl
  have := key FUEL 0 s0 (Nat.zero_le _) (by unfold FUEL; omega) h0
  simpa using this

/-! ### Maps -/
def lkp (k : Int) (l : List (Int × Int × Nat)) : Option Int := (l.find? fun e => k == e.1).map fun e => e.2.1

theorem imFind_lkp (k : Int) : ∀ (l : List (Int × Int × Nat)) (i : Nat), (imFind k l i).map (·.2) = lkp k l
  | [], i => rfl
  | e :: l, i => by
    simp only [imFind, lkp, List.find?_cons]
    cases h : k == e.1 with
    | true => rfl
    | false => simp only [cond_false]; exact imFind_lkp k l (i + 1)

theorem imGet_lkp (M : IMap) (k : Int) : imGet M k = lkp k M.1 := imFind_lkp k M.1 0

theorem lkp_append (k : Int) (l r : List (Int × Int × Nat)) : lkp k (l ++ r) = (lkp k l).or (lkp k r) := by
  simp only [lkp, List.find?_append]
  cases l.find? fun e => k == e.1 <;> rfl

theorem lkp_modify {k v : Int} {k' : Int} : ∀ {l : List (Int × Int × Nat)} {i j : Nat} {u : Int}, imFind k l i = some (j, u) → i ≤ j ∧ j - i < l.length ∧ lkp k' (l.modify (j - i) fun e => (k, v, e.2.2)) = if k' = k then some v else lkp k' l
  | [], i, j, u, h => by cases h
  | e :: l, i, j, u, h => by
    simp only [imFind] at h
    cases hk : k == e.1 with
    | true =>
      rw [hk] at h; cases h
      have hke : k = e.1 := by simpa using hk
      refine ⟨Nat.le_refl _, by simp, ?_⟩
      rw [Nat.sub_self, List.modify_zero_cons]
      simp only [lkp, List.find?_cons]
      by_cases hkk : k' = k
      · subst hkk; simp
      · have h1 : (k' == k) = false := by simpa using hkk
        have h2 : (k' == e.1) = false := by rw [← hke]; exact h1
        rw [h1, h2, if_neg hkk]
    | false =>
      rw [hk] at h
      simp only [cond_false] at h
      obtain ⟨h1, h2, h3⟩ := lkp_modify (v := v) (k' := k') h
      refine ⟨by omega, by simp only [List.length_cons]; omega, ?_⟩
      rw [show j - i = (j - (i + 1)) + 1 by omega, List.modify_succ_cons]
      simp only [lkp, List.find?_cons] at h3 ⊢
      cases hk' : k' == e.1 with
      | true =>
        have : k' ≠ k := by
          intro e1; subst e1; rw [hk] at hk'; cases hk'
        rw [if_neg this]
      | false => exact h3

theorem imGet_set (M : IMap) (k v k' : Int) : imGet (imSet M k v) k' = if k' = k then some v else imGet M k' := by
  rw [imGet_lkp, imGet_lkp]
  unfold imSet
  cases h : imFind k M.1 0 with
  | some p =>
    obtain ⟨j, u⟩ := p
    have := (lkp_modify (v := v) (k' := k') h).2.2
    simpa using this
  | none =>
    have h0 : lkp k M.1 = none := by rw [← imFind_lkp k M.1 0, h]; rfl
    dsimp only
    rw [lkp_append]
    by_cases hkk : k' = k
    · subst hkk
      rw [h0]; simp [lkp]
    · rw [if_neg hkk]
      have : lkp k' [(k, v, M.2)] = none := by
        have h1 : (k' == k) = false := by simpa using hkk
        simp [lkp, h1]
      rw [this]; cases lkp k' M.1 <;> rfl

/-- a map in order, of at most n keys -/
structure ImInv (n : Nat) (M : IMap) : Prop where
  len : M.1.length ≤ n
  keys : (M.1.map fun e => e.1).Nodup
  born : (M.1.map fun e => e.2.2).Nodup
  old : ∀ e ∈ M.1, e.2.2 < M.2
  rng : ∀ e ∈ M.1, -9223372036854775808 ≤ e.1 ∧ e.1 ≤ 9223372036854775807

theorem ImInv.nil : ImInv 0 imNil := ⟨Nat.le_refl _, List.nodup_nil, List.nodup_nil, (fun e h => by cases h), (fun e h => by cases h)⟩

theorem modify_map {α β : Type} (g : α → β) (f : α → α) : ∀ (l : List α) (j : Nat), (∀ x, l[j]? = some x → g (f x) = g x) → (l.modify j f).map g = l.map g
  | [], j, _ => by cases j <;> rfl
  | x :: l, 0, h => by rw [List.modify_zero_cons, List.map_cons, List.map_cons, h x rfl]
  | x :: l, j + 1, h => by rw [List.modify_succ_cons, List.map_cons, List.map_cons, modify_map g f l j (fun y hy => h y (by simpa using hy))]

theorem imFind_key {k : Int} : ∀ {l : List (Int × Int × Nat)} {i j : Nat} {u : Int}, imFind k l i = some (j, u) → ∃ e, l[j - i]? = some e ∧ e.1 = k
  | [], i, j, u, h => by cases h
  | e :: l, i, j, u, h => by
    simp only [imFind] at h
    cases hk : k == e.1 with
    | true => rw [hk] at h; cases h; exact ⟨e, by simp, (by simpa using hk : k = e.1).symm⟩
    | false =>
      rw [hk] at h
      simp only [cond_false] at h
      obtain ⟨e', h1, h2⟩ := imFind_key h
      have := (lkp_modify (v := 0) (k' := 0) h).1
      exact ⟨e', by rw [show j - i = (j - (i + 1)) + 1 by omega, List.getElem?_cons_succ]; exact h1, h2⟩

theorem imFind_none {k : Int} : ∀ {l : List (Int × Int × Nat)} {i : Nat}, imFind k l i = none → ∀ e ∈ l, e.1 ≠ k
  | [], i, _, e, he => by cases he
  | x :: l, i, h, e, he => by
    simp only [imFind] at h
    cases hk : k == x.1 with
    | true => rw [hk] at h; cases h
    | false =>
      rw [hk] at h
      rcases List.mem_cons.1 he with rfl | he
      · intro e1; rw [e1] at hk; simp at hk
      · exact imFind_none h e he

theorem ImInv.set {n : Nat} {M : IMap} (h : ImInv n M) {k : Int} (v : Int) (hk : -9223372036854775808 ≤ k ∧ k ≤ 9223372036854775807) : ImInv (n + 1) (imSet M k v) := by
  unfold imSet
  cases hf : imFind k M.1 0 with
  | some p =>
    obtain ⟨j, u⟩ := p
    obtain ⟨e0, h1, h2⟩ := imFind_key hf
    rw [Nat.sub_zero] at h1
    have m1 : (M.1.modify j fun e => (k, v, e.2.2)).map (fun e => e.1) = M.1.map fun e => e.1 := modify_map _ _ _ _ (fun x hx => by rw [h1] at hx; cases hx; exact h2.symm)
    have m2 : (M.1.modify j fun e => (k, v, e.2.2)).map (fun e => e.2.2) = M.1.map fun e => e.2.2 := modify_map _ _ _ _ (fun x hx => rfl)
    refine ⟨by rw [List.length_modify]; exact Nat.le_succ_of_le h.len, by dsimp only; rw [m1]; exact h.keys, by dsimp only; rw [m2]; exact h.born, fun e he => ?_, fun e he => ?_⟩
    · have : e.2.2 ∈ M.1.map fun e => e.2.2 := by rw [← m2]; exact List.mem_map_of_mem he
      obtain ⟨e', h3, h4⟩ := List.mem_map.1 this
      dsimp only at h4 ⊢
      rw [← h4]; exact h.old e' h3
    · have : e.1 ∈ M.1.map fun e => e.1 := by rw [← m1]; exact List.mem_map_of_mem he
      obtain ⟨e', h3, h4⟩ := List.mem_map.1 this
      rw [← h4]; exact h.rng e' h3
  | none =>
    have hn := imFind_none hf
    refine ⟨by simp only [List.length_append, List.length_singleton]; have := h.len; omega, ?_, ?_, fun e he => ?_, fun e he => ?_⟩
    · rw [List.map_append, List.nodup_append]
      refine ⟨h.keys, by simp, fun a ha b hb => ?_⟩
      obtain ⟨e, h3, rfl⟩ := List.mem_map.1 ha
      simp at hb; subst hb
      exact hn e h3
    · rw [List.map_append, List.nodup_append]
      refine ⟨h.born, by simp, fun a ha b hb => ?_⟩
      obtain ⟨e, h3, rfl⟩ := List.mem_map.1 ha
      simp at hb; subst hb
      exact Nat.ne_of_lt (h.old e h3)
    · rcases List.mem_append.1 he with he | he
      · exact Nat.lt_succ_of_lt (h.old e he)
      · simp at he; subst he; exact Nat.lt_succ_self _
    · rcases List.mem_append.1 he with he | he
      · exact h.rng e he
      · simp at he; subst he; exact hk

theorem nodupB_of {α : Type} [BEq α] [LawfulBEq α] : ∀ {l : List α}, l.Nodup → nodupB l = true
  | [], _ => rfl
  | x :: l, h => by
    obtain ⟨h1, h2⟩ := List.nodup_cons.1 h
    simp only [nodupB]
    cases h3 : l.any fun y => x == y with
    | true =>
      obtain ⟨y, h4, h5⟩ := List.any_eq_true.1 h3
      rw [show x = y by simpa using h5] at h1
      exact absurd h4 h1
    | false => exact nodupB_of h2

theorem ImInv.ok {n : Nat} {M : IMap} (h : ImInv n M) (hn : n ≤ 1000000) : imOk M = true := by
  unfold imOk
  rw [Nat.ble_eq_true_of_le (Nat.le_trans h.len hn), nodupB_of h.keys, nodupB_of h.born]
  have : (M.1.all fun e => cond (Nat.ble (e.2.2 + 1) M.2) (cond (decide (-9223372036854775808 ≤ e.1)) (decide (e.1 ≤ 9223372036854775807)) false) false) = true := by
    refine List.all_eq_true.2 fun e he => ?_
    rw [Nat.ble_eq_true_of_le (h.old e he), decide_eq_true (h.rng e he).1, decide_eq_true (h.rng e he).2]; rfl
  rw [this]; rfl

/-- the keys are those that have a value -/
theorem mem_imKeys {M : IMap} {k : Int} : k ∈ imKeys M ↔ (imGet M k).isSome := by
  rw [imGet_lkp]
  unfold imKeys lkp
  rw [(sortZ_perm _).mem_iff, Option.isSome_map, List.find?_isSome]
  constructor
  · intro h
    obtain ⟨e, h1, h2⟩ := List.mem_map.1 h
    exact ⟨e, h1, by simp [h2]⟩
  · rintro ⟨e, h1, h2⟩
    exact List.mem_map.2 ⟨e, h1, (by simpa using h2 : k = e.1).symm⟩

/-- they ascend -/
theorem imKeys_asc {n : Nat} {M : IMap} (h : ImInv n M) : (imKeys M).Pairwise (· < ·) := by
  have h1 : (imKeys M).Nodup := (sortZ_perm _).nodup_iff.2 h.keys
  have h2 := sortZ_sorted (M.1.map fun e => e.1)
  exact (h2.and h1).imp fun ⟨a, b⟩ => Int.lt_iff_le_and_ne.2 ⟨a, b⟩

/-- the greater one, if there is one -/
def mx : Option Int → Int → Option Int
  | none, p => some p
  | some o, p => some (max o p)

def comb : Option Int → Option Int → Option Int
  | a, none => a
  | a, some p => mx a p

def getV (vs : List LV) (k : Int) : Option Int := (vs.find? fun x => k == x.1).map fun x => x.2

abbrev Asc (l : List LV) : Prop := l.Pairwise (fun a b => a.1 < b.1)

theorem getV_nil (k : Int) : getV [] k = none := rfl

theorem getV_hit (x : LV) (l : List LV) : getV (x :: l) x.1 = some x.2 := by simp [getV]

theorem getV_miss {x : LV} {l : List LV} {k : Int} (h : k ≠ x.1) : getV (x :: l) k = getV l k := by
  have : (k == x.1) = false := by simpa using h
  simp [getV, List.find?_cons, this]

theorem getV_none {l : List LV} {k : Int} (h : ∀ y ∈ l, y.1 ≠ k) : getV l k = none := by
  induction l with
  | nil => rfl
  | cons x l ih => rw [getV_miss (fun e => h x List.mem_cons_self e.symm)]; exact ih fun y hy => h y (List.mem_cons_of_mem _ hy)

theorem getV_mem {l : List LV} (h : Asc l) {k p : Int} : getV l k = some p ↔ (k, p) ∈ l := by
  induction l with
  | nil => simp [getV]
  | cons x l ih =>
    obtain ⟨h1, h2⟩ := List.pairwise_cons.1 h
    by_cases hk : k = x.1
    · subst hk
      rw [getV_hit]
      constructor
      · intro e; cases e; exact List.mem_cons_self
      · intro hm
        rcases List.mem_cons.1 hm with e | hm
        · rw [← e]
        · have := h1 _ hm; simp at this
    · rw [getV_miss hk, ih h2]
      constructor
      · exact fun hm => List.mem_cons_of_mem _ hm
      · intro hm
        rcases List.mem_cons.1 hm with e | hm
        · exact absurd (by rw [← e]) hk
        · exact hm

theorem Asc.nodup {l : List LV} (h : Asc l) : l.Nodup := h.imp fun hab e => by rw [e] at hab; omega

theorem asc_ext {a b : List LV} (ha : Asc a) (hb : Asc b) (h : ∀ k, getV a k = getV b k) : a = b := by
  have hp : a.Perm b := (List.perm_ext_iff_of_nodup ha.nodup hb.nodup).2 fun x => by
    obtain ⟨k, p⟩ := x
    rw [← getV_mem ha, ← getV_mem hb, h]
  exact List.Perm.eq_of_pairwise (le := fun x y : LV => x.1 < y.1) (fun x y _ _ h1 h2 => by omega) ha hb hp

theorem getV_lt {x : LV} {l : List LV} {k : Int} (h : Asc (x :: l)) (hk : k < x.1) : getV (x :: l) k = none := by
  refine getV_none fun y hy e => ?_
  rcases List.mem_cons.1 hy with rfl | hy
  · omega
  · have := (List.pairwise_cons.1 h).1 y hy; omega

theorem comb_none_l (a : Option Int) : comb none a = a := by cases a <;> rfl

theorem comb_none_r (a : Option Int) : comb a none = a := by cases a <;> rfl

theorem getV_merge : ∀ (a b : List LV), Asc a → Asc b → ∀ k, getV (mergeV a b) k = comb (getV a k) (getV b k)
  | [], b, _, _, k => by rw [mergeV_nil_l, getV_nil, comb_none_l]
  | x :: a, [], _, _, k => by rw [mergeV_nil_r, getV_nil, comb_none_r]
  | x :: a, y :: b, ha, hb, k => by
    obtain ⟨a1, a2⟩ := List.pairwise_cons.1 ha
    obtain ⟨b1, b2⟩ := List.pairwise_cons.1 hb
    rw [mergeV]
    split
    · rename_i hxy
      by_cases hk : k = x.1
      · subst hk; rw [getV_hit, getV_hit, getV_lt hb hxy, comb_none_r]
      · rw [getV_miss hk, getV_miss hk]; exact getV_merge a (y :: b) a2 hb k
    · split
      · rename_i hyx
        by_cases hk : k = y.1
        · subst hk; rw [getV_hit, getV_hit, getV_lt ha hyx, comb_none_l]
        · rw [getV_miss hk, getV_miss (x := y) hk]; exact getV_merge (x :: a) b ha b2 k
      · rename_i h1 h2
        have e : x.1 = y.1 := by omega
        by_cases hk : k = x.1
        · subst hk
          rw [getV_hit (x.1, max x.2 y.2), getV_hit, e, getV_hit]; rfl
        · have hk2 : k ≠ y.1 := by rw [← e]; exact hk
          rw [getV_miss (x := (x.1, max x.2 y.2)) hk, getV_miss hk, getV_miss hk2]
          exact getV_merge a b a2 b2 k
termination_by a b => a.length + b.length

/-! ### The greatest offset -/
theorem topOf_le {c m : Int} {vs : List LV} : topOf c vs ≤ m ↔ c ≤ m ∧ ∀ x ∈ vs, x.2 ≤ m := by
  unfold topOf
  induction vs generalizing c with
  | nil => simp
  | cons y l ih =>
    rw [List.foldl_cons, ih]
    constructor
    · rintro ⟨h1, h2⟩
      refine ⟨by omega, fun x hx => ?_⟩
      rcases List.mem_cons.1 hx with rfl | hx
      · omega
      · exact h2 x hx
    · rintro ⟨h1, h2⟩
      exact ⟨by have := h2 y List.mem_cons_self; omega, fun x hx => h2 x (List.mem_cons_of_mem _ hx)⟩

theorem le_topOf {c : Int} {vs : List LV} {x : LV} (h : x ∈ vs) : x.2 ≤ topOf c vs := (topOf_le.1 (Int.le_refl _)).2 x h

theorem top_ge (c : Int) (vs : List LV) : c ≤ topOf c vs := (topOf_le.1 (Int.le_refl _)).1

/-- it is one of them -/
theorem topOf_at {vs : List LV} (hne : vs ≠ []) (h0 : ∀ x ∈ vs, 0 ≤ x.2) : ∃ x ∈ vs, topOf 0 vs = x.2 := by
  have key : ∀ (l : List LV) (c : Int), topOf c l = c ∨ ∃ x ∈ l, topOf c l = x.2 := by
    intro l
    induction l with
    | nil => intro c; exact .inl rfl
    | cons y l ih =>
      intro c
      have e : topOf c (y :: l) = topOf (max c y.2) l := rfl
      rw [e]
      rcases ih (max c y.2) with h | ⟨x, hx, h⟩
      · rw [h]
        rcases Int.le_total c y.2 with h1 | h1
        · right; exact ⟨y, List.mem_cons_self, by omega⟩
        · left; omega
      · right; exact ⟨x, List.mem_cons_of_mem _ hx, h⟩
  rcases key vs 0 with h | h
  · obtain ⟨x, r, rfl⟩ := List.exists_cons_of_ne_nil hne
    have h1 := h0 x List.mem_cons_self
    have h2 := le_topOf (c := 0) (vs := x :: r) List.mem_cons_self
    exact ⟨x, List.mem_cons_self, by omega⟩
  · exact h

/-- the constant, where it matters -/
def trimC (C : Int) (vs : List LV) : Int := if vs ≠ [] ∧ C ≤ topOf 0 vs then 0 else C

theorem join_eq (A B : Lvl) : joinL A B = ⟨trimC (max A.c B.c) (mergeV A.vs B.vs), mergeV A.vs B.vs⟩ := by
  unfold joinL trimC
  split <;> rfl

theorem trimC_more {C b : Int} {vs m : List LV} (hC : 0 ≤ C) (hb : 0 ≤ b) (hm : vs ≠ [] → m ≠ []) (ht : topOf 0 vs ≤ topOf 0 m) : trimC (max (trimC C vs) b) m = trimC (max C b) m := by
  unfold trimC
  have h0 := top_ge 0 m
  by_cases h1 : vs ≠ [] ∧ C ≤ topOf 0 vs
  · rw [if_pos h1]
    have hm' := hm h1.1
    by_cases h2 : b ≤ topOf 0 m
    · rw [if_pos ⟨hm', by omega⟩, if_pos ⟨hm', by omega⟩]
    · rw [if_neg (fun h => h2 (by omega)), if_neg (fun h => h2 (by omega))]; omega
  · rw [if_neg h1]

theorem trim_eq {C : Int} {vs : List LV} (hC : 0 ≤ C) (h0 : ∀ x ∈ vs, 0 ≤ x.2) : trimL ⟨C, vs⟩ = ⟨trimC C vs, vs⟩ := by
  unfold trimL trimC covB
  by_cases h1 : vs ≠ [] ∧ C ≤ topOf 0 vs
  · rw [if_pos h1]
    obtain ⟨x, hx, he⟩ := topOf_at h1.1 h0
    rw [if_pos]
    exact List.any_eq_true.2 ⟨x, hx, by simp; omega⟩
  · rw [if_neg h1, if_neg]
    intro h2
    obtain ⟨x, hx, he⟩ := List.any_eq_true.1 h2
    have hx' : x ∈ vs := hx
    have := le_topOf (c := 0) hx'
    simp at he
    exact h1 ⟨(by intro h; rw [h] at hx'; cases hx'), by omega⟩

/-! ### Merged lists -/
theorem getV_of_mem {l : List LV} (h : Asc l) {x : LV} (hx : x ∈ l) : getV l x.1 = some x.2 := (getV_mem h).2 hx

theorem merge_ge_l {a b : List LV} (ha : WF a) (hb : WF b) {x : LV} (hx : x ∈ a) : ∃ y ∈ mergeV a b, y.1 = x.1 ∧ x.2 ≤ y.2 := by
  have h1 := getV_merge a b ha.1 hb.1 x.1
  rw [getV_of_mem ha.1 hx] at h1
  have hm := (wf_merge a b ha hb).1
  cases h2 : getV b x.1 with
  | none => rw [h2] at h1; exact ⟨(x.1, x.2), (getV_mem hm).1 h1, rfl, Int.le_refl _⟩
  | some p => rw [h2] at h1; exact ⟨(x.1, max x.2 p), (getV_mem hm).1 h1, rfl, by dsimp only; omega⟩

theorem merge_ge_r {a b : List LV} (ha : WF a) (hb : WF b) {x : LV} (hx : x ∈ b) : ∃ y ∈ mergeV a b, y.1 = x.1 ∧ x.2 ≤ y.2 := by
  have h1 := getV_merge a b ha.1 hb.1 x.1
  rw [getV_of_mem hb.1 hx] at h1
  have hm := (wf_merge a b ha hb).1
  cases h2 : getV a x.1 with
  | none => rw [h2] at h1; exact ⟨(x.1, x.2), (getV_mem hm).1 h1, rfl, Int.le_refl _⟩
  | some p => rw [h2] at h1; exact ⟨(x.1, max p x.2), (getV_mem hm).1 h1, rfl, by dsimp only; omega⟩

/-- what is in a merged list comes from one of the two -/
theorem merge_src {a b : List LV} (ha : WF a) (hb : WF b) {y : LV} (hy : y ∈ mergeV a b) : y ∈ a ∨ y ∈ b := by
  have hm := (wf_merge a b ha hb).1
  have h1 := getV_merge a b ha.1 hb.1 y.1
  rw [getV_of_mem hm hy] at h1
  cases h2 : getV a y.1 with
  | none =>
    rw [h2, comb_none_l] at h1
    exact .inr ((getV_mem hb.1).1 h1.symm)
  | some p =>
    cases h3 : getV b y.1 with
    | none =>
      rw [h2, h3, comb_none_r] at h1
      have := (getV_mem ha.1).1 h2
      cases h1; exact .inl this
    | some q =>
      rw [h2, h3] at h1
      have h4 := (getV_mem ha.1).1 h2
      have h5 := (getV_mem hb.1).1 h3
      have h6 : y.2 = max p q := Option.some.inj h1
      rcases Int.le_total p q with h7 | h7
      · right
        rw [show max p q = q by omega] at h6
        rwa [← h6] at h5
      · left
        rw [show max p q = p by omega] at h6
        rwa [← h6] at h4

theorem merge_ne_l {a b : List LV} (h : a ≠ []) : mergeV a b ≠ [] := by
  cases a with
  | nil => exact absurd rfl h
  | cons x a => cases b with
    | nil => rw [mergeV_nil_r]; exact h
    | cons y b =>
      rw [mergeV]
      repeat' split
      all_goals exact List.cons_ne_nil _ _

theorem merge_ne_r {a b : List LV} (h : b ≠ []) : mergeV a b ≠ [] := by
  cases a with
  | nil => rw [mergeV_nil_l]; exact h
  | cons x a => exact merge_ne_l (List.cons_ne_nil _ _)

theorem topOf_mono {a m : List LV} (h : ∀ x ∈ a, ∃ y ∈ m, x.2 ≤ y.2) : topOf 0 a ≤ topOf 0 m := by
  refine topOf_le.2 ⟨top_ge 0 m, fun x hx => ?_⟩
  obtain ⟨y, hy, h1⟩ := h x hx
  have := le_topOf (c := 0) hy
  omega

/-! ### A map of offsets -/
/-- raise -/
def rzM (M : IMap) (x : LV) : IMap := cond (cond (!(imHas M x.1)) true (decide (imVal M x.1 < x.2))) (imSet M x.1 x.2) M

theorem rz_get (M : IMap) (x : LV) (k : Int) : imGet (rzM M x) k = if k = x.1 then mx (imGet M k) x.2 else imGet M k := by
  unfold rzM imHas imVal
  cases h : imGet M x.1 with
  | none =>
    simp only [Option.isSome_none, Bool.not_false, cond_true]
    rw [imGet_set]
    by_cases hk : k = x.1
    · subst hk; rw [if_pos rfl, if_pos rfl, h]; rfl
    · rw [if_neg hk, if_neg hk]
  | some o =>
    simp only [Option.isSome_some, Bool.not_true, cond_false, Option.getD_some]
    by_cases ho : o < x.2
    · rw [decide_eq_true ho, cond_true, imGet_set]
      by_cases hk : k = x.1
      · subst hk; rw [if_pos rfl, if_pos rfl, h]
        have : max o x.2 = x.2 := by omega
        simp only [mx, this]
      · rw [if_neg hk, if_neg hk]
    · rw [decide_eq_false ho, cond_false]
      by_cases hk : k = x.1
      · subst hk; rw [if_pos rfl, h]
        have : max o x.2 = o := by omega
        simp only [mx, this]
      · rw [if_neg hk]

/-- a map in order -/
def Good (M : IMap) : Prop := ∃ n, ImInv n M

theorem rz_good {M : IMap} (h : Good M) {x : LV} (hx : -65536 ≤ x.1 ∧ x.1 ≤ 7) : Good (rzM M x) := by
  unfold rzM
  obtain ⟨n, hn⟩ := h
  cases cond (!(imHas M x.1)) true (decide (imVal M x.1 < x.2)) with
  | true => exact ⟨_, hn.set x.2 ⟨by omega, by omega⟩⟩
  | false => exact ⟨n, hn⟩

theorem rz_fold : ∀ (l : List LV) (M : IMap), Asc l → ∀ k, imGet (l.foldl rzM M) k = comb (imGet M k) (getV l k)
  | [], M, _, k => by rw [getV_nil, comb_none_r]; rfl
  | x :: l, M, h, k => by
    obtain ⟨h1, h2⟩ := List.pairwise_cons.1 h
    rw [List.foldl_cons, rz_fold l _ h2, rz_get]
    by_cases hk : k = x.1
    · subst hk
      have : getV l x.1 = none := getV_none fun y hy e => by have := h1 y hy; omega
      rw [if_pos rfl, this, getV_hit, comb_none_r]; rfl
    · rw [if_neg hk, getV_miss hk]

theorem rz_fold_good : ∀ (l : List LV) (M : IMap), Good M → (∀ x ∈ l, -65536 ≤ x.1 ∧ x.1 ≤ 7) → Good (l.foldl rzM M)
  | [], _, h, _ => h
  | x :: l, M, h, hl => rz_fold_good l _ (rz_good h (hl x List.mem_cons_self)) fun y hy => hl y (List.mem_cons_of_mem _ hy)

/-- a map and a list that say the same -/
structure RMap (M : IMap) (vs : List LV) : Prop where
  good : Good M
  wf : WF vs
  eq : ∀ k, imGet M k = getV vs k

theorem RMap.nil : RMap imNil [] := ⟨⟨0, ImInv.nil⟩, wf_nil, fun k => rfl⟩

theorem RMap.merge {M : IMap} {vs l : List LV} (h : RMap M vs) (hl : WF l) : RMap (l.foldl rzM M) (mergeV vs l) :=
  ⟨rz_fold_good l M h.good hl.2, wf_merge _ _ h.wf hl, fun k => by rw [rz_fold l M hl.1, h.eq, getV_merge vs l h.wf.1 hl.1]⟩

theorem RMap.ok {M : IMap} {vs : List LV} (h : RMap M vs) : imOk M = true ∧ (imKeys M).map (fun k => (k, imVal M k)) = vs := by
  obtain ⟨n, hn⟩ := h.good
  have h1 : (imKeys M).map (fun k => (k, imVal M k)) = vs := by
    refine asc_ext ?_ h.wf.1 fun k => ?_
    · unfold Asc
      rw [List.pairwise_map]; exact imKeys_asc hn
    · have ha : Asc ((imKeys M).map fun k => (k, imVal M k)) := by unfold Asc; rw [List.pairwise_map]; exact imKeys_asc hn
      rw [← h.eq k]
      cases hg : imGet M k with
      | none =>
        refine getV_none fun y hy e => ?_
        obtain ⟨k', hk', rfl⟩ := List.mem_map.1 hy
        have := mem_imKeys.1 hk'
        dsimp only at e; subst e
        rw [hg] at this; cases this
      | some p =>
        have hk : k ∈ imKeys M := mem_imKeys.2 (by rw [hg]; rfl)
        refine (getV_mem ha).2 (List.mem_map.2 ⟨k, hk, ?_⟩)
        unfold imVal; rw [hg]; rfl
  refine ⟨ImInv.ok (n := M.1.length) { hn with len := Nat.le_refl _ } ?_, h1⟩
  have h2 : vs.length = M.1.length := by
    rw [← h1, List.length_map]
    exact (sortZ_perm _).length_eq.trans (List.length_map _)
  have := h.wf.len
  omega

/-! ### Assign, variable by variable -/
def hasV (ms : List Lvl) (v : LV) : Prop := v.1 < 0 ∧ -1 - v.1 < ms.length

instance (ms : List Lvl) (v : LV) : Decidable (hasV ms v) := inferInstanceAs (Decidable (_ ∧ _))

def valV (ms : List Lvl) (v : LV) : Lvl := ms.getD (-1 - v.1).toNat ⟨0, []⟩

def addS (ms : List Lvl) (s : IMap × Int) (v : LV) : IMap × Int := if hasV ms v then ((upV v.2 (valV ms v).vs).foldl rzM s.1, max s.2 ((valV ms v).c + v.2)) else (rzM s.1 v, s.2)

def addV (ms : List Lvl) (s : List LV × Int) (v : LV) : List LV × Int := if hasV ms v then (mergeV s.1 (upV v.2 (valV ms v).vs), max s.2 ((valV ms v).c + v.2)) else (mergeV s.1 [v], s.2)

def okV (v : LV) : Prop := -65536 ≤ v.1 ∧ v.1 ≤ 7 ∧ 0 ≤ v.2 ∧ v.2 ≤ 100

theorem valV_valid {ms : List Lvl} (hm : ms.all validB = true) {v : LV} (h : hasV ms v) : validB (valV ms v) = true := by
  unfold valV
  obtain ⟨h1, h2⟩ := h
  have hlt : (-1 - v.1).toNat < ms.length := by omega
  rw [List.getD_eq_getElem?_getD, List.getElem?_eq_getElem hlt]
  exact List.all_eq_true.1 hm _ (List.getElem_mem hlt)

theorem valV_at {ms : List Lvl} {v : LV} (h : hasV ms v) : ms[(-1 - v.1).toNat]? = some (valV ms v) := by
  unfold valV
  obtain ⟨h1, h2⟩ := h
  have hlt : (-1 - v.1).toNat < ms.length := by omega
  rw [List.getD_eq_getElem?_getD, List.getElem?_eq_getElem hlt]; rfl

theorem okV_valid {L : Lvl} (h : validB L = true) {v : LV} (hv : v ∈ L.vs) : okV v := by
  obtain ⟨k, hk⟩ := List.getElem?_of_mem hv
  exact valid_okVar h hk

theorem addV_rel {ms : List Lvl} (hm : ms.all validB = true) {M : IMap} {vs : List LV} {C : Int} (h : RMap M vs) {v : LV} (hv : okV v) : RMap (addS ms (M, C) v).1 (addV ms (vs, C) v).1 ∧ (addS ms (M, C) v).2 = (addV ms (vs, C) v).2 := by
  unfold addS addV
  by_cases hh : hasV ms v
  · rw [if_pos hh, if_pos hh]
    exact ⟨h.merge (wf_upV _ (wf_valid (valV_valid hm hh))), rfl⟩
  · rw [if_neg hh, if_neg hh]
    exact ⟨h.merge (l := [v]) (wf_one ⟨hv.1, hv.2.1⟩), rfl⟩

theorem addV_fold {ms : List Lvl} (hm : ms.all validB = true) : ∀ (l : List LV) (M : IMap) (vs : List LV) (C : Int), RMap M vs → (∀ v ∈ l, okV v) → RMap (l.foldl (addS ms) (M, C)).1 (l.foldl (addV ms) (vs, C)).1 ∧ (l.foldl (addS ms) (M, C)).2 = (l.foldl (addV ms) (vs, C)).2
  | [], M, vs, C, h, _ => ⟨h, rfl⟩
  | v :: l, M, vs, C, h, hl => by
    obtain ⟨h1, h2⟩ := addV_rel hm (C := C) h (hl v List.mem_cons_self)
    have := addV_fold hm l (addS ms (M, C) v).1 (addV ms (vs, C) v).1 (addS ms (M, C) v).2 h1 (fun y hy => hl y (List.mem_cons_of_mem _ hy))
    rw [List.foldl_cons, List.foldl_cons]
    have e : ((addV ms (vs, C) v).1, (addS ms (M, C) v).2) = addV ms (vs, C) v := by rw [h2]
    rw [e] at this
    exact this

/-! ### The reference -/
def bigS (s : List LV × Int) : Prop := 100 < s.2 ∨ ∃ x ∈ s.1, 100 < x.2

theorem big_bigB {s : List LV × Int} (h : bigS s) : bigB ⟨s.2, s.1⟩ = true := by
  rcases h with h | ⟨x, hx, h⟩
  · exact big_c h
  · obtain ⟨k, hk⟩ := List.getElem?_of_mem hx
    exact big_at (x1 := x.1) (x2 := x.2) hk h

theorem addV_wf {ms : List Lvl} (hm : ms.all validB = true) {s : List LV × Int} (h : WF s.1) {v : LV} (hv : okV v) : WF (addV ms s v).1 := by
  unfold addV
  by_cases hh : hasV ms v
  · rw [if_pos hh]; exact wf_merge _ _ h (wf_upV _ (wf_valid (valV_valid hm hh)))
  · rw [if_neg hh]; exact wf_merge _ _ h (wf_one ⟨hv.1, hv.2.1⟩)

theorem addV_big {ms : List Lvl} (hm : ms.all validB = true) {s : List LV × Int} (hw : WF s.1) (h : bigS s) {v : LV} (hv : okV v) : bigS (addV ms s v) := by
  unfold addV
  by_cases hh : hasV ms v
  · rw [if_pos hh]
    rcases h with h | ⟨x, hx, h⟩
    · left; dsimp only; omega
    · obtain ⟨y, hy, -, h1⟩ := merge_ge_l hw (wf_upV v.2 (wf_valid (valV_valid hm hh))) hx
      exact .inr ⟨y, hy, by omega⟩
  · rw [if_neg hh]
    rcases h with h | ⟨x, hx, h⟩
    · exact .inl h
    · obtain ⟨y, hy, -, h1⟩ := merge_ge_l hw (wf_one (x := v) ⟨hv.1, hv.2.1⟩) hx
      exact .inr ⟨y, hy, by omega⟩

theorem addV_bigs {ms : List Lvl} (hm : ms.all validB = true) : ∀ (l : List LV) (s : List LV × Int), WF s.1 → bigS s → (∀ v ∈ l, okV v) → bigS (l.foldl (addV ms) s)
  | [], s, _, h, _ => h
  | v :: l, s, hw, h, hl => addV_bigs hm l _ (addV_wf hm hw (hl v List.mem_cons_self)) (addV_big hm hw h (hl v List.mem_cons_self)) fun y hy => hl y (List.mem_cons_of_mem _ hy)

theorem trimC_low {C n : Int} {m : List LV} (hm : m ≠ []) (hn : n ≤ topOf 0 m) : trimC (max C n) m = trimC C m := by
  unfold trimC
  by_cases h : C ≤ topOf 0 m
  · rw [if_pos ⟨hm, by omega⟩, if_pos ⟨hm, h⟩]
  · rw [if_neg (fun e => h (by omega)), if_neg (fun e => h e.2)]; omega

theorem upV_mem {n : Int} {l : List LV} {y : LV} : y ∈ upV n l ↔ ∃ x ∈ l, y = (x.1, x.2 + n) := by
  unfold upV
  rw [List.mem_map]
  exact ⟨fun ⟨x, h, e⟩ => ⟨x, h, e.symm⟩, fun ⟨x, h, e⟩ => ⟨x, h, e.symm⟩⟩

theorem repGo_eq {ms : List Lvl} (hm : ms.all validB = true) : ∀ (l : List LV) (out : Lvl) (C : Int), (∀ v ∈ l, okV v) → WF out.vs → (∀ x ∈ out.vs, 0 ≤ x.2 ∧ x.2 ≤ 100) → 0 ≤ C → C ≤ 100 → out.c = trimC C out.vs →
    repGo ms l out = limL ⟨(l.foldl (addV ms) (out.vs, C)).2, (l.foldl (addV ms) (out.vs, C)).1⟩
  | [], out, C, _, hw, ho, h0, h1, hc => by
    have hb : bigB ⟨C, out.vs⟩ = false := big_no (fun j x _ hx => (ho x (List.mem_of_getElem? hx)).2) h1
    show (out, 0) = limL ⟨C, out.vs⟩
    unfold limL
    rw [hb, if_neg (by simp), trim_eq h0 (fun x hx => (ho x hx).1), ← hc]
  | v :: l, out, C, hl, hw, ho, h0, h1, hc => by
    have hv := hl v List.mem_cons_self
    have hl' : ∀ y ∈ l, okV y := fun y hy => hl y (List.mem_cons_of_mem _ hy)
    rw [List.foldl_cons, repGo]
    by_cases hh : hasV ms v
    · have hV := valV_valid hm hh
      have hVw := wf_valid hV
      have hVc := valid_c hV
      have e1 : addV ms (out.vs, C) v = (mergeV out.vs (upV v.2 (valV ms v).vs), max C ((valV ms v).c + v.2)) := if_pos hh
      have es : repStep ms out v = (if (plusL (valV ms v) v.2).2 = 0 then (joinL out (plusL (valV ms v) v.2).1, (0 : Int)) else (⟨0, []⟩, (plusL (valV ms v) v.2).2)) := if_pos hh
      have ep : plusL (valV ms v) v.2 = if tooBig (valV ms v) v.2 then (⟨0, []⟩, 15) else (⟨plusC (valV ms v) v.2, upV v.2 (valV ms v).vs⟩, 0) := by
        unfold plusL
        rw [if_neg (by rw [hV]; simp), if_neg (by have := hv.2.2; omega), if_neg (by have := hv.2.2; omega)]
      cases ht : tooBig (valV ms v) v.2 with
      | true =>
        rw [ht, if_pos rfl] at ep
        have : bigS (addV ms (out.vs, C) v) := by
          rw [e1]
          unfold tooBig at ht
          rcases Bool.or_eq_true_iff.1 ht with h | h
          · left
            have h2 := of_decide_eq_true h
            unfold plusC at h2
            dsimp only
            split at h2 <;> omega
          · obtain ⟨x, hx, h2⟩ := List.any_eq_true.1 h
            have h3 := of_decide_eq_true h2
            obtain ⟨y, hy, -, h4⟩ := merge_ge_r hw (wf_upV v.2 hVw) (upV_mem.2 ⟨x, hx, rfl⟩)
            exact .inr ⟨y, hy, by dsimp only at h4; omega⟩
        have hb := big_bigB (addV_bigs hm l _ (addV_wf hm hw hv) this hl')
        rw [es, ep, limL_big hb]
        rfl
      | false =>
        rw [ht, if_neg (by simp)] at ep
        obtain ⟨t1, t2⟩ := Bool.or_eq_false_iff.1 ht
        have t1 := of_decide_eq_false t1
        rw [List.any_eq_false] at t2
        rw [ep] at es
        rw [if_pos rfl] at es
        rw [es, if_pos rfl, e1]
        dsimp only
        rw [join_eq]
        have hwu := wf_upV v.2 hVw
        refine repGo_eq hm l ⟨_, _⟩ _ hl' (wf_merge _ _ hw hwu) (fun x hx => ?_) (by omega) ?_ ?_
        · rcases merge_src hw hwu hx with h | h
          · exact ho x h
          · obtain ⟨y, hy, rfl⟩ := upV_mem.1 h
            have h2 := t2 y hy
            have h3 := okV_valid hV hy
            simp only [decide_eq_true_eq] at h2
            exact ⟨by have := h3.2.2.1; have := hv.2.2.1; dsimp only; omega, by dsimp only; omega⟩
        · by_cases hp : 0 < (valV ms v).c ∨ (valV ms v).vs = []
          · rw [plusC_yes hp] at t1; omega
          · have : (valV ms v).c = 0 := by omega
            have := hv.2.2; omega
        · dsimp only
          have hmono : topOf 0 out.vs ≤ topOf 0 (mergeV out.vs (upV v.2 (valV ms v).vs)) := topOf_mono fun x hx => by
            obtain ⟨y, hy, -, h⟩ := merge_ge_l hw hwu hx; exact ⟨y, hy, h⟩
          rw [hc]
          by_cases hp : 0 < (valV ms v).c ∨ (valV ms v).vs = []
          · rw [plusC_yes hp]
            exact trimC_more h0 (by have := hv.2.2; omega) merge_ne_l hmono
          · have hz : (valV ms v).c = 0 := by omega
            have hne : (valV ms v).vs ≠ [] := fun e => hp (.inr e)
            rw [plusC_no (by omega) hne, trimC_more h0 (by omega) merge_ne_l hmono, hz]
            obtain ⟨x, r, hx⟩ := List.exists_cons_of_ne_nil hne
            have hxm : x ∈ (valV ms v).vs := by rw [hx]; exact List.mem_cons_self
            obtain ⟨y, hy, -, h4⟩ := merge_ge_r hw hwu (upV_mem.2 ⟨x, hxm, rfl⟩)
            have h5 := le_topOf (c := 0) hy
            have h6 := (okV_valid hV hxm).2.2.1
            have hmne : mergeV out.vs (upV v.2 (valV ms v).vs) ≠ [] := by intro e; rw [e] at hy; cases hy
            have h7 := hv.2.2.1
            dsimp only at h4
            rw [trimC_low hmne (by omega), trimC_low hmne (by omega)]
    · have e1 : addV ms (out.vs, C) v = (mergeV out.vs [v], C) := if_neg hh
      have es : repStep ms out v = (joinL out ⟨0, [v]⟩, 0) := if_neg hh
      rw [es, if_pos rfl, e1]
      dsimp only
      rw [join_eq]
      have hwu : WF [v] := wf_one ⟨hv.1, hv.2.1⟩
      refine repGo_eq hm l ⟨_, _⟩ _ hl' (wf_merge _ _ hw hwu) (fun x hx => ?_) h0 h1 ?_
      · rcases merge_src hw hwu hx with h | h
        · exact ho x h
        · simp only [List.mem_singleton] at h; subst h; exact hv.2.2
      · dsimp only
        have hmono : topOf 0 out.vs ≤ topOf 0 (mergeV out.vs [v]) := topOf_mono fun x hx => by
          obtain ⟨y, hy, -, h⟩ := merge_ge_l hw hwu hx; exact ⟨y, hy, h⟩
        rw [hc, trimC_more h0 (by omega) merge_ne_l hmono]
        have : max C 0 = C := by omega
        rw [this]

/-- what Assign gathers -/
def gathL (L : Lvl) (ms : List Lvl) : Lvl := ⟨(L.vs.foldl (addV ms) ([], L.c)).2, (L.vs.foldl (addV ms) ([], L.c)).1⟩

theorem assL_gath {L : Lvl} {ms : List Lvl} (h1 : validB L = true) (h2 : ms.all validB = true) : assL L ms = limL (gathL L ms) := by
  rw [assL_ok h1 h2]
  have := valid_c h1
  exact repGo_eq h2 L.vs ⟨L.c, []⟩ L.c (fun v hv => okV_valid h1 hv) wf_nil (fun x hx => by cases hx) this.1 this.2 (by simp [trimC])

theorem ble_t {a b : Nat} (h : a ≤ b) : Nat.ble a b = true := Nat.ble_eq_true_of_le h

theorem guard_t {α : Type} {b : Bool} {x : Option α} (h : b = true) : guardO b x = x := by rw [h]; rfl

theorem w64_neg {n : Int} (h : -65536 ≤ n ∧ n ≤ 7) : w64 (-1 - n) = -1 - n := w64_id (by omega) (by omega)

theorem rz_stepM (M : IMap) (k p : Int) : (Option.bind (cond (!(imHas M k))
    (some true)
    (some (decide ((imVal M k) < p)))) (fun (v19 : Bool) => cond v19
    (some (imSet M k p))
    (some M))) = some (rzM M (k, p)) := by
  unfold rzM
  cases imHas M k with
  | false => rfl
  | true =>
    simp only [Bool.not_true, cond_false, Option.bind_some]
    cases decide (imVal M k < p) <;> rfl

theorem foldl_snoc {α β : Type} (f : α → β) : ∀ (l : List α) (out : List β), l.foldl (fun o x => o ++ [f x]) out = out ++ l.map f
  | [], out => by simp
  | x :: l, out => by rw [List.foldl_cons, foldl_snoc f l]; simp

theorem gath_limL {L : Lvl} {ms : List Lvl} (hL : validB L = true) (hm : ms.all validB = true) : RMap (L.vs.foldl (addS ms) (imNil, L.c)).1 (gathL L ms).vs ∧ (L.vs.foldl (addS ms) (imNil, L.c)).2 = (gathL L ms).c :=
  addV_fold hm L.vs imNil [] L.c RMap.nil fun v hv => okV_valid hL hv

/-- a slice of levels of moderate length -/
def fitB (ms : List Lvl) : Prop := ms.length ≤ 100000 ∧ ∀ x ∈ ms, x.vs.length ≤ 100000

theorem all_scan {ms : List Lvl} : (firstR (fun k (x : Lvl) => if !(validB x) then some (k : Int) else none) ms 0).isSome = !(ms.all validB) := by
  rw [firstR_any (p := fun x => !(validB x)) (g := fun k => (k : Int))]
  rw [← all_any ms validB, Bool.not_not]

/-- a variable is at most a level -/
def inB (v : LV) (B : Lvl) : Prop := ∃ y ∈ B.vs, y.1 = v.1 ∧ v.2 ≤ y.2

def topL (B : Lvl) : Int := topOf B.c B.vs

def leL (A B : Lvl) : Prop := A.c ≤ topL B ∧ ∀ x ∈ A.vs, inB x B

theorem inB.top {v : LV} {B : Lvl} (h : inB v B) : v.2 ≤ topL B := by
  obtain ⟨y, hy, -, h2⟩ := h
  have := le_topOf (c := B.c) hy
  unfold topL; omega

theorem topL_le {B : Lvl} {m : Int} : topL B ≤ m ↔ B.c ≤ m ∧ ∀ x ∈ B.vs, x.2 ≤ m := topOf_le

theorem leL.top {A B : Lvl} (h : leL A B) : topL A ≤ topL B := topL_le.2 ⟨h.1, fun x hx => (h.2 x hx).top⟩

theorem leL.inB {A B : Lvl} {v : LV} (h : leL A B) (hv : inB v A) : inB v B := by
  obtain ⟨y, hy, e, h2⟩ := hv
  obtain ⟨z, hz, e2, h3⟩ := h.2 y hy
  exact ⟨z, hz, by omega, by omega⟩

theorem leL.refl (A : Lvl) : leL A A := ⟨top_ge _ _, fun x hx => ⟨x, hx, rfl, Int.le_refl _⟩⟩

theorem leL.trans {A B C : Lvl} (h : leL A B) (k : leL B C) : leL A C := ⟨Int.le_trans h.1 k.top, fun x hx => k.inB (h.2 x hx)⟩

theorem leqB_iff {A B : Lvl} : leqB A B = true ↔ validB A = true ∧ validB B = true ∧ leL A B := by
  simp only [leqB, leqVarsB, leL, inB, topL, Bool.and_eq_true, decide_eq_true_eq, List.all_eq_true, List.any_eq_true, beq_iff_eq, and_assoc]

theorem inV_merge {a b : List LV} (ha : WF a) (hb : WF b) {B : Lvl} : (∀ x ∈ mergeV a b, inB x B) ↔ (∀ x ∈ a, inB x B) ∧ ∀ x ∈ b, inB x B := by
  constructor
  · intro h
    refine ⟨fun x hx => ?_, fun x hx => ?_⟩
    · obtain ⟨y, hy, e, h2⟩ := merge_ge_l ha hb hx
      obtain ⟨z, hz, e2, h3⟩ := h y hy
      exact ⟨z, hz, by omega, by omega⟩
    · obtain ⟨y, hy, e, h2⟩ := merge_ge_r ha hb hx
      obtain ⟨z, hz, e2, h3⟩ := h y hy
      exact ⟨z, hz, by omega, by omega⟩
  · rintro ⟨h1, h2⟩ x hx
    exact (merge_src ha hb hx).elim (h1 x) (h2 x)

theorem cov_mem {c : Int} {vs : List LV} : covB c vs = true ↔ ∃ x ∈ vs, c ≤ x.2 := by simp [covB]

theorem trim_eqv {A : Lvl} (h : 0 ≤ A.c) : leL (trimL A) A ∧ leL A (trimL A) := by
  unfold trimL
  by_cases hc : covB A.c A.vs = true
  · rw [if_pos hc]
    obtain ⟨x, hx, h2⟩ := cov_mem.1 hc
    have h3 := top_ge A.c A.vs
    refine ⟨⟨by show (0 : Int) ≤ topL A; unfold topL; omega, (leL.refl A).2⟩, ?_, (leL.refl A).2⟩
    have := le_topOf (c := 0) hx
    show A.c ≤ topOf 0 A.vs
    omega
  · rw [if_neg hc]; exact ⟨leL.refl _, leL.refl _⟩

theorem big_top {A : Lvl} : bigB A = decide (100 < topL A) := by
  have : bigB A = true ↔ 100 < topL A := by
    rw [← Int.not_le, topL_le]
    simp only [bigB, Bool.or_eq_true, List.any_eq_true, decide_eq_true_eq]
    constructor
    · rintro (⟨x, hx, h⟩ | h) ⟨h1, h2⟩
      · have := h2 x hx; omega
      · omega
    · intro h
      by_cases hc : 100 < A.c
      · exact .inr hc
      · left
        refine Classical.byContradiction fun hn => h ⟨by omega, fun x hx => ?_⟩
        exact Int.not_lt.1 fun h2 => hn ⟨x, hx, h2⟩
  rw [Bool.eq_iff_iff, this, decide_eq_true_eq]

theorem lim_ok {A : Lvl} (h : (limL A).2 = 0) : limL A = (trimL A, 0) ∧ topL A ≤ 100 := by
  unfold limL at h ⊢
  cases hb : bigB A with
  | true => rw [if_pos hb] at h; cases h
  | false =>
    rw [if_neg Bool.false_ne_true]
    rw [big_top, decide_eq_false_iff_not] at hb
    exact ⟨rfl, by omega⟩

theorem lim_err {A : Lvl} : (limL A).2 = 0 ↔ topL A ≤ 100 := by
  refine ⟨fun h => (lim_ok h).2, fun h => ?_⟩
  unfold limL
  rw [if_neg (by rw [big_top, decide_eq_true_eq]; omega)]

/-- a good level before it is trimmed -/
structure GoodL (A : Lvl) : Prop where
  wf : WF A.vs
  c : 0 ≤ A.c
  v : ∀ x ∈ A.vs, 0 ≤ x.2

theorem good_valid {A : Lvl} (h : validB A = true) : GoodL A := ⟨wf_valid h, (valid_c h).1, fun x hx => (okV_valid h hx).2.2.1⟩

theorem trim_vs (A : Lvl) : (trimL A).vs = A.vs := by unfold trimL; split <;> rfl

theorem valid_trim {A : Lvl} (h : GoodL A) (ht : topL A ≤ 100) : validB (trimL A) = true := by
  obtain ⟨h1, h2⟩ := topL_le.1 ht
  have h0 := h.c
  have ha : A.vs.all okVar = true := List.all_eq_true.2 fun x hx => by
    have := h.v x hx; have := h2 x hx; have := h.wf.2 x hx
    simp [okVar]; omega
  have hs : ascB A.vs = true := asc_pair.2 h.wf.1
  unfold trimL
  by_cases hc : covB A.c A.vs = true
  · rw [if_pos hc]; simp [validB, ha, hs]
  · rw [if_neg hc]; simp [validB, ha, hs, hc, h0, h1]

theorem join_trim {A B : Lvl} (ha : GoodL A) (hb : GoodL B) : joinL A B = trimL ⟨max A.c B.c, mergeV A.vs B.vs⟩ := by
  have h1 := ha.c
  rw [join_eq, trim_eq (by omega) fun x hx => (merge_src ha.wf hb.wf hx).elim (ha.v x) (hb.v x)]

theorem good_merge {A B : Lvl} (ha : GoodL A) (hb : GoodL B) : GoodL ⟨max A.c B.c, mergeV A.vs B.vs⟩ := ⟨wf_merge _ _ ha.wf hb.wf, by have := ha.c; show 0 ≤ max A.c B.c; omega, fun x hx => (merge_src ha.wf hb.wf hx).elim (ha.v x) (hb.v x)⟩

theorem merge_le {A B C : Lvl} (ha : GoodL A) (hb : GoodL B) : leL ⟨max A.c B.c, mergeV A.vs B.vs⟩ C ↔ leL A C ∧ leL B C := by
  unfold leL
  rw [inV_merge ha.wf hb.wf]
  dsimp only
  have : max A.c B.c ≤ topL C ↔ A.c ≤ topL C ∧ B.c ≤ topL C := by omega
  rw [this]
  constructor
  · rintro ⟨⟨h1, h2⟩, h3, h4⟩; exact ⟨⟨h1, h3⟩, h2, h4⟩
  · rintro ⟨⟨h1, h3⟩, h2, h4⟩; exact ⟨⟨h1, h2⟩, h3, h4⟩

theorem join_le {A B C : Lvl} (ha : GoodL A) (hb : GoodL B) : leL (joinL A B) C ↔ leL A C ∧ leL B C := by
  rw [← merge_le ha hb, join_trim ha hb]
  have h := trim_eqv (good_merge ha hb).c
  exact ⟨fun k => h.2.trans k, fun k => h.1.trans k⟩

theorem join_valid {A B : Lvl} (ha : validB A = true) (hb : validB B = true) : validB (joinL A B) = true := by
  rw [join_trim (good_valid ha) (good_valid hb)]
  refine valid_trim (good_merge (good_valid ha) (good_valid hb)) (topL_le.2 ⟨?_, fun x hx => ?_⟩)
  · have := valid_c ha; have := valid_c hb; show max A.c B.c ≤ 100; omega
  · rcases merge_src (wf_valid ha) (wf_valid hb) hx with h | h
    · exact (okV_valid ha h).2.2.2
    · exact (okV_valid hb h).2.2.2

/-! ### What is gathered -/
def leW (ms : List Lvl) (v : LV) (B : Lvl) : Prop := if hasV ms v then ((valV ms v).c + v.2 ≤ topL B ∧ ∀ x ∈ (valV ms v).vs, inB (x.1, x.2 + v.2) B) else inB v B

theorem addV_le {ms : List Lvl} (hm : ms.all validB = true) {s : List LV × Int} (h : WF s.1) {v : LV} (hv : okV v) {B : Lvl} :
    ((addV ms s v).2 ≤ topL B ∧ ∀ x ∈ (addV ms s v).1, inB x B) ↔ (s.2 ≤ topL B ∧ ∀ x ∈ s.1, inB x B) ∧ leW ms v B := by
  unfold addV leW
  by_cases hh : hasV ms v
  · rw [if_pos hh, if_pos hh]
    dsimp only
    rw [inV_merge h (wf_upV v.2 (wf_valid (valV_valid hm hh)))]
    have e : max s.2 ((valV ms v).c + v.2) ≤ topL B ↔ s.2 ≤ topL B ∧ (valV ms v).c + v.2 ≤ topL B := by omega
    have e2 : (∀ x ∈ upV v.2 (valV ms v).vs, inB x B) ↔ ∀ x ∈ (valV ms v).vs, inB (x.1, x.2 + v.2) B := ⟨fun h x hx => h _ (upV_mem.2 ⟨x, hx, rfl⟩), fun h y hy => by obtain ⟨x, hx, rfl⟩ := upV_mem.1 hy; exact h x hx⟩
    rw [e, e2]
    constructor
    · rintro ⟨⟨h1, h2⟩, h3, h4⟩; exact ⟨⟨h1, h3⟩, h2, h4⟩
    · rintro ⟨⟨h1, h3⟩, h2, h4⟩; exact ⟨⟨h1, h2⟩, h3, h4⟩
  · rw [if_neg hh, if_neg hh]
    dsimp only
    rw [inV_merge h (wf_one ⟨hv.1, hv.2.1⟩)]
    simp [and_assoc]

theorem addV_les {ms : List Lvl} (hm : ms.all validB = true) {B : Lvl} : ∀ (l : List LV) (s : List LV × Int), WF s.1 → (∀ v ∈ l, okV v) →
    (((l.foldl (addV ms) s).2 ≤ topL B ∧ ∀ x ∈ (l.foldl (addV ms) s).1, inB x B) ↔ (s.2 ≤ topL B ∧ ∀ x ∈ s.1, inB x B) ∧ ∀ v ∈ l, leW ms v B)
  | [], s, _, _ => by simp
  | v :: l, s, hs, hl => by
    have hv := hl v List.mem_cons_self
    rw [List.foldl_cons, addV_les hm l _ (addV_wf hm hs hv) fun x hx => hl x (List.mem_cons_of_mem _ hx), addV_le hm hs hv]
    simp [and_assoc]

theorem gath_le {L : Lvl} {ms : List Lvl} (h1 : validB L = true) (h2 : ms.all validB = true) {B : Lvl} : leL (gathL L ms) B ↔ L.c ≤ topL B ∧ ∀ v ∈ L.vs, leW ms v B := by
  have := addV_les h2 (B := B) L.vs ([], L.c) wf_nil fun v hv => okV_valid h1 hv
  unfold leL gathL
  dsimp only
  rw [this]
  simp

theorem addV_src {ms : List Lvl} (hm : ms.all validB = true) : ∀ (l : List LV) (s : List LV × Int), WF s.1 → (∀ v ∈ l, okV v) → s.2 ≤ (l.foldl (addV ms) s).2 ∧
    ∀ y ∈ (l.foldl (addV ms) s).1, y ∈ s.1 ∨ ∃ v ∈ l, (hasV ms v ∧ ∃ x ∈ (valV ms v).vs, y = (x.1, x.2 + v.2)) ∨ (¬ hasV ms v ∧ y = v)
  | [], s, _, _ => ⟨Int.le_refl _, fun y hy => .inl hy⟩
  | v :: l, s, hs, hl => by
    have hv := hl v List.mem_cons_self
    obtain ⟨h1, h2⟩ := addV_src hm l _ (addV_wf hm hs hv) fun x hx => hl x (List.mem_cons_of_mem _ hx)
    rw [List.foldl_cons]
    refine ⟨Int.le_trans ?_ h1, fun y hy => ?_⟩
    · unfold addV; split
      · show s.2 ≤ max s.2 _; omega
      · exact Int.le_refl _
    · rcases h2 y hy with h | ⟨w, hw, h⟩
      · by_cases hh : hasV ms v
        · have e : (addV ms s v).1 = mergeV s.1 (upV v.2 (valV ms v).vs) := by unfold addV; rw [if_pos hh]
          rw [e] at h
          rcases merge_src hs (wf_upV v.2 (wf_valid (valV_valid hm hh))) h with h | h
          · exact .inl h
          · exact .inr ⟨v, List.mem_cons_self, .inl ⟨hh, upV_mem.1 h⟩⟩
        · have e : (addV ms s v).1 = mergeV s.1 [v] := by unfold addV; rw [if_neg hh]
          rw [e] at h
          rcases merge_src hs (wf_one ⟨hv.1, hv.2.1⟩) h with h | h
          · exact .inl h
          · exact .inr ⟨v, List.mem_cons_self, .inr ⟨hh, by simpa using h⟩⟩
      · exact .inr ⟨w, List.mem_cons_of_mem _ hw, h⟩

theorem gath_src {L : Lvl} {ms : List Lvl} (h1 : validB L = true) (h2 : ms.all validB = true) {y : LV} (hy : y ∈ (gathL L ms).vs) : ∃ v ∈ L.vs, (hasV ms v ∧ ∃ x ∈ (valV ms v).vs, y = (x.1, x.2 + v.2)) ∨ (¬ hasV ms v ∧ y = v) :=
  ((addV_src h2 L.vs ([], L.c) wf_nil fun v hv => okV_valid h1 hv).2 y hy).resolve_left fun h => by cases h

theorem gath_good {L : Lvl} {ms : List Lvl} (h1 : validB L = true) (h2 : ms.all validB = true) : GoodL (gathL L ms) := by
  refine ⟨(gath_limL h1 h2).1.wf, ?_, fun y hy => ?_⟩
  · have := (addV_src h2 L.vs ([], L.c) wf_nil fun v hv => okV_valid h1 hv).1
    have h3 := (valid_c h1).1
    show 0 ≤ (L.vs.foldl (addV ms) ([], L.c)).2
    dsimp only at this
    omega
  · obtain ⟨v, hv, ⟨hh, x, hx, rfl⟩ | ⟨-, rfl⟩⟩ := gath_src h1 h2 hy
    · have := (okV_valid (valV_valid h2 hh) hx).2.2.1
      have := (okV_valid h1 hv).2.2.1
      show 0 ≤ x.2 + v.2
      omega
    · exact (okV_valid h1 hv).2.2.1

/-- what Assign says, where it does not fail -/
theorem ass_ok {L : Lvl} {ms : List Lvl} (h1 : validB L = true) (h2 : ms.all validB = true) (he : (assL L ms).2 = 0) :
    (assL L ms).1 = trimL (gathL L ms) ∧ topL (gathL L ms) ≤ 100 ∧ validB (assL L ms).1 = true ∧ leL (assL L ms).1 (gathL L ms) ∧ leL (gathL L ms) (assL L ms).1 := by
  have g := gath_good h1 h2
  rw [assL_gath h1 h2] at he ⊢
  obtain ⟨e, ht⟩ := lim_ok he
  rw [e]
  exact ⟨rfl, ht, valid_trim g ht, trim_eqv g.c⟩

theorem ass_err {L : Lvl} {ms : List Lvl} (h1 : validB L = true) (h2 : ms.all validB = true) : (assL L ms).2 = 0 ↔ topL (gathL L ms) ≤ 100 := by
  rw [assL_gath h1 h2, lim_err]

/-- values that are at most others -/
def leM (ms ns : List Lvl) : Prop := ms.length = ns.length ∧ ∀ (i : Nat) (x y : Lvl), ms[i]? = some x → ns[i]? = some y → leL x y

theorem leM.refl (ms : List Lvl) : leM ms ms := ⟨rfl, fun i x y h1 h2 => by rw [h1] at h2; cases h2; exact leL.refl _⟩

theorem leM.trans {a b c : List Lvl} (h : leM a b) (k : leM b c) : leM a c := by
  refine ⟨h.1.trans k.1, fun i x y h1 h2 => ?_⟩
  have hi := (List.getElem?_eq_some_iff.1 h1).1
  obtain ⟨z, h3⟩ : ∃ z, b[i]? = some z := ⟨_, List.getElem?_eq_getElem (by rw [← h.1]; exact hi)⟩
  exact (h.2 i x z h1 h3).trans (k.2 i z y h3 h2)

theorem leW.self {L : Lvl} {ms : List Lvl} (h1 : validB L = true) (h2 : ms.all validB = true) {v : LV} (hv : v ∈ L.vs) : leW ms v (gathL L ms) := ((gath_le h1 h2).1 (leL.refl _)).2 v hv

theorem leW.top {ms : List Lvl} {v : LV} {B : Lvl} (h : leW ms v B) (hh : hasV ms v) : topL (valV ms v) + v.2 ≤ topL B := by
  unfold leW at h
  rw [if_pos hh] at h
  have : topL (valV ms v) ≤ topL B - v.2 := topL_le.2 ⟨by omega, fun x hx => by have := (h.2 x hx).top; dsimp only at this; omega⟩
  omega

theorem gath_mono {L : Lvl} {ms ns : List Lvl} (h1 : validB L = true) (h2 : ms.all validB = true) (h3 : ns.all validB = true) (h : leM ms ns) : leL (gathL L ms) (gathL L ns) := by
  refine (gath_le h1 h2).2 ⟨((gath_le h1 h3).1 (leL.refl _)).1, fun v hv => ?_⟩
  have k := leW.self h1 h3 hv
  have e : hasV ms v ↔ hasV ns v := by unfold hasV; rw [h.1]
  by_cases hh : hasV ms v
  · have hl : leL (valV ms v) (valV ns v) := h.2 _ _ _ (valV_at hh) (valV_at (e.1 hh))
    have kt := k.top (e.1 hh)
    unfold leW at k ⊢
    rw [if_pos (e.1 hh)] at k
    rw [if_pos hh]
    refine ⟨by have := hl.1; omega, fun x hx => ?_⟩
    obtain ⟨y, hy, e1, e2⟩ := hl.2 x hx
    obtain ⟨z, hz, e3, e4⟩ := k.2 y hy
    exact ⟨z, hz, by dsimp only at e3 ⊢; omega, by dsimp only at e4 ⊢; omega⟩
  · unfold leW at k ⊢
    rw [if_neg (fun hn => hh (e.2 hn))] at k
    rw [if_neg hh]; exact k

theorem firstR_const {α β : Type} {p : α → Bool} {b : β} : ∀ (l : List α) (k : Nat), firstR (fun _ x => if !(p x) then some b else none) l k = if l.all p then none else some b
  | [], _ => rfl
  | x :: l, k => by
    unfold firstR
    cases hx : p x with
    | true => simp only [Bool.not_true, Bool.false_eq_true, if_false]; rw [firstR_const l (k + 1)]; simp [hx]
    | false => simp [hx]

end Go.Proofs.YtcapifnaceegmaaGreatDoor
