/- Levels in plain words: nothing of the program in sight. -/
import Derived.WalkKit
namespace Go.Proofs.YtcapifnaceegmaaGreatDoor
set_option linter.unusedSimpArgs false
set_option linter.unusedVariables false
set_option linter.unusedSectionVars false

/-- A level's variable: its index, its offset. -/
abbrev LV := Int × Int
/-- A level: its constant, its variables. -/
structure Lvl where
  c : Int
  vs : List LV
/-- A bound. -/
structure Bnd where
  lo : Lvl
  hi : Lvl

/-- the first place at which p says yes, or -1 -/
def idxOf {α : Type} (p : α → Bool) : List α → Int
  | [] => -1
  | x :: r => if p x then 0 else if idxOf p r < 0 then -1 else idxOf p r + 1
theorem idxOf_neg {α : Type} (p : α → Bool) (l : List α) : idxOf p l < 0 ↔ l.any p = false := by
  induction l with
  | nil => simp [idxOf]
  | cons x r ih =>
    simp only [idxOf, List.any_cons]
    by_cases h : p x = true
    · simp [h]
    · by_cases h2 : idxOf p r < 0
      · simp [h, h2, ih.1 h2]
      · have : ¬ r.any p = false := fun e => h2 (ih.2 e)
        simp [h, h2]
        constructor
        · intro; omega
        · intro h3; exact absurd (by simpa using h3) this
theorem idxOf_pos {α : Type} (p : α → Bool) (l : List α) : decide (0 ≤ idxOf p l) = l.any p := by
  have := idxOf_neg p l
  by_cases h : 0 ≤ idxOf p l
  · have h2 : ¬ l.any p = false := fun e => by have := this.2 e; omega
    simp [h]; simpa using h2
  · simp [h, this.1 (by omega)]
theorem idxOf_at {α : Type} (p : α → Bool) (l : List α) (k : Nat) (x : α) (h : l[k]? = some x) (hp : p x = true) (hb : ∀ (i : Nat) (y : α), i < k → l[i]? = some y → p y = false) : idxOf p l = k := by
  induction l generalizing k with
  | nil => simp at h
  | cons z r ih =>
    cases k with
    | zero => simp at h; subst h; simp [idxOf, hp]
    | succ k =>
      have hz := hb 0 z (by omega) rfl
      have := ih k (by simpa using h) (fun i y hi hy => hb (i + 1) y (by omega) (by simpa using hy))
      simp only [idxOf, hz, this]
      have h3 : ¬ ((k : Int) < 0) := by omega
      simp [h3]
theorem idxOf_none {α : Type} (p : α → Bool) (l : List α) (hb : ∀ (i : Nat) (y : α), l[i]? = some y → p y = false) : idxOf p l = -1 := by
  induction l with
  | nil => rfl
  | cons z r ih =>
    have hz := hb 0 z rfl
    have := ih (fun i y hy => hb (i + 1) y (by simpa using hy))
    simp [idxOf, hz, this]
/-- a variable in range -/
def okVar (x : LV) : Bool := decide (-65536 ≤ x.1) && decide (x.1 ≤ 7) && decide (0 ≤ x.2) && decide (x.2 ≤ 100)
/-- indices ascend -/
def ascB : List LV → Bool
  | x :: y :: r => decide (x.1 < y.1) && ascB (y :: r)
  | _ => true
/-- an offset is at least the constant -/
def covB (c : Int) (vs : List LV) : Bool := vs.any fun x => decide (c ≤ x.2)
/-- the level is valid -/
def validB (L : Lvl) : Bool := decide (0 ≤ L.c) && decide (L.c ≤ 100) && !(decide (0 < L.c) && covB L.c L.vs) && L.vs.all okVar && ascB L.vs

/-- element k and the one before it are as they should -/
def okAt (vs : List LV) (k : Nat) : Prop := ∀ x, vs[k]? = some x → okVar x = true ∧ (∀ y, 0 < k → vs[k - 1]? = some y → y.1 < x.1)

theorem asc_iff (vs : List LV) : ascB vs = true ↔ ∀ (k : Nat) (x y : LV), vs[k]? = some x → vs[k + 1]? = some y → x.1 < y.1 := by
  induction vs with
  | nil => simp [ascB]
  | cons a r ih =>
    cases r with
    | nil => simp [ascB]
    | cons b r =>
      simp only [ascB, Bool.and_eq_true, decide_eq_true_eq, ih]
      constructor
      · rintro ⟨h1, h2⟩ k x y hx hy
        cases k with
        | zero => simp at hx hy; subst hx hy; exact h1
        | succ k => exact h2 k x y (by simpa using hx) (by simpa using hy)
      · intro h
        exact ⟨h 0 a b rfl rfl, fun k x y hx hy => h (k + 1) x y (by simpa using hx) (by simpa using hy)⟩

theorem valid_parts (L : Lvl) : validB L = true ↔ (0 ≤ L.c ∧ L.c ≤ 100 ∧ (0 < L.c → covB L.c L.vs = false) ∧ ∀ k, k < L.vs.length → okAt L.vs k) := by
  simp only [validB, Bool.and_eq_true, decide_eq_true_eq, Bool.not_eq_true', Bool.and_eq_false_iff, decide_eq_false_iff_not, asc_iff, List.all_eq_true]
  constructor
  · rintro ⟨⟨⟨⟨h1, h2⟩, h3⟩, h4⟩, h5⟩
    refine ⟨h1, h2, fun h => h3.resolve_left (by simpa using h), fun k hk x hx => ⟨h4 x (List.mem_of_getElem? hx), fun y h0 hy => ?_⟩⟩
    exact h5 (k - 1) y x hy (by rw [Nat.sub_add_cancel h0]; exact hx)
  · rintro ⟨h1, h2, h3, h4⟩
    refine ⟨⟨⟨⟨h1, h2⟩, ?_⟩, fun x hx => ?_⟩, fun k x y hx hy => ?_⟩
    · by_cases h : 0 < L.c
      · exact .inr (h3 h)
      · exact .inl h
    · obtain ⟨k, hk⟩ := List.getElem?_of_mem hx
      exact (h4 k (List.getElem?_eq_some_iff.1 hk).1 x hk).1
    · exact (h4 (k + 1) (List.getElem?_eq_some_iff.1 hy).1 y hy).2 x (by omega) hx

theorem valid_true {L : Lvl} (h1 : 0 ≤ L.c) (h2 : L.c ≤ 100) (h3 : 0 < L.c → covB L.c L.vs = false) (h4 : ∀ k, k < L.vs.length → okAt L.vs k) : validB L = true := (valid_parts L).2 ⟨h1, h2, h3, h4⟩
theorem valid_false {L : Lvl} {k : Nat} (hk : k < L.vs.length) (h : ¬ okAt L.vs k) : validB L = false := by
  cases hv : validB L
  · rfl
  · exact absurd (((valid_parts L).1 hv).2.2.2 k hk) h
theorem valid_false_c {L : Lvl} (h : L.c < 0 ∨ 100 < L.c ∨ (0 < L.c ∧ covB L.c L.vs = true)) : validB L = false := by
  cases hv : validB L
  · rfl
  · obtain ⟨h1, h2, h3, _⟩ := (valid_parts L).1 hv
    rcases h with h | h | ⟨h, h'⟩
    · omega
    · omega
    · rw [h3 h] at h'; cases h'
theorem not_okAt {vs : List LV} {k : Nat} {x1 x2 : Int} (hx : vs[k]? = some (x1, x2)) (h : x1 < -65536 ∨ 7 < x1 ∨ x2 < 0 ∨ 100 < x2) : ¬ okAt vs k := by
  intro ho
  have := (ho _ hx).1
  simp only [okVar, Bool.and_eq_true, decide_eq_true_eq] at this
  omega
theorem not_okAt' {vs : List LV} {k : Nat} {x y : LV} (hx : vs[k]? = some x) (hy : vs[k - 1]? = some y) (hk : 0 < k) (h : x.1 ≤ y.1) : ¬ okAt vs k := by
  intro ho
  have := (ho _ hx).2 y hk hy
  omega
theorem is_okAt {vs : List LV} {k : Nat} {x1 x2 : Int} (hx : vs[k]? = some (x1, x2)) (h1 : -65536 ≤ x1) (h2 : x1 ≤ 7) (h3 : 0 ≤ x2) (h4 : x2 ≤ 100) (h : ∀ y1 y2, 0 < k → vs[k - 1]? = some (y1, y2) → y1 < x1) : okAt vs k := by
  intro x' hx'
  rw [hx] at hx'
  cases hx'
  refine ⟨by simp [okVar, *], fun y hk hy => h y.1 y.2 hk hy⟩
/-- a number is too great -/
def bigB (L : Lvl) : Bool := L.vs.any (fun x => decide (100 < x.2)) || decide (100 < L.c)
/-- the superfluous constant removed -/
def trimL (L : Lvl) : Lvl := if covB L.c L.vs then ⟨0, L.vs⟩ else L
theorem big_at {L : Lvl} {k : Nat} {x1 x2 : Int} (hx : L.vs[k]? = some (x1, x2)) (h : 100 < x2) : bigB L = true := by
  simp only [bigB, Bool.or_eq_true, List.any_eq_true, decide_eq_true_eq]
  exact .inl ⟨_, List.mem_of_getElem? hx, h⟩
theorem big_c {L : Lvl} (h : 100 < L.c) : bigB L = true := by simp [bigB, h]
theorem big_no {L : Lvl} (h : ∀ (j : Nat) (x : LV), j < L.vs.length → L.vs[j]? = some x → x.2 ≤ 100) (hc : L.c ≤ 100) : bigB L = false := by
  simp only [bigB, Bool.or_eq_false_iff, List.any_eq_false, decide_eq_true_eq, decide_eq_false_iff_not]
  refine ⟨fun x hx => ?_, by omega⟩
  obtain ⟨j, hj⟩ := List.getElem?_of_mem hx
  have := h j x (List.getElem?_eq_some_iff.1 hj).1 hj
  omega
/-- the greatest of a number and the offsets -/
def topOf (c : Int) (vs : List LV) : Int := vs.foldl (fun m x => max m x.2) c
theorem topOf_snoc (c : Int) (vs : List LV) (x : LV) : topOf c (vs ++ [x]) = max (topOf c vs) x.2 := by simp [topOf, List.foldl_append]
/-- a is at most b, variable by variable -/
def leqVarsB (al bl : List LV) : Bool := al.all fun x => bl.any fun y => (y.1 == x.1) && decide (x.2 ≤ y.2)
def leqB (A B : Lvl) : Bool := validB A && validB B && decide (A.c ≤ topOf B.c B.vs) && leqVarsB A.vs B.vs
theorem leq_false_at {A B : Lvl} {k : Nat} {x : LV} (hx : A.vs[k]? = some x) (h : (B.vs.any fun y => (y.1 == x.1) && decide (x.2 ≤ y.2)) = false) : leqB A B = false := by
  have : leqVarsB A.vs B.vs = false := by
    simp only [leqVarsB, List.all_eq_false]
    exact ⟨x, List.mem_of_getElem? hx, by rw [h]; simp⟩
  simp [leqB, this]
theorem leq_true_of {A B : Lvl} (h1 : validB A = true) (h2 : validB B = true) (h3 : A.c ≤ topOf B.c B.vs) (h4 : ∀ (j : Nat) (x : LV), j < A.vs.length → A.vs[j]? = some x → (B.vs.any fun y => (y.1 == x.1) && decide (x.2 ≤ y.2)) = true) : leqB A B = true := by
  have : leqVarsB A.vs B.vs = true := by
    simp only [leqVarsB, List.all_eq_true]
    intro x hx
    obtain ⟨j, hj⟩ := List.getElem?_of_mem hx
    exact h4 j x (List.getElem?_eq_some_iff.1 hj).1 hj
  simp [leqB, h1, h2, h3, this]
theorem take_snoc' {vs : List LV} {k : Nat} {x : LV} (hx : vs[k]? = some x) : vs.take (k + 1) = vs.take k ++ [x] := by
  rw [List.take_add_one, hx]; rfl
theorem cov_of {c : Int} {vs : List LV} (h : ∀ (j : Nat) (x : LV), j < vs.length → vs[j]? = some x → 0 < c → x.2 < c) : 0 < c → covB c vs = false := by
  intro hc
  simp only [covB, List.any_eq_false, decide_eq_true_eq]
  intro x hx
  obtain ⟨j, hj⟩ := List.getElem?_of_mem hx
  have := h j x (List.getElem?_eq_some_iff.1 hj).1 hj hc
  omega
theorem cov_at {c : Int} {vs : List LV} {k : Nat} {x1 x2 : Int} (hx : vs[k]? = some (x1, x2)) (h : c ≤ x2) : covB c vs = true := by
  simp only [covB, List.any_eq_true, decide_eq_true_eq]
  exact ⟨_, List.mem_of_getElem? hx, h⟩
/-- what limited answers -/
def limL (L : Lvl) : Lvl × Int := if bigB L then (⟨0, []⟩, 15) else (trimL L, 0)
theorem limL_big {L : Lvl} (h : bigB L = true) : limL L = (⟨0, []⟩, 15) := by simp [limL, h]
theorem limL_cov {L : Lvl} (h : bigB L = false) (hc : covB L.c L.vs = true) : limL L = (⟨0, L.vs⟩, 0) := by simp [limL, h, trimL, hc]
theorem limL_no {L : Lvl} (h : bigB L = false) (hc : covB L.c L.vs = false) : limL L = (L, 0) := by simp [limL, h, trimL, hc]
theorem leq_inv {A B : Lvl} (h : (validB A && validB B) = false) : leqB A B = false := by simp [leqB, h]
theorem leq_c {A B : Lvl} (h : topOf B.c B.vs < A.c) : leqB A B = false := by
  have : decide (A.c ≤ topOf B.c B.vs) = false := by simp; omega
  simp [leqB, this]
theorem any_snoc {f : LV → Bool} {l : List LV} {k : Nat} {x : LV} (h : l[k]? = some x) : (l.take (k + 1)).any f = ((l.take k).any f || f x) := by
  rw [take_snoc' h]; simp
theorem all_any (l : List Lvl) (p : Lvl → Bool) : (!(l.any fun L => !p L)) = l.all p := by
  induction l with
  | nil => rfl
  | cons a r ih => simp only [List.any_cons, List.all_cons, ← ih]; cases p a <;> simp
theorem all_true_of {α : Type} {l : List α} {p : α → Bool} (h : ∀ (j : Nat) (x : α), l[j]? = some x → p x = true) : l.all p = true := by
  rw [List.all_eq_true]; intro x hx; obtain ⟨k, hk⟩ := List.getElem?_of_mem hx; exact h k x hk
theorem all_false_at {α : Type} {l : List α} {p : α → Bool} {k : Nat} {x : α} (h : l[k]? = some x) (hp : p x = false) : l.all p = false := by
  cases ha : l.all p with
  | false => rfl
  | true => rw [List.all_eq_true] at ha; rw [ha x (List.mem_of_getElem? h)] at hp; cases hp
/-- few bounds of few variables -/
def fewP (b : Bnd) : Bool := decide (b.lo.vs.length ≤ 6) && decide (b.hi.vs.length ≤ 6)
def fewB (l : List Bnd) : Bool := decide (l.length ≤ 12) && l.all fewP
theorem few_at {l : List Bnd} {k : Nat} {x : Bnd} (h : l[k]? = some x) (hp : fewP x = false) : fewB l = false := by simp only [fewB, all_false_at h hp, Bool.and_false]
theorem few_of {l : List Bnd} {k : Nat} (hn : ∀ (j : Nat) (x : Bnd), j < k → l[j]? = some x → fewP x = true) (hk : l.length ≤ 12 → l.length ≤ k) : fewB l = decide ((l.length : Int) ≤ 12) := by
  have e : decide ((l.length : Int) ≤ 12) = decide (l.length ≤ 12) := by simp only [decide_eq_decide]; omega
  rw [e]
  by_cases h : l.length ≤ 12
  · rw [fewB, all_true_of (fun j x hx => hn j x (by have := (List.getElem?_eq_some_iff.1 hx).1; have := hk h; omega) hx), Bool.and_true]
  · simp [fewB, h]
def shortP (L : Lvl) : Bool := decide (L.vs.length ≤ 6)
def shortB (l : List Lvl) : Bool := decide (l.length ≤ 10) && l.all shortP
theorem short_at {l : List Lvl} {k : Nat} {x : Lvl} (h : l[k]? = some x) (hp : shortP x = false) : shortB l = false := by simp only [shortB, all_false_at h hp, Bool.and_false]
theorem short_of {l : List Lvl} {k : Nat} (hn : ∀ (j : Nat) (x : Lvl), j < k → l[j]? = some x → shortP x = true) (hk : l.length ≤ 10 → l.length ≤ k) : shortB l = decide ((l.length : Int) ≤ 10) := by
  have e : decide ((l.length : Int) ≤ 10) = decide (l.length ≤ 10) := by simp only [decide_eq_decide]; omega
  rw [e]
  by_cases h : l.length ≤ 10
  · rw [shortB, all_true_of (fun j x hx => hn j x (by have := (List.getElem?_eq_some_iff.1 hx).1; have := hk h; omega) hx), Bool.and_true]
  · simp [shortB, h]
/-- the metavariable with the least number, and its offset: the last one -/
def pivR : List LV → Int × Int
  | [] => (-1, 0)
  | x :: r => if x.1 < 0 then (-1 - x.1, x.2) else pivR r
def pivL (vs : List LV) : Int × Int := pivR vs.reverse
theorem piv_snoc {vs : List LV} {k : Nat} {x : LV} (h : vs[k]? = some x) : pivL (vs.take (k + 1)) = if x.1 < 0 then (-1 - x.1, x.2) else pivL (vs.take k) := by
  rw [take_snoc' h]; simp [pivL, pivR]
def lowL (L : Lvl) (k : Int) : Lvl := match L.vs with
  | [] => ⟨max 0 (L.c - k), []⟩
  | x :: _ => ⟨0, [(x.1, max 0 (x.2 - k))]⟩
theorem lowL_nil {L : Lvl} {k : Int} (h : L.vs = []) : lowL L k = ⟨max 0 (L.c - k), []⟩ := by simp [lowL, h]
theorem lowL_cons {L : Lvl} {k : Int} {x : LV} (h : L.vs[0]? = some x) : lowL L k = ⟨0, [(x.1, max 0 (x.2 - k))]⟩ := by
  unfold lowL; cases hv : L.vs with
  | nil => rw [hv] at h; cases h
  | cons y r => rw [hv] at h; cases h; rfl
def pointL (L : Lvl) : Int × Int := match L.vs with
  | [] => (0, L.c)
  | x :: _ => (x.1 + 1, x.2)
theorem pointL_nil {L : Lvl} (h : L.vs = []) : pointL L = (0, L.c) := by simp [pointL, h]
theorem pointL_cons {L : Lvl} {x : LV} (h : L.vs[0]? = some x) : pointL L = (x.1 + 1, x.2) := by
  unfold pointL; cases hv : L.vs with
  | nil => rw [hv] at h; cases h
  | cons y r => rw [hv] at h; cases h; rfl

/-- variables with greater offsets -/
def upV (n : Int) (l : List LV) : List LV := l.map fun x => (x.1, x.2 + n)
theorem upV_snoc (n : Int) {l : List LV} {k : Nat} {x : LV} (h : l[k]? = some x) : upV n (l.take (k + 1)) = upV n (l.take k) ++ [(x.1, x.2 + n)] := by rw [take_snoc' h]; simp [upV]
/-- the constant of a level plus a number -/
def plusC (L : Lvl) (n : Int) : Int := if 0 < L.c ∨ L.vs = [] then L.c + n else 0
def tooBig (L : Lvl) (n : Int) : Bool := decide (100 < plusC L n) || L.vs.any fun x => decide (100 < x.2 + n)
/-- Plus -/
def plusL (L : Lvl) (n : Int) : Lvl × Int := if validB L = false then (⟨0, []⟩, 3) else if n < 0 then (⟨0, []⟩, 2) else if 100 < n then (⟨0, []⟩, 15) else if tooBig L n then (⟨0, []⟩, 15) else (⟨plusC L n, upV n L.vs⟩, 0)
theorem plusL_inv {L : Lvl} {n : Int} (h : validB L = false) : plusL L n = (⟨0, []⟩, 3) := by simp [plusL, h]
theorem plusL_neg {L : Lvl} {n : Int} (h : validB L = true) (h2 : n < 0) : plusL L n = (⟨0, []⟩, 2) := by simp [plusL, h, h2]
theorem plusL_big {L : Lvl} {n : Int} (h : validB L = true) (h1 : 0 ≤ n) (h2 : 100 < n) : plusL L n = (⟨0, []⟩, 15) := by
  have : ¬ n < 0 := by omega
  simp [plusL, h, this, h2]
theorem plusL_c {L : Lvl} {n : Int} (h : validB L = true) (h1 : 0 ≤ n) (h2 : n ≤ 100) (h3 : 100 < plusC L n) : plusL L n = (⟨0, []⟩, 15) := by
  have a1 : ¬ n < 0 := by omega
  have a2 : ¬ 100 < n := by omega
  simp [plusL, h, a1, a2, tooBig, h3]
theorem plusL_at {L : Lvl} {n : Int} {k : Nat} {x : LV} (h : validB L = true) (h1 : 0 ≤ n) (h2 : n ≤ 100) (hx : L.vs[k]? = some x) (h3 : 100 < x.2 + n) : plusL L n = (⟨0, []⟩, 15) := by
  have a1 : ¬ n < 0 := by omega
  have a2 : ¬ 100 < n := by omega
  have a3 : (L.vs.any fun x => decide (100 < x.2 + n)) = true := List.any_eq_true.2 ⟨x, List.mem_of_getElem? hx, by simpa using h3⟩
  simp only [plusL, h, a1, a2, tooBig, a3, Bool.or_true, if_true, if_false, Bool.true_eq_false]
theorem plusL_ok {L : Lvl} {n : Int} (h : validB L = true) (h1 : 0 ≤ n) (h2 : n ≤ 100) (h3 : plusC L n ≤ 100) (h4 : ∀ (j : Nat) (x : LV), L.vs[j]? = some x → x.2 + n ≤ 100) : plusL L n = (⟨plusC L n, upV n L.vs⟩, 0) := by
  have a1 : ¬ n < 0 := by omega
  have a2 : ¬ 100 < n := by omega
  have a3 : (L.vs.any fun x => decide (100 < x.2 + n)) = false := by
    rw [List.any_eq_false]; intro x hx
    obtain ⟨j, hj⟩ := List.getElem?_of_mem hx
    have := h4 j x hj
    simp; omega
  have a4 : ¬ 100 < plusC L n := by omega
  simp only [plusL, h, a1, a2, tooBig, a3, a4, decide_false, Bool.or_self, if_false, Bool.true_eq_false, Bool.false_eq_true]
theorem valid_okVar {L : Lvl} {i : Nat} {x : LV} (h : validB L = true) (hx : L.vs[i]? = some x) : -65536 ≤ x.1 ∧ x.1 ≤ 7 ∧ 0 ≤ x.2 ∧ x.2 ≤ 100 := by
  have := (((valid_parts _).1 h).2.2.2 i (List.getElem?_eq_some_iff.1 hx).1 _ hx).1
  simp [okVar] at this
  omega
theorem valid_c {L : Lvl} (h : validB L = true) : 0 ≤ L.c ∧ L.c ≤ 100 := by have := (valid_parts _).1 h; omega
theorem plusC_yes {L : Lvl} {n : Int} (h : 0 < L.c ∨ L.vs = []) : plusC L n = L.c + n := if_pos h
theorem plusC_no {L : Lvl} {n : Int} (h : ¬ 0 < L.c) (h2 : L.vs ≠ []) : plusC L n = 0 := if_neg (by simp [h, h2])

/-- two ascending lists in one, with the greater offset for a variable of both -/
def mergeV : List LV → List LV → List LV
  | [], b => b
  | x :: a, [] => x :: a
  | x :: a, y :: b => if x.1 < y.1 then x :: mergeV a (y :: b) else if y.1 < x.1 then y :: mergeV (x :: a) b else (x.1, max x.2 y.2) :: mergeV a b
termination_by a b => a.length + b.length
theorem mergeV_nil_r (a : List LV) : mergeV a [] = a := by cases a <;> simp [mergeV]
theorem mergeV_nil_l (b : List LV) : mergeV [] b = b := by simp [mergeV]
theorem drop_at {l : List LV} {i : Nat} {x : LV} (h : l[i]? = some x) : l.drop i = x :: l.drop (i + 1) := by
  obtain ⟨hlt, rfl⟩ := List.getElem?_eq_some_iff.1 h
  exact List.drop_eq_getElem_cons hlt
theorem merge_a {a b : List LV} {i k : Nat} {x : LV} (hx : a[i]? = some x) (hk : b.length ≤ k) : mergeV (a.drop i) (b.drop k) = x :: mergeV (a.drop (i + 1)) (b.drop k) := by
  rw [List.drop_eq_nil_of_le hk, mergeV_nil_r, mergeV_nil_r, drop_at hx]
theorem merge_b {a b : List LV} {i k : Nat} {y : LV} (hi : a.length ≤ i) (hy : b[k]? = some y) : mergeV (a.drop i) (b.drop k) = y :: mergeV (a.drop i) (b.drop (k + 1)) := by
  rw [List.drop_eq_nil_of_le hi, mergeV_nil_l, mergeV_nil_l, drop_at hy]
theorem merge_lt {a b : List LV} {i k : Nat} {x y : LV} (hx : a[i]? = some x) (hy : b[k]? = some y) (h : x.1 < y.1) : mergeV (a.drop i) (b.drop k) = x :: mergeV (a.drop (i + 1)) (b.drop k) := by
  rw [drop_at hx, drop_at hy, mergeV, if_pos h]
theorem merge_gt {a b : List LV} {i k : Nat} {x y : LV} (hx : a[i]? = some x) (hy : b[k]? = some y) (h : y.1 < x.1) : mergeV (a.drop i) (b.drop k) = y :: mergeV (a.drop i) (b.drop (k + 1)) := by
  rw [drop_at hx, drop_at hy, mergeV, if_neg (by omega), if_pos h]
theorem merge_eq {a b : List LV} {i k : Nat} {x y : LV} (hx : a[i]? = some x) (hy : b[k]? = some y) (h : x.1 = y.1) : mergeV (a.drop i) (b.drop k) = (x.1, max x.2 y.2) :: mergeV (a.drop (i + 1)) (b.drop (k + 1)) := by
  rw [drop_at hx, drop_at hy, mergeV, if_neg (by omega), if_neg (by omega)]
theorem merge_end {a b : List LV} {i k : Nat} (hi : a.length ≤ i) (hk : b.length ≤ k) : mergeV (a.drop i) (b.drop k) = [] := by
  rw [List.drop_eq_nil_of_le hi, List.drop_eq_nil_of_le hk, mergeV_nil_l]
/-- the reference's join -/
def joinL (A B : Lvl) : Lvl := if mergeV A.vs B.vs ≠ [] ∧ max A.c B.c ≤ topOf 0 (mergeV A.vs B.vs) then ⟨0, mergeV A.vs B.vs⟩ else ⟨max A.c B.c, mergeV A.vs B.vs⟩
theorem joinL_yes {A B : Lvl} {m : List LV} (hm : m = mergeV A.vs B.vs) (h0 : 0 < m.length) (h : max A.c B.c ≤ topOf 0 m) : joinL A B = ⟨0, m⟩ := by
  subst hm; unfold joinL; rw [if_pos ⟨fun e => by rw [e] at h0; simp at h0, h⟩]
theorem joinL_no {A B : Lvl} {m : List LV} (hm : m = mergeV A.vs B.vs) (h : m.length = 0 ∨ topOf 0 m < max A.c B.c) : joinL A B = ⟨max A.c B.c, m⟩ := by
  subst hm; unfold joinL; rw [if_neg]
  rintro ⟨h1, h2⟩
  rcases h with h | h
  · exact h1 (List.eq_nil_of_length_eq_zero h)
  · omega
/-- the reference's Max -/
def maxL (A B : Lvl) : Lvl × Int := if validB A && validB B then (joinL A B, 0) else (⟨0, []⟩, 3)
theorem maxL_inv {A B : Lvl} (h : (validB A && validB B) = false) : maxL A B = (⟨0, []⟩, 3) := by simp [maxL, h]
theorem maxL_ok {A B : Lvl} (h1 : validB A = true) (h2 : validB B = true) : maxL A B = (joinL A B, 0) := by simp [maxL, h1, h2]

/-! ### Ascending variables -/
theorem asc_pair {l : List LV} : ascB l = true ↔ l.Pairwise (fun a b => a.1 < b.1) := by
  induction l with
  | nil => simp [ascB]
  | cons a r ih =>
    cases r with
    | nil => simp [ascB]
    | cons b r =>
      simp only [ascB, Bool.and_eq_true, decide_eq_true_eq, ih]
      constructor
      · rintro ⟨h1, h2⟩
        refine List.pairwise_cons.2 ⟨fun c hc => ?_, h2⟩
        rcases List.mem_cons.1 hc with rfl | hc
        · exact h1
        · exact Int.lt_trans h1 ((List.pairwise_cons.1 h2).1 c hc)
      · intro h
        exact ⟨(List.pairwise_cons.1 h).1 b List.mem_cons_self, (List.pairwise_cons.1 h).2⟩
/-- ascending, with indices in range -/
def WF (l : List LV) : Prop := l.Pairwise (fun a b => a.1 < b.1) ∧ ∀ x ∈ l, -65536 ≤ x.1 ∧ x.1 ≤ 7
theorem wf_valid {L : Lvl} (h : validB L = true) : WF L.vs := by
  refine ⟨asc_pair.1 (by simp only [validB, Bool.and_eq_true] at h; exact h.2), fun x hx => ?_⟩
  obtain ⟨k, hk⟩ := List.getElem?_of_mem hx
  have := valid_okVar h hk; omega
theorem pw_len : ∀ (l : List LV) (lo : Int), l.Pairwise (fun a b => a.1 < b.1) → (∀ x ∈ l, lo ≤ x.1 ∧ x.1 ≤ 7) → lo ≤ 8 → (l.length : Int) ≤ 8 - lo
  | [], lo, _, _, h => by simp; omega
  | a :: r, lo, hp, hb, h => by
    have ha := hb a List.mem_cons_self
    have := pw_len r (a.1 + 1) (List.pairwise_cons.1 hp).2 (fun x hx => ⟨by have := (List.pairwise_cons.1 hp).1 x hx; omega, (hb x (List.mem_cons_of_mem _ hx)).2⟩) (by omega)
    simp only [List.length_cons]; omega
theorem WF.len {l : List LV} (h : WF l) : l.length ≤ 100000 := by have := pw_len l (-65536) h.1 h.2 (by omega); omega
theorem wf_nil : WF [] := ⟨List.Pairwise.nil, fun x hx => by cases hx⟩
theorem wf_one {x : LV} (h : -65536 ≤ x.1 ∧ x.1 ≤ 7) : WF [x] := ⟨List.pairwise_singleton _ _, fun y hy => by simp at hy; subst hy; exact h⟩
theorem wf_upV {l : List LV} (n : Int) (h : WF l) : WF (upV n l) := by
  refine ⟨?_, fun x hx => ?_⟩
  · unfold upV; rw [List.pairwise_map]; exact h.1
  · unfold upV at hx; obtain ⟨y, hy, rfl⟩ := List.mem_map.1 hx; exact h.2 y hy
theorem mem_merge : ∀ (a b : List LV) (z : LV), z ∈ mergeV a b → (∃ x ∈ a, z.1 = x.1) ∨ (∃ y ∈ b, z.1 = y.1)
  | [], b, z, h => by rw [mergeV_nil_l] at h; exact .inr ⟨z, h, rfl⟩
  | x :: a, [], z, h => by rw [mergeV_nil_r] at h; exact .inl ⟨z, h, rfl⟩
  | x :: a, y :: b, z, h => by
    rw [mergeV] at h
    split at h
    · rcases List.mem_cons.1 h with rfl | h
      · exact .inl ⟨z, List.mem_cons_self, rfl⟩
      · rcases mem_merge a (y :: b) z h with ⟨w, hw, e⟩ | hr
        · exact .inl ⟨w, List.mem_cons_of_mem _ hw, e⟩
        · exact .inr hr
    · split at h
      · rcases List.mem_cons.1 h with rfl | h
        · exact .inr ⟨z, List.mem_cons_self, rfl⟩
        · rcases mem_merge (x :: a) b z h with hr | ⟨w, hw, e⟩
          · exact .inl hr
          · exact .inr ⟨w, List.mem_cons_of_mem _ hw, e⟩
      · rcases List.mem_cons.1 h with rfl | h
        · exact .inl ⟨x, List.mem_cons_self, rfl⟩
        · rcases mem_merge a b z h with ⟨w, hw, e⟩ | ⟨w, hw, e⟩
          · exact .inl ⟨w, List.mem_cons_of_mem _ hw, e⟩
          · exact .inr ⟨w, List.mem_cons_of_mem _ hw, e⟩
termination_by a b => a.length + b.length
theorem wf_merge : ∀ (a b : List LV), WF a → WF b → WF (mergeV a b)
  | [], b, _, hb => by rw [mergeV_nil_l]; exact hb
  | x :: a, [], ha, _ => by rw [mergeV_nil_r]; exact ha
  | x :: a, y :: b, ha, hb => by
    have ha' : WF a := ⟨(List.pairwise_cons.1 ha.1).2, fun z hz => ha.2 z (List.mem_cons_of_mem _ hz)⟩
    have hb' : WF b := ⟨(List.pairwise_cons.1 hb.1).2, fun z hz => hb.2 z (List.mem_cons_of_mem _ hz)⟩
    have xa := (List.pairwise_cons.1 ha.1).1
    have yb := (List.pairwise_cons.1 hb.1).1
    rw [mergeV]
    split
    · rename_i h1
      have ih := wf_merge a (y :: b) ha' hb
      refine ⟨List.pairwise_cons.2 ⟨fun z hz => ?_, ih.1⟩, fun z hz => ?_⟩
      · rcases mem_merge _ _ _ hz with ⟨w, hw, e⟩ | ⟨w, hw, e⟩
        · have := xa w hw; omega
        · rcases List.mem_cons.1 hw with rfl | hw
          · omega
          · have := yb w hw; omega
      · rcases List.mem_cons.1 hz with rfl | hz
        · exact ha.2 _ List.mem_cons_self
        · exact ih.2 z hz
    · split
      · rename_i h1 h2
        have ih := wf_merge (x :: a) b ha hb'
        refine ⟨List.pairwise_cons.2 ⟨fun z hz => ?_, ih.1⟩, fun z hz => ?_⟩
        · rcases mem_merge _ _ _ hz with ⟨w, hw, e⟩ | ⟨w, hw, e⟩
          · rcases List.mem_cons.1 hw with rfl | hw
            · omega
            · have := xa w hw; omega
          · have := yb w hw; omega
        · rcases List.mem_cons.1 hz with rfl | hz
          · exact hb.2 _ List.mem_cons_self
          · exact ih.2 z hz
      · rename_i h1 h2
        have ih := wf_merge a b ha' hb'
        refine ⟨List.pairwise_cons.2 ⟨fun z hz => ?_, ih.1⟩, fun z hz => ?_⟩
        · rcases mem_merge _ _ _ hz with ⟨w, hw, e⟩ | ⟨w, hw, e⟩
          · have := xa w hw; dsimp only; omega
          · have := yb w hw; dsimp only; omega
        · rcases List.mem_cons.1 hz with rfl | hz
          · exact ha.2 x List.mem_cons_self
          · exact ih.2 z hz
termination_by a b => a.length + b.length
theorem joinL_vs (A B : Lvl) : (joinL A B).vs = mergeV A.vs B.vs := by unfold joinL; split <;> rfl
theorem wf_join {A B : Lvl} (ha : WF A.vs) (hb : WF B.vs) : WF (joinL A B).vs := by rw [joinL_vs]; exact wf_merge _ _ ha hb
theorem wf_plus {L : Lvl} {n : Int} (h : WF L.vs) : WF (plusL L n).1.vs := by
  unfold plusL; repeat' split
  all_goals first | exact wf_nil | exact wf_upV n h
/-- one variable replaced, or kept -/
def repStep (vals : List Lvl) (out : Lvl) (v : LV) : Lvl × Int :=
  if v.1 < 0 ∧ -1 - v.1 < vals.length then (if (plusL (vals.getD (-1 - v.1).toNat ⟨0, []⟩) v.2).2 = 0 then (joinL out (plusL (vals.getD (-1 - v.1).toNat ⟨0, []⟩) v.2).1, 0) else (⟨0, []⟩, (plusL (vals.getD (-1 - v.1).toNat ⟨0, []⟩) v.2).2)) else (joinL out ⟨0, [v]⟩, 0)
def repGo (vals : List Lvl) : List LV → Lvl → Lvl × Int
  | [], out => (out, 0)
  | v :: r, out => if (repStep vals out v).2 = 0 then repGo vals r (repStep vals out v).1 else (⟨0, []⟩, (repStep vals out v).2)
def repL (L : Lvl) (vals : List Lvl) : Lvl × Int := repGo vals L.vs ⟨L.c, []⟩
/-- the reference's Assign -/
def assL (L : Lvl) (vals : List Lvl) : Lvl × Int := if validB L && vals.all validB then repL L vals else (⟨0, []⟩, 3)
theorem assL_inv {L : Lvl} {vals : List Lvl} (h : (validB L && vals.all validB) = false) : assL L vals = (⟨0, []⟩, 3) := by simp [assL, h]
theorem assL_ok {L : Lvl} {vals : List Lvl} (h1 : validB L = true) (h2 : vals.all validB = true) : assL L vals = repL L vals := by simp [assL, h1, h2]
theorem rep_keep {vals : List Lvl} {out : Lvl} {v : LV} (h : ¬ (v.1 < 0 ∧ -1 - v.1 < vals.length)) : repStep vals out v = (joinL out ⟨0, [v]⟩, 0) := if_neg h
theorem rep_put {vals : List Lvl} {out V : Lvl} {v : LV} {m : Nat} (h : v.1 < 0) (hm : -1 - v.1 = (m : Int)) (hV : vals[m]? = some V) (he : (plusL V v.2).2 = 0) : repStep vals out v = (joinL out (plusL V v.2).1, 0) := by
  have hlt := (List.getElem?_eq_some_iff.1 hV).1
  have e : vals.getD (-1 - v.1).toNat ⟨0, []⟩ = V := by rw [hm, Int.toNat_natCast, List.getD_eq_getElem?_getD, hV]; rfl
  unfold repStep; rw [if_pos ⟨h, by omega⟩, e, if_pos he]
theorem rep_err {vals : List Lvl} {out V : Lvl} {v : LV} {m : Nat} (h : v.1 < 0) (hm : -1 - v.1 = (m : Int)) (hV : vals[m]? = some V) (he : (plusL V v.2).2 ≠ 0) : repStep vals out v = (⟨0, []⟩, (plusL V v.2).2) := by
  have hlt := (List.getElem?_eq_some_iff.1 hV).1
  have e : vals.getD (-1 - v.1).toNat ⟨0, []⟩ = V := by rw [hm, Int.toNat_natCast, List.getD_eq_getElem?_getD, hV]; rfl
  unfold repStep; rw [if_pos ⟨h, by omega⟩, e, if_neg he]
theorem repGo_at {vals : List Lvl} {l : List LV} {k : Nat} {v : LV} {out : Lvl} (h : l[k]? = some v) (he : (repStep vals out v).2 = 0) : repGo vals (l.drop k) out = repGo vals (l.drop (k + 1)) (repStep vals out v).1 := by
  rw [drop_at h, repGo, if_pos he]
theorem repGo_err {vals : List Lvl} {l : List LV} {k : Nat} {v : LV} {out : Lvl} (h : l[k]? = some v) (he : (repStep vals out v).2 ≠ 0) : repGo vals (l.drop k) out = (⟨0, []⟩, (repStep vals out v).2) := by
  rw [drop_at h, repGo, if_neg he]
end Go.Proofs.YtcapifnaceegmaaGreatDoor
