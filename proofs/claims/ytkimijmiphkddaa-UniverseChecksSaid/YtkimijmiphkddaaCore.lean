/- A walk's knowledge of memory as data: what a slot holds, what the call's own blocks hold, and what is read and never written. Nothing of the program in sight. -/
import Derived.WalkKit
import Derived.WalkSpells
import Derived.WalkLawsBesides
import Derived.ControlIn
import Derived.TacticsIn
import Derived.CallsIn
import Derived.Laws.AppendOwn
import Derived.Deep.LoopGhost
import Derived.Deep.Quiet
import Derived.StillTail
import Derived.KernelRfl
namespace Go.Proofs.Ytkimijmiphkddaa
open Go.RowKit
set_option linter.unusedSimpArgs false
set_option linter.unusedVariables false
set_option linter.unusedSectionVars false

/-- What one cell is read as: this very value, or a slice of elements of so many cells. -/
inductive C where
  | v (x : Value)
  | sl (sz : Nat) (es : List (List C))

/-- The value reads as the datum, all cells that are met lying in S. -/
inductive Reads (S : Nat → Nat → Prop) (w : World) : C → Value → Prop where
  | v (x : Value) (h : x.oneCell' = true) : Reads S w (.v x) x
  | sl (sz : Nat) (es : List (List C)) (a : Option Addr) (cap b off : Nat) (f : Nat → Nat → Value)
      (hcap : es.length ≤ cap)
      (ha : es ≠ [] → a = some ⟨b, off, none⟩)
      (hl : ∀ (i : Nat) (e : List C), es[i]? = some e → e.length = sz)
      (hc : ∀ (i : Nat) (e : List C) (j : Nat) (c : C), es[i]? = some e → e[j]? = some c → w.cell? ⟨b, off + i * sz + j, none⟩ = some (f i j))
      (hs : ∀ (i : Nat) (e : List C) (j : Nat) (c : C), es[i]? = some e → e[j]? = some c → S b (off + i * sz + j))
      (hr : ∀ (i : Nat) (e : List C) (j : Nat) (c : C), es[i]? = some e → e[j]? = some c → Reads S w c (f i j)) :
      Reads S w (.sl sz es) (.slice a es.length cap)

theorem Reads.mono {S S' : Nat → Nat → Prop} {w w' : World} (hS : ∀ b o, S b o → S' b o) (hw : ∀ b o, S b o → w'.cell? ⟨b, o, none⟩ = w.cell? ⟨b, o, none⟩)
    {c : C} {v : Value} (h : Reads S w c v) : Reads S' w' c v := by
  induction h with
  | v x h => exact .v x h
  | sl sz es a cap b off f hcap ha hl hc hs hr ih =>
    exact .sl sz es a cap b off f hcap ha hl (fun i e j c h1 h2 => (hw _ _ (hs i e j c h1 h2)).trans (hc i e j c h1 h2)) (fun i e j c h1 h2 => hS _ _ (hs i e j c h1 h2)) ih

theorem Reads.one {S : Nat → Nat → Prop} {w : World} {c : C} {v : Value} (h : Reads S w c v) : v.oneCell' = true := by
  cases h with
  | v x h => exact h
  | sl => rfl

/-- A cell of a frame or of a block, as the walk knows it. -/
inductive CA where
  | d (c : C)
  | ptr (i off : Nat)
  | pel (e : List C) (off : Nat)
  | fn (f : FuncId) (caps : List (Nat × Nat))
  | app (i sz : Nat) (es : List (List C))
  | osl (i off len cap : Nat)
  | mp (i : Nat)
  | yld (i : Nat)
  | clo (f : FuncId) (caps : List (List C × Nat))
  | any

inductive AV where
  | one (x : CA)
  | agg (xs : List CA)

inductive TV where
  | v (x : AV)
  | tup (xs : List AV)
  | unk

/-- A block of the call's own. -/
inductive HB where
  | cells (T : TypeId) (xs : List CA)
  | obj (o : Obj)
  | loop (s : LoopState) (p : Option Code) (tm : List (Nat × TV)) (nt : Nat) (ps : Array Tmp) (assign body : Code) (D : Nat)
  | mp (es : List (Value × AV × Nat)) (clock : Nat)

structure Tok where
  E : TypeId
  sz : Nat
  n : Nat

structure St where
  tm : List (Nat × TV)
  hp : List (Nat × HB)
  tk : List (Nat × Option Tok)
  nx : Nat
  nt : Nat
  df : List Nat

/-- What the names of blocks and slices stand for; the cells that are never written again. -/
structure Vu where
  nx : Nat
  ι : Nat → Nat
  κ : Nat → Nat → Value
  cu : Nat → Nat
  S : Nat → Nat → Prop

structure Vu.Le (V V' : Vu) (w w' : World) : Prop where
  nx : V.nx ≤ V'.nx
  ι : ∀ i, i < V.nx → V'.ι i = V.ι i
  cu : ∀ i, i < V.nx → V.cu i ≤ V'.cu i
  κ : ∀ i, i < V.nx → ∀ m, m ≤ V.cu i → V'.κ i m = V.κ i m
  S : ∀ b o, V.S b o → V'.S b o
  cell : ∀ b o, V.S b o → w'.cell? ⟨b, o, none⟩ = w.cell? ⟨b, o, none⟩

theorem Vu.Le.refl (V : Vu) (w : World) : V.Le V w w := ⟨Nat.le_refl _, fun _ _ => rfl, fun _ _ => Nat.le_refl _, fun _ _ _ _ => rfl, fun _ _ h => h, fun _ _ _ => rfl⟩

/-- A pointer to a place of cells that are only read. -/
def pelRel (S : Nat → Nat → Prop) (w : World) (e : List C) (off : Nat) (v : Value) : Prop :=
  ∃ (b o : Nat) (f : Nat → Value), v = .pointer (some ⟨b, o + off, none⟩) ∧ ∀ (j : Nat) (c : C), e[j]? = some c → w.cell? ⟨b, o + j, none⟩ = some (f j) ∧ S b (o + j) ∧ Reads S w c (f j)

theorem pelRel.mono {S S' : Nat → Nat → Prop} {w w' : World} (hS : ∀ b o, S b o → S' b o) (hw : ∀ b o, S b o → w'.cell? ⟨b, o, none⟩ = w.cell? ⟨b, o, none⟩) {e : List C} {off : Nat} {v : Value} (h : pelRel S w e off v) : pelRel S' w' e off v := by
  obtain ⟨b, o, f, hv, hf⟩ := h
  exact ⟨b, o, f, hv, fun j c hj => ⟨(hw _ _ (hf j c hj).2.1).trans (hf j c hj).1, hS _ _ (hf j c hj).2.1, Reads.mono hS hw (hf j c hj).2.2⟩⟩

def CA.rel (V : Vu) (w : World) : CA → Value → Prop
  | .d c, v => Reads V.S w c v
  | .ptr i off, v => i < V.nx ∧ v = .pointer (some ⟨V.ι i, off, none⟩)
  | .pel e off, v => pelRel V.S w e off v
  | .clo f caps, v => ∃ ps : List Value, v = .func (.func f) #[] ps.toArray ∧ ps.length = caps.length ∧ ∀ (i : Nat) (e : List C) (off : Nat), caps[i]? = some (e, off) → ∃ p, ps[i]? = some p ∧ pelRel V.S w e off p
  | .fn f caps, v => (∀ p ∈ caps, p.1 < V.nx) ∧ v = .func (.func f) #[] (caps.map fun p => Value.pointer (some ⟨V.ι p.1, p.2, none⟩)).toArray
  | .app i sz es, v => i < V.nx ∧ es.length ≤ V.cu i ∧ v = V.κ i es.length ∧ Reads V.S w (.sl sz es) v
  | .osl i off len cap, v => i < V.nx ∧ v = .slice (some ⟨V.ι i, off, none⟩) len cap
  | .mp i, v => i < V.nx ∧ v = .map (some (V.ι i))
  | .yld i, v => i < V.nx ∧ v = .func (.yield (V.ι i)) #[] #[]
  | .any, v => v.oneCell' = true

theorem CA.rel.mono {V V' : Vu} {w w' : World} (hV : V.Le V' w w') {x : CA} {v : Value} (h : x.rel V w v) : x.rel V' w' v := by
  cases x with
  | d c => exact Reads.mono hV.S hV.cell h
  | ptr i off => exact ⟨Nat.lt_of_lt_of_le h.1 hV.nx, by rw [hV.ι i h.1]; exact h.2⟩
  | pel e off => exact pelRel.mono hV.S hV.cell h
  | clo f caps =>
    obtain ⟨ps, h1, h2, h3⟩ := h
    exact ⟨ps, h1, h2, fun i e off hi => let ⟨p, h4, h5⟩ := h3 i e off hi; ⟨p, h4, h5.mono hV.S hV.cell⟩⟩
  | fn f caps =>
    refine ⟨fun p hp => Nat.lt_of_lt_of_le (h.1 p hp) hV.nx, ?_⟩
    rw [h.2]
    congr 2
    exact List.map_congr_left fun p hp => by rw [hV.ι _ (h.1 p hp)]
  | app i sz es => exact ⟨Nat.lt_of_lt_of_le h.1 hV.nx, Nat.le_trans h.2.1 (hV.cu i h.1), by rw [hV.κ i h.1 _ h.2.1]; exact h.2.2.1, Reads.mono hV.S hV.cell h.2.2.2⟩
  | osl i off len cap => exact ⟨Nat.lt_of_lt_of_le h.1 hV.nx, by rw [hV.ι i h.1]; exact h.2⟩
  | mp i => exact ⟨Nat.lt_of_lt_of_le h.1 hV.nx, by rw [hV.ι i h.1]; exact h.2⟩
  | yld i => exact ⟨Nat.lt_of_lt_of_le h.1 hV.nx, by rw [hV.ι i h.1]; exact h.2⟩
  | any => exact h

theorem CA.rel.one {V : Vu} {w : World} {x : CA} {v : Value} (h : x.rel V w v) : v.oneCell' = true := by
  cases x with
  | d c => exact Reads.one h
  | ptr i off => rw [h.2]; rfl
  | pel e off => obtain ⟨b, o, f, hv, -⟩ := h; rw [hv]; rfl
  | clo f caps => obtain ⟨ps, hv, -⟩ := h; rw [hv]; rfl
  | fn f caps => rw [h.2]; rfl
  | app i sz es => exact Reads.one h.2.2.2
  | osl i off len cap => rw [h.2]; rfl
  | mp i => rw [h.2]; rfl
  | yld i => rw [h.2]; rfl
  | any => exact h

/-- Cells side by side. -/
def rels (V : Vu) (w : World) (xs : List CA) (vs : Array Value) : Prop :=
  vs.size = xs.length ∧ ∀ (i : Nat) (x : CA), xs[i]? = some x → ∃ u, vs[i]? = some u ∧ x.rel V w u

theorem rels.mono {V V' : Vu} {w w' : World} (hV : V.Le V' w w') {xs : List CA} {vs : Array Value} (h : rels V w xs vs) : rels V' w' xs vs :=
  ⟨h.1, fun i x hx => let ⟨u, h1, h2⟩ := h.2 i x hx; ⟨u, h1, h2.mono hV⟩⟩

theorem rels.set {V : Vu} {w : World} {xs : List CA} {vs : Array Value} (h : rels V w xs vs) {i : Nat} {x : CA} {u : Value} (hu : x.rel V w u) : rels V w (xs.set i x) (vs.setIfInBounds i u) := by
  refine ⟨by simp [h.1], fun j y hy => ?_⟩
  rw [List.getElem?_set] at hy
  split at hy
  · rename_i e; subst e
    split at hy
    · rename_i hlt; cases hy
      exact ⟨u, by simp [Array.getElem?_setIfInBounds, h.1, hlt], hu⟩
    · cases hy
  · rename_i e
    obtain ⟨u', h1, h2⟩ := h.2 j y hy
    exact ⟨u', by rw [Array.getElem?_setIfInBounds, if_neg e]; exact h1, h2⟩

def AV.rel (V : Vu) (w : World) : AV → Value → Prop
  | .one x, v => x.rel V w v
  | .agg xs, v => ∃ vs, v = .agg vs ∧ rels V w xs vs

theorem AV.rel.mono {V V' : Vu} {w w' : World} (hV : V.Le V' w w') {x : AV} {v : Value} (h : x.rel V w v) : x.rel V' w' v := by
  cases x with
  | one x => exact CA.rel.mono hV h
  | agg xs => obtain ⟨vs, h1, h2⟩ := h; exact ⟨vs, h1, h2.mono hV⟩

def TV.rel (V : Vu) (w : World) : TV → Value → Prop
  | .v x, y => x.rel V w y
  | .tup xs, y => ∃ vs : Array Value, y = .tuple vs ∧ vs.size = xs.length ∧ ∀ (i : Nat) (x : AV), xs[i]? = some x → ∃ u, vs[i]? = some u ∧ x.rel V w u
  | .unk, _ => True

theorem TV.rel.mono {V V' : Vu} {w w' : World} (hV : V.Le V' w w') {x : TV} {v : Value} (h : x.rel V w v) : x.rel V' w' v := by
  cases x with
  | v x => exact AV.rel.mono hV h
  | tup xs => obtain ⟨vs, h1, h2, h3⟩ := h; exact ⟨vs, h1, h2, fun i x hx => let ⟨u, h4, h5⟩ := h3 i x hx; ⟨u, h4, h5.mono hV⟩⟩
  | unk => trivial

/-- The cells of a value. -/
def AV.cells : AV → List CA
  | .one x => [x]
  | .agg xs => xs

theorem AV.rel.cells {V : Vu} {w : World} {x : AV} {v : Value} (h : x.rel V w v) : rels V w x.cells v.cells := by
  cases x with
  | one x =>
    have h1 := CA.rel.one h
    have : v.cells = #[v] := by cases v <;> first | rfl | (simp [Value.oneCell'] at h1)
    rw [this]
    refine ⟨rfl, fun i y hy => ?_⟩
    cases i with
    | zero => simp [AV.cells] at hy; subst hy; exact ⟨v, rfl, h⟩
    | succ i => simp [AV.cells] at hy
  | agg xs => obtain ⟨vs, rfl, h2⟩ := h; exact h2

/-- The newest entry of a key. -/
def lk {α : Type} : List (Nat × α) → Nat → Option α
  | [], _ => none
  | (k, v) :: r, i => cond (Nat.beq k i) (some v) (lk r i)

theorem lk_cons {α : Type} (k : Nat) (v : α) (r : List (Nat × α)) (i : Nat) : lk ((k, v) :: r) i = if k = i then some v else lk r i := by
  by_cases h : k = i
  · subst h; simp [lk]
  · have h2 : Nat.beq k i = false := by
      cases hb : Nat.beq k i with
      | false => rfl
      | true => exact absurd (Nat.eq_of_beq_eq_true hb) h
    simp [lk, h2, h]

/-- The world as it was when the call began; the old blocks that it may write; what is never written. -/
structure Env where
  P : Program
  w0 : World
  M : Nat → Prop
  V0 : Vu

/-- Nothing that was there has turned, but for blocks of M. -/
structure ExtM (M : Nat → Prop) (w w' : World) : Prop where
  os : w'.os = w.os
  tape : w'.tape = w.tape
  output : w'.output = w.output
  size : w.heap.size ≤ w'.heap.size
  block : ∀ k, k < w.heap.size → ¬ M k → w'.heap[k]? = w.heap[k]?

theorem ExtM.refl (M : Nat → Prop) (w : World) : ExtM M w w := ⟨rfl, rfl, rfl, Nat.le_refl _, fun _ _ _ => rfl⟩
theorem ExtM.trans {M : Nat → Prop} {a b c : World} (h : ExtM M a b) (k : ExtM M b c) : ExtM M a c :=
  ⟨k.os.trans h.os, k.tape.trans h.tape, k.output.trans h.output, Nat.le_trans h.size k.size, fun i hi hM => (k.block i (Nat.lt_of_lt_of_le hi h.size) hM).trans (h.block i hi hM)⟩

def HB.rel (V : Vu) (w : World) : HB → Obj → Prop
  | .cells T xs, o => ∃ vs, o = .cells vs T (0, 0) ∧ rels V w xs vs
  | .obj o', o => o = o'
  | .loop s p tm nt ps assign body D, o => D < V.nx ∧ ∃ fn tmps, o = .loop { state := s, pending := p, fn := fn, tmps := tmps, params := ps, assign := assign, body := body, defers := V.ι D } ∧ tmps.size = nt ∧ ∀ t x, lk tm t = some x → x.rel V w (tmps.getD t undef)
  | .mp es clock, o => ∃ ents : Array MapEntry, o = .map ents clock ∧ ents.size = es.length ∧ ∀ (i : Nat) (k : Value) (x : AV) (b : Nat), es[i]? = some (k, x, b) → ∃ v, ents[i]? = some ⟨k, v, b⟩ ∧ x.rel V w v

theorem HB.rel.mono {V V' : Vu} {w w' : World} (hV : V.Le V' w w') {x : HB} {o : Obj} (h : x.rel V w o) : x.rel V' w' o := by
  cases x with
  | cells T xs => obtain ⟨vs, h1, h2⟩ := h; exact ⟨vs, h1, h2.mono hV⟩
  | obj o' => exact h
  | loop s p tm nt ps assign body D =>
    obtain ⟨hD, fn, tmps, h1, h2, h3⟩ := h
    exact ⟨Nat.lt_of_lt_of_le hD hV.nx, fn, tmps, by rw [hV.ι D hD]; exact h1, h2, fun t x hx => (h3 t x hx).mono hV⟩
  | mp es clock =>
    obtain ⟨ents, h1, h2, h3⟩ := h
    exact ⟨ents, h1, h2, fun i k x b hi => let ⟨v, h4, h5⟩ := h3 i k x b hi; ⟨v, h4, h5.mono hV⟩⟩

/-- What is known of memory. -/
structure HRel (E : Env) (V : Vu) (hp : List (Nat × HB)) (tk : List (Nat × Option Tok)) (w : World) : Prop where
  ext : ExtM E.M E.w0 w
  le0 : E.V0.Le V E.w0 w
  sz : ∀ b o, V.S b o → b < w.heap.size
  sub : ∀ b o, V.S b o → E.V0.S b o ∨ E.w0.heap.size ≤ b ∨ E.M b
  own : ∀ i B, lk hp i = some B → i < V.nx ∧ ∃ o, w.heap[V.ι i]? = some o ∧ B.rel V w o
  inj : ∀ i j A B, lk hp i = some A → lk hp j = some B → V.ι i = V.ι j → i = j
  new : ∀ i B, lk hp i = some B → (E.w0.heap.size ≤ V.ι i ∨ E.M (V.ι i)) ∧ ∀ o, ¬ V.S (V.ι i) o
  tok : ∀ i T, lk tk i = some (some T) → i < V.nx ∧ T.n = V.cu i ∧ ∃ xs, w.ownsRow 0 T.E T.sz (V.κ i T.n) T.n xs ∧ ∀ g, (V.κ i T.n).ownBlock = some g →
    (E.w0.heap.size ≤ g ∨ E.M g) ∧ (∀ o, V.S g o → o < T.n * T.sz) ∧ (∀ j B, lk hp j = some B → V.ι j ≠ g)
  tki : ∀ i j T U g, lk tk i = some (some T) → lk tk j = some (some U) → (V.κ i T.n).ownBlock = some g → (V.κ j U.n).ownBlock = some g → i = j

theorem heap_lt {w : World} {b : Nat} {o : Obj} (h : w.heap[b]? = some o) : b < w.heap.size := (Array.getElem?_eq_some_iff.1 h).1

abbrev ExtF := ExtM (fun _ => False)

theorem ExtM.cell {M : Nat → Prop} {w w' : World} (h : ExtM M w w') {b o : Nat} (hb : b < w.heap.size) (hM : ¬ M b) : w'.cell? ⟨b, o, none⟩ = w.cell? ⟨b, o, none⟩ :=
  World.cell?_of_block (w := w) (a := ⟨b, o, none⟩) (h.block b hb hM)

/-- The names grow, the world grows: what was known is known. -/
structure Vu.Grow (V V' : Vu) (w w' : World) : Prop where
  nx : V.nx ≤ V'.nx
  ι : ∀ i, i < V.nx → V'.ι i = V.ι i
  cu : ∀ i, i < V.nx → V'.cu i = V.cu i
  κ : ∀ i, i < V.nx → ∀ m, m ≤ V.cu i → V'.κ i m = V.κ i m
  S : ∀ b o, V.S b o → V'.S b o
  back : ∀ b o, V'.S b o → V.S b o ∨ w.heap.size ≤ b
  sz : ∀ b o, V'.S b o → b < w'.heap.size

theorem Vu.Le.trans {V V' V'' : Vu} {w w' w'' : World} (h : V.Le V' w w') (k : V'.Le V'' w' w'') : V.Le V'' w w'' :=
  ⟨Nat.le_trans h.nx k.nx, fun i hi => (k.ι i (Nat.lt_of_lt_of_le hi h.nx)).trans (h.ι i hi), fun i hi => Nat.le_trans (h.cu i hi) (k.cu i (Nat.lt_of_lt_of_le hi h.nx)), fun i hi m hm => (k.κ i (Nat.lt_of_lt_of_le hi h.nx) m (Nat.le_trans hm (h.cu i hi))).trans (h.κ i hi m hm),
   fun b o hs => k.S b o (h.S b o hs), fun b o hs => (k.cell b o (h.S b o hs)).trans (h.cell b o hs)⟩

section
variable {E : Env} {V V' : Vu} {hp : List (Nat × HB)} {tk : List (Nat × Option Tok)} {w w' : World}

theorem HRel.le (h : HRel E V hp tk w) (hx : ExtF w w') (hg : V.Grow V' w w') : V.Le V' w w' :=
  ⟨hg.nx, hg.ι, fun i hi => Nat.le_of_eq (hg.cu i hi).symm, hg.κ, hg.S, fun b o hs => hx.cell (h.sz b o hs) (fun h => h)⟩

theorem HRel.later (h : HRel E V hp tk w) (hx : ExtF w w') (hg : V.Grow V' w w') : HRel E V' hp tk w' := by
  have hle := h.le hx hg
  refine ⟨?_, h.le0.trans hle, hg.sz, ?_, ?_, ?_, ?_, ?_, ?_⟩
  · exact h.ext.trans ⟨hx.os, hx.tape, hx.output, hx.size, fun k hk _ => hx.block k hk (fun h => h)⟩
  · intro b o hs
    rcases hg.back b o hs with hs' | hb
    · exact h.sub b o hs'
    · exact .inr (.inl (Nat.le_trans h.ext.size hb))
  · intro i B hi
    obtain ⟨h1, o, ho, hB⟩ := h.own i B hi
    exact ⟨Nat.lt_of_lt_of_le h1 hg.nx, o, by rw [hg.ι i h1, hx.block _ (heap_lt ho) (fun h => h)]; exact ho, hB.mono hle⟩
  · intro i j A B hi hj e
    rw [hg.ι i (h.own i A hi).1, hg.ι j (h.own j B hj).1] at e
    exact h.inj i j A B hi hj e
  · intro i B hi
    have h1 := (h.own i B hi).1
    obtain ⟨o0, ho0, -⟩ := (h.own i B hi).2
    rw [hg.ι i h1]
    refine ⟨(h.new i B hi).1, fun o hs => ?_⟩
    rcases hg.back _ o hs with hs' | hb
    · exact (h.new i B hi).2 o hs'
    · have := heap_lt ho0; omega
  · intro i T hi
    obtain ⟨h1, hcu, xs, hown, hg2⟩ := h.tok i T hi
    rw [hg.κ i h1 _ (Nat.le_of_eq hcu)]
    have hlt := hown.lt
    refine ⟨Nat.lt_of_lt_of_le h1 hg.nx, hcu.trans (hg.cu i h1).symm, xs, ?_, fun g hgb => ?_⟩
    · exact hown.kept (row := none) ⟨hx.os, hx.tape, hx.output, hx.size, fun k hk _ => hx.block k hk (fun h => h)⟩ (by cases (V.κ i T.n).ownBlock <;> simp)
    · obtain ⟨a1, a2, a3⟩ := hg2 g hgb
      have hgl := (hlt g hgb).2
      refine ⟨a1, fun o hs => ?_, fun j B hj => ?_⟩
      · rcases hg.back g o hs with hs' | hb
        · exact a2 o hs'
        · omega
      · rw [hg.ι j (h.own j B hj).1]; exact a3 j B hj
  · intro i j T U g hi hj ei ej
    rw [hg.κ i (h.tok i T hi).1 _ (Nat.le_of_eq (h.tok i T hi).2.1)] at ei
    rw [hg.κ j (h.tok j U hj).1 _ (Nat.le_of_eq (h.tok j U hj).2.1)] at ej
    exact h.tki i j T U g hi hj ei ej

/-- A new block of the call's own, under the next name. -/
def Vu.add (V : Vu) (g : Nat) : Vu := { V with nx := V.nx + 1, ι := fun i => if i = V.nx then g else V.ι i }

theorem Vu.add_grow (V : Vu) (g : Nat) (hsz : ∀ b o, V.S b o → b < w.heap.size) (hx : ExtF w w') : V.Grow (V.add g) w w' :=
  ⟨Nat.le_succ _, fun i hi => by show (if i = V.nx then g else V.ι i) = _; rw [if_neg (by omega)], fun _ _ => rfl, fun _ _ _ _ => rfl, fun _ _ h => h, fun _ _ h => .inl h, fun b o h => Nat.lt_of_lt_of_le (hsz b o h) hx.size⟩

theorem Vu.add_at (V : Vu) (g : Nat) : (V.add g).ι V.nx = g := by show (if V.nx = V.nx then g else _) = g; rw [if_pos rfl]

/-- The block laid at the heap's end, known under the next name. -/
theorem HRel.addOwn (h : HRel E V hp tk w) (o : Obj) (B : HB) (hB : B.rel (V.add w.heap.size) (w.alloc o) o) :
    HRel E (V.add w.heap.size) ((V.nx, B) :: hp) tk (w.alloc o) := by
  have hx : ExtF w (w.alloc o) := ⟨rfl, rfl, rfl, by simp, fun k hk _ => Below.heap_alloc w o k hk⟩
  have H := h.later hx (V.add_grow w.heap.size h.sz hx)
  have hsize : ∀ i A, lk hp i = some A → (V.add w.heap.size).ι i < w.heap.size := fun i A hi => by
    obtain ⟨h1, o1, ho1, -⟩ := h.own i A hi
    rw [(V.add_grow w.heap.size h.sz hx).ι i h1]
    exact heap_lt ho1
  have hnx : ∀ i A, lk hp i = some A → i ≠ V.nx := fun i A hi => by have := (h.own i A hi).1; omega
  refine ⟨H.ext, H.le0, H.sz, H.sub, ?_, ?_, ?_, ?_, H.tki⟩
  · intro i A hi
    rw [lk_cons] at hi
    split at hi
    · rename_i e; subst e; cases hi
      exact ⟨Nat.lt_succ_self _, o, by rw [V.add_at]; exact heap_alloc_new w o, hB⟩
    · exact H.own i A hi
  · intro i j A A' hi hj e
    rw [lk_cons] at hi hj
    split at hi
    · rename_i e1; subst e1
      split at hj
      · assumption
      · rw [V.add_at] at e
        have := hsize j A' hj
        omega
    · split at hj
      · rename_i e2; subst e2
        rw [V.add_at] at e
        have := hsize i A hi
        omega
      · exact H.inj i j A A' hi hj e
  · intro i A hi
    rw [lk_cons] at hi
    split at hi
    · rename_i e; subst e
      rw [V.add_at]
      exact ⟨.inl h.ext.size, fun o' hs => by have := h.sz _ _ hs; omega⟩
    · exact H.new i A hi
  · intro i T hi
    obtain ⟨h1, hcu, xs, hown, hg⟩ := H.tok i T hi
    refine ⟨h1, hcu, xs, hown, fun g hgb => ⟨(hg g hgb).1, (hg g hgb).2.1, fun j A hj => ?_⟩⟩
    rw [lk_cons] at hj
    split at hj
    · rename_i e; subst e
      rw [V.add_at]
      obtain ⟨h1', hcu', xs', hown', -⟩ := h.tok i T hi
      have hk := (V.add_grow w.heap.size h.sz hx).κ i h1' _ (Nat.le_of_eq hcu')
      rw [hk] at hgb
      have := (hown'.lt g hgb).2
      omega
    · exact (hg g hgb).2.2 j A hj

theorem setCell_block {w : World} {g : Nat} {vs : Array Value} {T : TypeId} (h : w.heap[g]? = some (.cells vs T (0, 0))) (off : Nat) (u : Value) :
    (w.setCell ⟨g, off, none⟩ u).heap[g]? = some (.cells (vs.setIfInBounds off u) T (0, 0)) := by
  simp [World.setCell, Array.getElem?_modify, h]

theorem cell_of_own {w : World} {g : Nat} {vs : Array Value} {T : TypeId} (h : w.heap[g]? = some (.cells vs T (0, 0))) (off : Nat) : w.cell? ⟨g, off, none⟩ = vs[off]? := by
  simp [World.cell?, h]

theorem free_of_own {w : World} {g : Nat} {vs : Array Value} {T : TypeId} (h : w.heap[g]? = some (.cells vs T (0, 0))) (off : Nat) : w.frozen? ⟨g, off, none⟩ = false := by
  simp [World.frozen?, h]

/-- A store into one of the call's own cells. -/
theorem HRel.store (h : HRel E V hp tk w) {i : Nat} {T : TypeId} {xs : List CA} (hi : lk hp i = some (.cells T xs)) (off : Nat) {x : CA} {u : Value} (hu : x.rel V w u) :
    HRel E V ((i, .cells T (xs.set off x)) :: hp) tk (w.setCell ⟨V.ι i, off, none⟩ u) ∧ V.Le V w (w.setCell ⟨V.ι i, off, none⟩ u) := by
  obtain ⟨hnx, o, ho, vs, rfl, hvs⟩ := h.own i _ hi
  have hne : ∀ k, k ≠ V.ι i → (w.setCell ⟨V.ι i, off, none⟩ u).heap[k]? = w.heap[k]? := fun k hk => Below.heap_setCell w ⟨V.ι i, off, none⟩ u k hk
  have hsz : (w.setCell ⟨V.ι i, off, none⟩ u).heap.size = w.heap.size := by simp [World.setCell]
  have hle : V.Le V w (w.setCell ⟨V.ι i, off, none⟩ u) :=
    ⟨Nat.le_refl _, fun _ _ => rfl, fun _ _ => Nat.le_refl _, fun _ _ _ _ => rfl, fun _ _ h => h, fun b o' hs => World.cell?_of_block (w := w) (a := ⟨b, o', none⟩) (hne b fun e => (h.new i _ hi).2 o' (by rw [← e]; exact hs))⟩
  refine ⟨⟨?_, h.le0.trans hle, fun b o' hs => by rw [hsz]; exact h.sz b o' hs, h.sub, ?_, ?_, ?_, ?_, h.tki⟩, hle⟩
  · refine ⟨h.ext.os, h.ext.tape, h.ext.output, by rw [hsz]; exact h.ext.size, fun k hk hM => (hne k fun e => ?_).trans (h.ext.block k hk hM)⟩
    rcases (h.new i _ hi).1 with h1 | h1
    · omega
    · rw [← e] at h1; exact hM h1
  · intro j B hj
    rw [lk_cons] at hj
    split at hj
    · rename_i e; subst e; cases hj
      exact ⟨hnx, _, setCell_block ho off u, _, rfl, (hvs.mono hle).set (hu.mono hle)⟩
    · rename_i e
      obtain ⟨h1, o1, ho1, hB⟩ := h.own j B hj
      exact ⟨h1, o1, by rw [hne _ fun e' => e (h.inj j i _ _ hj hi e').symm]; exact ho1, hB.mono hle⟩
  · intro j k A B hj hk e
    rw [lk_cons] at hj hk
    split at hj <;> split at hk
    · rename_i e1 e2; exact e1.symm.trans e2
    · rename_i e1 e2; subst e1; exact h.inj _ _ _ _ hi hk e
    · rename_i e1 e2; subst e2; exact h.inj _ _ _ _ hj hi e
    · exact h.inj _ _ _ _ hj hk e
  · intro j B hj
    rw [lk_cons] at hj
    split at hj
    · rename_i e; subst e; exact h.new _ _ hi
    · exact h.new _ _ hj
  · intro j T' hj
    obtain ⟨h1, hcu, xs', hown, hg⟩ := h.tok j T' hj
    refine ⟨h1, hcu, xs', hown.kept (row := some (V.ι i)) ⟨rfl, rfl, rfl, by rw [hsz]; exact Nat.le_refl _, fun k _ hk => hne k fun e => hk (by rw [e])⟩ ?_, fun g hgb => ⟨(hg g hgb).1, (hg g hgb).2.1, fun k B hk => ?_⟩⟩
    · cases hb : (V.κ j T'.n).ownBlock with
      | none => exact .inl rfl
      | some g => exact .inr fun e => (hg g hb).2.2 i _ hi (by cases e; rfl)
    · rw [lk_cons] at hk
      split at hk
      · rename_i e; subst e; exact (hg g hgb).2.2 _ _ hi
      · exact (hg g hgb).2.2 _ _ hk
end

end Go.Proofs.Ytkimijmiphkddaa
