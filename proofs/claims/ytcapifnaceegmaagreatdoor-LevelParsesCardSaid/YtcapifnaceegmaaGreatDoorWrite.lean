/- A walk's knowledge of memory as data: what a slot holds, what the call's own blocks hold, and what is read and never written. Nothing of the program in sight. The rules of the walk over what is known: readers. The readers: operations that leave the world alone. Operations that make or write memory; calls; a function's beginning and its end; loops. -/
import Derived.WalkKit
import Derived.WalkSpells
import Derived.WalkLawsBesides
import Derived.ControlIn
import Derived.TacticsIn
import Derived.CallsIn
import Derived.Laws.AppendOwn
import Derived.Deep.LoopGhost
import Derived.Deep.Quiet
import Derived.StillTail
import Derived.KernelRfl
namespace Go.Proofs.YtcapifnaceegmaaGreatDoor
section
open Go.RowKit
set_option linter.unusedSimpArgs false
set_option linter.unusedVariables false
set_option linter.unusedSectionVars false

/-- What one cell is read as: this very value, or a slice of elements of so many cells. -/
inductive C where
  | v (x : Value)
  | sl (sz : Nat) (es : List (List C))

/-- The value reads as the datum, all cells that are met lying in S. -/
inductive Reads (S : Nat → Nat → Prop) (w : World) : C → Value → Prop where
  | v (x : Value) (h : x.oneCell' = true) : Reads S w (.v x) x
  | sl (sz : Nat) (es : List (List C)) (a : Option Addr) (cap b off : Nat) (f : Nat → Nat → Value)
      (hcap : es.length ≤ cap)
      (ha : es ≠ [] → a = some ⟨b, off, none⟩)
      (hl : ∀ (i : Nat) (e : List C), es[i]? = some e → e.length = sz)
      (hc : ∀ (i : Nat) (e : List C) (j : Nat) (c : C), es[i]? = some e → e[j]? = some c → w.cell? ⟨b, off + i * sz + j, none⟩ = some (f i j))
      (hs : ∀ (i : Nat) (e : List C) (j : Nat) (c : C), es[i]? = some e → e[j]? = some c → S b (off + i * sz + j))
      (hr : ∀ (i : Nat) (e : List C) (j : Nat) (c : C), es[i]? = some e → e[j]? = some c → Reads S w c (f i j)) :
      Reads S w (.sl sz es) (.slice a es.length cap)

theorem Reads.mono {S S' : Nat → Nat → Prop} {w w' : World} (hS : ∀ b o, S b o → S' b o) (hw : ∀ b o, S b o → w'.cell? ⟨b, o, none⟩ = w.cell? ⟨b, o, none⟩)
    {c : C} {v : Value} (h : Reads S w c v) : Reads S' w' c v := by
  induction h with
  | v x h => exact .v x h
  | sl sz es a cap b off f hcap ha hl hc hs hr ih =>
    exact .sl sz es a cap b off f hcap ha hl (fun i e j c h1 h2 => (hw _ _ (hs i e j c h1 h2)).trans (hc i e j c h1 h2)) (fun i e j c h1 h2 => hS _ _ (hs i e j c h1 h2)) ih

theorem Reads.one {S : Nat → Nat → Prop} {w : World} {c : C} {v : Value} (h : Reads S w c v) : v.oneCell' = true := by
  cases h with
  | v x h => exact h
  | sl => rfl

/-- A cell of a frame or of a block, as the walk knows it. -/
inductive CA where
  | d (c : C)
  | ptr (i off : Nat)
  | pel (e : List C) (off : Nat)
  | fn (f : FuncId) (caps : List (Nat × Nat))
  | app (i sz : Nat) (es : List (List C))
  | osl (i off len cap : Nat)
  | mp (i : Nat)
  | yld (i : Nat)
  | clo (f : FuncId) (caps : List (List C × Nat))
  | any

inductive AV where
  | one (x : CA)
  | agg (xs : List CA)

inductive TV where
  | v (x : AV)
  | tup (xs : List AV)
  | unk

/-- A block of the call's own. -/
inductive HB where
  | cells (T : TypeId) (xs : List CA)
  | obj (o : Obj)
  | loop (s : LoopState) (p : Option Code) (tm : List (Nat × TV)) (nt : Nat) (ps : Array Tmp) (assign body : Code) (D : Nat)
  | mp (es : List (Value × AV × Nat)) (clock : Nat)

structure Tok where
  E : TypeId
  sz : Nat
  n : Nat

structure St where
  tm : List (Nat × TV)
  hp : List (Nat × HB)
  tk : List (Nat × Option Tok)
  nx : Nat
  nt : Nat
  df : List Nat

/-- What the names of blocks and slices stand for; the cells that are never written again. -/
structure Vu where
  nx : Nat
  ι : Nat → Nat
  κ : Nat → Nat → Value
  cu : Nat → Nat
  S : Nat → Nat → Prop

structure Vu.Le (V V' : Vu) (w w' : World) : Prop where
  nx : V.nx ≤ V'.nx
  ι : ∀ i, i < V.nx → V'.ι i = V.ι i
  cu : ∀ i, i < V.nx → V.cu i ≤ V'.cu i
  κ : ∀ i, i < V.nx → ∀ m, m ≤ V.cu i → V'.κ i m = V.κ i m
  S : ∀ b o, V.S b o → V'.S b o
  cell : ∀ b o, V.S b o → w'.cell? ⟨b, o, none⟩ = w.cell? ⟨b, o, none⟩

theorem Vu.Le.refl (V : Vu) (w : World) : V.Le V w w := ⟨Nat.le_refl _, fun _ _ => rfl, fun _ _ => Nat.le_refl _, fun _ _ _ _ => rfl, fun _ _ h => h, fun _ _ _ => rfl⟩

/-- A pointer to a place of cells that are only read. -/
def pelRel (S : Nat → Nat → Prop) (w : World) (e : List C) (off : Nat) (v : Value) : Prop :=
  ∃ (b o : Nat) (f : Nat → Value), v = .pointer (some ⟨b, o + off, none⟩) ∧ ∀ (j : Nat) (c : C), e[j]? = some c → w.cell? ⟨b, o + j, none⟩ = some (f j) ∧ S b (o + j) ∧ Reads S w c (f j)

theorem pelRel.mono {S S' : Nat → Nat → Prop} {w w' : World} (hS : ∀ b o, S b o → S' b o) (hw : ∀ b o, S b o → w'.cell? ⟨b, o, none⟩ = w.cell? ⟨b, o, none⟩) {e : List C} {off : Nat} {v : Value} (h : pelRel S w e off v) : pelRel S' w' e off v := by
  obtain ⟨b, o, f, hv, hf⟩ := h
  exact ⟨b, o, f, hv, fun j c hj => ⟨(hw _ _ (hf j c hj).2.1).trans (hf j c hj).1, hS _ _ (hf j c hj).2.1, Reads.mono hS hw (hf j c hj).2.2⟩⟩

def CA.rel (V : Vu) (w : World) : CA → Value → Prop
  | .d c, v => Reads V.S w c v
  | .ptr i off, v => i < V.nx ∧ v = .pointer (some ⟨V.ι i, off, none⟩)
  | .pel e off, v => pelRel V.S w e off v
  | .clo f caps, v => ∃ ps : List Value, v = .func (.func f) #[] ps.toArray ∧ ps.length = caps.length ∧ ∀ (i : Nat) (e : List C) (off : Nat), caps[i]? = some (e, off) → ∃ p, ps[i]? = some p ∧ pelRel V.S w e off p
  | .fn f caps, v => (∀ p ∈ caps, p.1 < V.nx) ∧ v = .func (.func f) #[] (caps.map fun p => Value.pointer (some ⟨V.ι p.1, p.2, none⟩)).toArray
  | .app i sz es, v => i < V.nx ∧ es.length ≤ V.cu i ∧ v = V.κ i es.length ∧ Reads V.S w (.sl sz es) v
  | .osl i off len cap, v => i < V.nx ∧ v = .slice (some ⟨V.ι i, off, none⟩) len cap
  | .mp i, v => i < V.nx ∧ v = .map (some (V.ι i))
  | .yld i, v => i < V.nx ∧ v = .func (.yield (V.ι i)) #[] #[]
  | .any, v => v.oneCell' = true

theorem CA.rel.mono {V V' : Vu} {w w' : World} (hV : V.Le V' w w') {x : CA} {v : Value} (h : x.rel V w v) : x.rel V' w' v := by
  cases x with
  | d c => exact Reads.mono hV.S hV.cell h
  | ptr i off => exact ⟨Nat.lt_of_lt_of_le h.1 hV.nx, by rw [hV.ι i h.1]; exact h.2⟩
  | pel e off => exact pelRel.mono hV.S hV.cell h
  | clo f caps =>
    obtain ⟨ps, h1, h2, h3⟩ := h
    exact ⟨ps, h1, h2, fun i e off hi => let ⟨p, h4, h5⟩ := h3 i e off hi; ⟨p, h4, h5.mono hV.S hV.cell⟩⟩
  | fn f caps =>
    refine ⟨fun p hp => Nat.lt_of_lt_of_le (h.1 p hp) hV.nx, ?_⟩
    rw [h.2]
    congr 2
    exact List.map_congr_left fun p hp => by rw [hV.ι _ (h.1 p hp)]
  | app i sz es => exact ⟨Nat.lt_of_lt_of_le h.1 hV.nx, Nat.le_trans h.2.1 (hV.cu i h.1), by rw [hV.κ i h.1 _ h.2.1]; exact h.2.2.1, Reads.mono hV.S hV.cell h.2.2.2⟩
  | osl i off len cap => exact ⟨Nat.lt_of_lt_of_le h.1 hV.nx, by rw [hV.ι i h.1]; exact h.2⟩
  | mp i => exact ⟨Nat.lt_of_lt_of_le h.1 hV.nx, by rw [hV.ι i h.1]; exact h.2⟩
  | yld i => exact ⟨Nat.lt_of_lt_of_le h.1 hV.nx, by rw [hV.ι i h.1]; exact h.2⟩
  | any => exact h

theorem CA.rel.one {V : Vu} {w : World} {x : CA} {v : Value} (h : x.rel V w v) : v.oneCell' = true := by
  cases x with
  | d c => exact Reads.one h
  | ptr i off => rw [h.2]; rfl
  | pel e off => obtain ⟨b, o, f, hv, -⟩ := h; rw [hv]; rfl
  | clo f caps => obtain ⟨ps, hv, -⟩ := h; rw [hv]; rfl
  | fn f caps => rw [h.2]; rfl
  | app i sz es => exact Reads.one h.2.2.2
  | osl i off len cap => rw [h.2]; rfl
  | mp i => rw [h.2]; rfl
  | yld i => rw [h.2]; rfl
  | any => exact h

/-- Cells side by side. -/
def rels (V : Vu) (w : World) (xs : List CA) (vs : Array Value) : Prop :=
  vs.size = xs.length ∧ ∀ (i : Nat) (x : CA), xs[i]? = some x → ∃ u, vs[i]? = some u ∧ x.rel V w u

theorem rels.mono {V V' : Vu} {w w' : World} (hV : V.Le V' w w') {xs : List CA} {vs : Array Value} (h : rels V w xs vs) : rels V' w' xs vs :=
  ⟨h.1, fun i x hx => let ⟨u, h1, h2⟩ := h.2 i x hx; ⟨u, h1, h2.mono hV⟩⟩

theorem rels.set {V : Vu} {w : World} {xs : List CA} {vs : Array Value} (h : rels V w xs vs) {i : Nat} {x : CA} {u : Value} (hu : x.rel V w u) : rels V w (xs.set i x) (vs.setIfInBounds i u) := by
  refine ⟨by simp [h.1], fun j y hy => ?_⟩
  rw [List.getElem?_set] at hy
  split at hy
  · rename_i e; subst e
    split at hy
    · rename_i hlt; cases hy
      exact ⟨u, by simp [Array.getElem?_setIfInBounds, h.1, hlt], hu⟩
    · cases hy
  · rename_i e
    obtain ⟨u', h1, h2⟩ := h.2 j y hy
    exact ⟨u', by rw [Array.getElem?_setIfInBounds, if_neg e]; exact h1, h2⟩

def AV.rel (V : Vu) (w : World) : AV → Value → Prop
  | .one x, v => x.rel V w v
  | .agg xs, v => ∃ vs, v = .agg vs ∧ rels V w xs vs

theorem AV.rel.mono {V V' : Vu} {w w' : World} (hV : V.Le V' w w') {x : AV} {v : Value} (h : x.rel V w v) : x.rel V' w' v := by
  cases x with
  | one x => exact CA.rel.mono hV h
  | agg xs => obtain ⟨vs, h1, h2⟩ := h; exact ⟨vs, h1, h2.mono hV⟩

def TV.rel (V : Vu) (w : World) : TV → Value → Prop
  | .v x, y => x.rel V w y
  | .tup xs, y => ∃ vs : Array Value, y = .tuple vs ∧ vs.size = xs.length ∧ ∀ (i : Nat) (x : AV), xs[i]? = some x → ∃ u, vs[i]? = some u ∧ x.rel V w u
  | .unk, _ => True

theorem TV.rel.mono {V V' : Vu} {w w' : World} (hV : V.Le V' w w') {x : TV} {v : Value} (h : x.rel V w v) : x.rel V' w' v := by
  cases x with
  | v x => exact AV.rel.mono hV h
  | tup xs => obtain ⟨vs, h1, h2, h3⟩ := h; exact ⟨vs, h1, h2, fun i x hx => let ⟨u, h4, h5⟩ := h3 i x hx; ⟨u, h4, h5.mono hV⟩⟩
  | unk => trivial

/-- The cells of a value. -/
def AV.cells : AV → List CA
  | .one x => [x]
  | .agg xs => xs

theorem AV.rel.cells {V : Vu} {w : World} {x : AV} {v : Value} (h : x.rel V w v) : rels V w x.cells v.cells := by
  cases x with
  | one x =>
    have h1 := CA.rel.one h
    have : v.cells = #[v] := by cases v <;> first | rfl | (simp [Value.oneCell'] at h1)
    rw [this]
    refine ⟨rfl, fun i y hy => ?_⟩
    cases i with
    | zero => simp [AV.cells] at hy; subst hy; exact ⟨v, rfl, h⟩
    | succ i => simp [AV.cells] at hy
  | agg xs => obtain ⟨vs, rfl, h2⟩ := h; exact h2

/-- The newest entry of a key. -/
def lk {α : Type} : List (Nat × α) → Nat → Option α
  | [], _ => none
  | (k, v) :: r, i => cond (Nat.beq k i) (some v) (lk r i)

theorem lk_cons {α : Type} (k : Nat) (v : α) (r : List (Nat × α)) (i : Nat) : lk ((k, v) :: r) i = if k = i then some v else lk r i := by
  by_cases h : k = i
  · subst h; simp [lk]
  · have h2 : Nat.beq k i = false := by
      cases hb : Nat.beq k i with
      | false => rfl
      | true => exact absurd (Nat.eq_of_beq_eq_true hb) h
    simp [lk, h2, h]

/-- The world as it was when the call began; the old blocks that it may write; what is never written. -/
structure Env where
  P : Program
  w0 : World
  M : Nat → Prop
  V0 : Vu

/-- Nothing that was there has turned, but for blocks of M. -/
structure ExtM (M : Nat → Prop) (w w' : World) : Prop where
  os : w'.os = w.os
  tape : w'.tape = w.tape
  output : w'.output = w.output
  size : w.heap.size ≤ w'.heap.size
  block : ∀ k, k < w.heap.size → ¬ M k → w'.heap[k]? = w.heap[k]?

theorem ExtM.refl (M : Nat → Prop) (w : World) : ExtM M w w := ⟨rfl, rfl, rfl, Nat.le_refl _, fun _ _ _ => rfl⟩
theorem ExtM.trans {M : Nat → Prop} {a b c : World} (h : ExtM M a b) (k : ExtM M b c) : ExtM M a c :=
  ⟨k.os.trans h.os, k.tape.trans h.tape, k.output.trans h.output, Nat.le_trans h.size k.size, fun i hi hM => (k.block i (Nat.lt_of_lt_of_le hi h.size) hM).trans (h.block i hi hM)⟩

def HB.rel (V : Vu) (w : World) : HB → Obj → Prop
  | .cells T xs, o => ∃ vs, o = .cells vs T (0, 0) ∧ rels V w xs vs
  | .obj o', o => o = o'
  | .loop s p tm nt ps assign body D, o => D < V.nx ∧ ∃ fn tmps, o = .loop { state := s, pending := p, fn := fn, tmps := tmps, params := ps, assign := assign, body := body, defers := V.ι D } ∧ tmps.size = nt ∧ ∀ t x, lk tm t = some x → x.rel V w (tmps.getD t undef)
  | .mp es clock, o => ∃ ents : Array MapEntry, o = .map ents clock ∧ ents.size = es.length ∧ ∀ (i : Nat) (k : Value) (x : AV) (b : Nat), es[i]? = some (k, x, b) → ∃ v, ents[i]? = some ⟨k, v, b⟩ ∧ x.rel V w v

theorem HB.rel.mono {V V' : Vu} {w w' : World} (hV : V.Le V' w w') {x : HB} {o : Obj} (h : x.rel V w o) : x.rel V' w' o := by
  cases x with
  | cells T xs => obtain ⟨vs, h1, h2⟩ := h; exact ⟨vs, h1, h2.mono hV⟩
  | obj o' => exact h
  | loop s p tm nt ps assign body D =>
    obtain ⟨hD, fn, tmps, h1, h2, h3⟩ := h
    exact ⟨Nat.lt_of_lt_of_le hD hV.nx, fn, tmps, by rw [hV.ι D hD]; exact h1, h2, fun t x hx => (h3 t x hx).mono hV⟩
  | mp es clock =>
    obtain ⟨ents, h1, h2, h3⟩ := h
    exact ⟨ents, h1, h2, fun i k x b hi => let ⟨v, h4, h5⟩ := h3 i k x b hi; ⟨v, h4, h5.mono hV⟩⟩

/-- What is known of memory. -/
structure HRel (E : Env) (V : Vu) (hp : List (Nat × HB)) (tk : List (Nat × Option Tok)) (w : World) : Prop where
  ext : ExtM E.M E.w0 w
  le0 : E.V0.Le V E.w0 w
  sz : ∀ b o, V.S b o → b < w.heap.size
  sub : ∀ b o, V.S b o → E.V0.S b o ∨ E.w0.heap.size ≤ b ∨ E.M b
  own : ∀ i B, lk hp i = some B → i < V.nx ∧ ∃ o, w.heap[V.ι i]? = some o ∧ B.rel V w o
  inj : ∀ i j A B, lk hp i = some A → lk hp j = some B → V.ι i = V.ι j → i = j
  new : ∀ i B, lk hp i = some B → (E.w0.heap.size ≤ V.ι i ∨ E.M (V.ι i)) ∧ ∀ o, ¬ V.S (V.ι i) o
  tok : ∀ i T, lk tk i = some (some T) → i < V.nx ∧ T.n = V.cu i ∧ ∃ xs, w.ownsRow 0 T.E T.sz (V.κ i T.n) T.n xs ∧ ∀ g, (V.κ i T.n).ownBlock = some g →
    (E.w0.heap.size ≤ g ∨ E.M g) ∧ (∀ o, V.S g o → o < T.n * T.sz) ∧ (∀ j B, lk hp j = some B → V.ι j ≠ g)
  tki : ∀ i j T U g, lk tk i = some (some T) → lk tk j = some (some U) → (V.κ i T.n).ownBlock = some g → (V.κ j U.n).ownBlock = some g → i = j

theorem heap_lt {w : World} {b : Nat} {o : Obj} (h : w.heap[b]? = some o) : b < w.heap.size := (Array.getElem?_eq_some_iff.1 h).1

abbrev ExtF := ExtM (fun _ => False)

theorem ExtM.cell {M : Nat → Prop} {w w' : World} (h : ExtM M w w') {b o : Nat} (hb : b < w.heap.size) (hM : ¬ M b) : w'.cell? ⟨b, o, none⟩ = w.cell? ⟨b, o, none⟩ :=
  World.cell?_of_block (w := w) (a := ⟨b, o, none⟩) (h.block b hb hM)

/-- The names grow, the world grows: what was known is known. -/
structure Vu.Grow (V V' : Vu) (w w' : World) : Prop where
  nx : V.nx ≤ V'.nx
  ι : ∀ i, i < V.nx → V'.ι i = V.ι i
  cu : ∀ i, i < V.nx → V'.cu i = V.cu i
  κ : ∀ i, i < V.nx → ∀ m, m ≤ V.cu i → V'.κ i m = V.κ i m
  S : ∀ b o, V.S b o → V'.S b o
  back : ∀ b o, V'.S b o → V.S b o ∨ w.heap.size ≤ b
  sz : ∀ b o, V'.S b o → b < w'.heap.size

theorem Vu.Le.trans {V V' V'' : Vu} {w w' w'' : World} (h : V.Le V' w w') (k : V'.Le V'' w' w'') : V.Le V'' w w'' :=
  ⟨Nat.le_trans h.nx k.nx, fun i hi => (k.ι i (Nat.lt_of_lt_of_le hi h.nx)).trans (h.ι i hi), fun i hi => Nat.le_trans (h.cu i hi) (k.cu i (Nat.lt_of_lt_of_le hi h.nx)), fun i hi m hm => (k.κ i (Nat.lt_of_lt_of_le hi h.nx) m (Nat.le_trans hm (h.cu i hi))).trans (h.κ i hi m hm),
   fun b o hs => k.S b o (h.S b o hs), fun b o hs => (k.cell b o (h.S b o hs)).trans (h.cell b o hs)⟩

section
variable {E : Env} {V V' : Vu} {hp : List (Nat × HB)} {tk : List (Nat × Option Tok)} {w w' : World}

theorem HRel.le (h : HRel E V hp tk w) (hx : ExtF w w') (hg : V.Grow V' w w') : V.Le V' w w' :=
  ⟨hg.nx, hg.ι, fun i hi => Nat.le_of_eq (hg.cu i hi).symm, hg.κ, hg.S, fun b o hs => hx.cell (h.sz b o hs) (fun h => h)⟩

theorem HRel.later (h : HRel E V hp tk w) (hx : ExtF w w') (hg : V.Grow V' w w') : HRel E V' hp tk w' := by
  have hle := h.le hx hg
  refine ⟨?_, h.le0.trans hle, hg.sz, ?_, ?_, ?_, ?_, ?_, ?_⟩
  · exact h.ext.trans ⟨hx.os, hx.tape, hx.output, hx.size, fun k hk _ => hx.block k hk (fun h => h)⟩
  · intro b o hs
    rcases hg.back b o hs with hs' | hb
    · exact h.sub b o hs'
    · exact .inr (.inl (Nat.le_trans h.ext.size hb))
  · intro i B hi
    obtain ⟨h1, o, ho, hB⟩ := h.own i B hi
    exact ⟨Nat.lt_of_lt_of_le h1 hg.nx, o, by rw [hg.ι i h1, hx.block _ (heap_lt ho) (fun h => h)]; exact ho, hB.mono hle⟩
  · intro i j A B hi hj e
    rw [hg.ι i (h.own i A hi).1, hg.ι j (h.own j B hj).1] at e
    exact h.inj i j A B hi hj e
  · intro i B hi
    have h1 := (h.own i B hi).1
    obtain ⟨o0, ho0, -⟩ := (h.own i B hi).2
    rw [hg.ι i h1]
    refine ⟨(h.new i B hi).1, fun o hs => ?_⟩
    rcases hg.back _ o hs with hs' | hb
    · exact (h.new i B hi).2 o hs'
    · have := heap_lt ho0; omega
  · intro i T hi
    obtain ⟨h1, hcu, xs, hown, hg2⟩ := h.tok i T hi
    rw [hg.κ i h1 _ (Nat.le_of_eq hcu)]
    have hlt := hown.lt
    refine ⟨Nat.lt_of_lt_of_le h1 hg.nx, hcu.trans (hg.cu i h1).symm, xs, ?_, fun g hgb => ?_⟩
    · exact hown.kept (row := none) ⟨hx.os, hx.tape, hx.output, hx.size, fun k hk _ => hx.block k hk (fun h => h)⟩ (by cases (V.κ i T.n).ownBlock <;> simp)
    · obtain ⟨a1, a2, a3⟩ := hg2 g hgb
      have hgl := (hlt g hgb).2
      refine ⟨a1, fun o hs => ?_, fun j B hj => ?_⟩
      · rcases hg.back g o hs with hs' | hb
        · exact a2 o hs'
        · omega
      · rw [hg.ι j (h.own j B hj).1]; exact a3 j B hj
  · intro i j T U g hi hj ei ej
    rw [hg.κ i (h.tok i T hi).1 _ (Nat.le_of_eq (h.tok i T hi).2.1)] at ei
    rw [hg.κ j (h.tok j U hj).1 _ (Nat.le_of_eq (h.tok j U hj).2.1)] at ej
    exact h.tki i j T U g hi hj ei ej

/-- A new block of the call's own, under the next name. -/
def Vu.add (V : Vu) (g : Nat) : Vu := { V with nx := V.nx + 1, ι := fun i => if i = V.nx then g else V.ι i }

theorem Vu.add_grow (V : Vu) (g : Nat) (hsz : ∀ b o, V.S b o → b < w.heap.size) (hx : ExtF w w') : V.Grow (V.add g) w w' :=
  ⟨Nat.le_succ _, fun i hi => by show (if i = V.nx then g else V.ι i) = _; rw [if_neg (by omega)], fun _ _ => rfl, fun _ _ _ _ => rfl, fun _ _ h => h, fun _ _ h => .inl h, fun b o h => Nat.lt_of_lt_of_le (hsz b o h) hx.size⟩

theorem Vu.add_at (V : Vu) (g : Nat) : (V.add g).ι V.nx = g := by show (if V.nx = V.nx then g else _) = g; rw [if_pos rfl]

/-- The block laid at the heap's end, known under the next name. -/
theorem HRel.addOwn (h : HRel E V hp tk w) (o : Obj) (B : HB) (hB : B.rel (V.add w.heap.size) (w.alloc o) o) :
    HRel E (V.add w.heap.size) ((V.nx, B) :: hp) tk (w.alloc o) := by
  have hx : ExtF w (w.alloc o) := ⟨rfl, rfl, rfl, by simp, fun k hk _ => Below.heap_alloc w o k hk⟩
  have H := h.later hx (V.add_grow w.heap.size h.sz hx)
  have hsize : ∀ i A, lk hp i = some A → (V.add w.heap.size).ι i < w.heap.size := fun i A hi => by
    obtain ⟨h1, o1, ho1, -⟩ := h.own i A hi
    rw [(V.add_grow w.heap.size h.sz hx).ι i h1]
    exact heap_lt ho1
  have hnx : ∀ i A, lk hp i = some A → i ≠ V.nx := fun i A hi => by have := (h.own i A hi).1; omega
  refine ⟨H.ext, H.le0, H.sz, H.sub, ?_, ?_, ?_, ?_, H.tki⟩
  · intro i A hi
    rw [lk_cons] at hi
    split at hi
    · rename_i e; subst e; cases hi
      exact ⟨Nat.lt_succ_self _, o, by rw [V.add_at]; exact heap_alloc_new w o, hB⟩
    · exact H.own i A hi
  · intro i j A A' hi hj e
    rw [lk_cons] at hi hj
    split at hi
    · rename_i e1; subst e1
      split at hj
      · assumption
      · rw [V.add_at] at e
        have := hsize j A' hj
        omega
    · split at hj
      · rename_i e2; subst e2
        rw [V.add_at] at e
        have := hsize i A hi
        omega
      · exact H.inj i j A A' hi hj e
  · intro i A hi
    rw [lk_cons] at hi
    split at hi
    · rename_i e; subst e
      rw [V.add_at]
      exact ⟨.inl h.ext.size, fun o' hs => by have := h.sz _ _ hs; omega⟩
    · exact H.new i A hi
  · intro i T hi
    obtain ⟨h1, hcu, xs, hown, hg⟩ := H.tok i T hi
    refine ⟨h1, hcu, xs, hown, fun g hgb => ⟨(hg g hgb).1, (hg g hgb).2.1, fun j A hj => ?_⟩⟩
    rw [lk_cons] at hj
    split at hj
    · rename_i e; subst e
      rw [V.add_at]
      obtain ⟨h1', hcu', xs', hown', -⟩ := h.tok i T hi
      have hk := (V.add_grow w.heap.size h.sz hx).κ i h1' _ (Nat.le_of_eq hcu')
      rw [hk] at hgb
      have := (hown'.lt g hgb).2
      omega
    · exact (hg g hgb).2.2 j A hj

theorem setCell_block {w : World} {g : Nat} {vs : Array Value} {T : TypeId} (h : w.heap[g]? = some (.cells vs T (0, 0))) (off : Nat) (u : Value) :
    (w.setCell ⟨g, off, none⟩ u).heap[g]? = some (.cells (vs.setIfInBounds off u) T (0, 0)) := by
  simp [World.setCell, Array.getElem?_modify, h]

theorem cell_of_own {w : World} {g : Nat} {vs : Array Value} {T : TypeId} (h : w.heap[g]? = some (.cells vs T (0, 0))) (off : Nat) : w.cell? ⟨g, off, none⟩ = vs[off]? := by
  simp [World.cell?, h]

theorem free_of_own {w : World} {g : Nat} {vs : Array Value} {T : TypeId} (h : w.heap[g]? = some (.cells vs T (0, 0))) (off : Nat) : w.frozen? ⟨g, off, none⟩ = false := by
  simp [World.frozen?, h]

/-- A store into one of the call's own cells. -/
theorem HRel.store (h : HRel E V hp tk w) {i : Nat} {T : TypeId} {xs : List CA} (hi : lk hp i = some (.cells T xs)) (off : Nat) {x : CA} {u : Value} (hu : x.rel V w u) :
    HRel E V ((i, .cells T (xs.set off x)) :: hp) tk (w.setCell ⟨V.ι i, off, none⟩ u) ∧ V.Le V w (w.setCell ⟨V.ι i, off, none⟩ u) := by
  obtain ⟨hnx, o, ho, vs, rfl, hvs⟩ := h.own i _ hi
  have hne : ∀ k, k ≠ V.ι i → (w.setCell ⟨V.ι i, off, none⟩ u).heap[k]? = w.heap[k]? := fun k hk => Below.heap_setCell w ⟨V.ι i, off, none⟩ u k hk
  have hsz : (w.setCell ⟨V.ι i, off, none⟩ u).heap.size = w.heap.size := by simp [World.setCell]
  have hle : V.Le V w (w.setCell ⟨V.ι i, off, none⟩ u) :=
    ⟨Nat.le_refl _, fun _ _ => rfl, fun _ _ => Nat.le_refl _, fun _ _ _ _ => rfl, fun _ _ h => h, fun b o' hs => World.cell?_of_block (w := w) (a := ⟨b, o', none⟩) (hne b fun e => (h.new i _ hi).2 o' (by rw [← e]; exact hs))⟩
  refine ⟨⟨?_, h.le0.trans hle, fun b o' hs => by rw [hsz]; exact h.sz b o' hs, h.sub, ?_, ?_, ?_, ?_, h.tki⟩, hle⟩
  · refine ⟨h.ext.os, h.ext.tape, h.ext.output, by rw [hsz]; exact h.ext.size, fun k hk hM => (hne k fun e => ?_).trans (h.ext.block k hk hM)⟩
    rcases (h.new i _ hi).1 with h1 | h1
    · omega
    · rw [← e] at h1; exact hM h1
  · intro j B hj
    rw [lk_cons] at hj
    split at hj
    · rename_i e; subst e; cases hj
      exact ⟨hnx, _, setCell_block ho off u, _, rfl, (hvs.mono hle).set (hu.mono hle)⟩
    · rename_i e
      obtain ⟨h1, o1, ho1, hB⟩ := h.own j B hj
      exact ⟨h1, o1, by rw [hne _ fun e' => e (h.inj j i _ _ hj hi e').symm]; exact ho1, hB.mono hle⟩
  · intro j k A B hj hk e
    rw [lk_cons] at hj hk
    split at hj <;> split at hk
    · rename_i e1 e2; exact e1.symm.trans e2
    · rename_i e1 e2; subst e1; exact h.inj _ _ _ _ hi hk e
    · rename_i e1 e2; subst e2; exact h.inj _ _ _ _ hj hi e
    · exact h.inj _ _ _ _ hj hk e
  · intro j B hj
    rw [lk_cons] at hj
    split at hj
    · rename_i e; subst e; exact h.new _ _ hi
    · exact h.new _ _ hj
  · intro j T' hj
    obtain ⟨h1, hcu, xs', hown, hg⟩ := h.tok j T' hj
    refine ⟨h1, hcu, xs', hown.kept (row := some (V.ι i)) ⟨rfl, rfl, rfl, by rw [hsz]; exact Nat.le_refl _, fun k _ hk => hne k fun e => hk (by rw [e])⟩ ?_, fun g hgb => ⟨(hg g hgb).1, (hg g hgb).2.1, fun k B hk => ?_⟩⟩
    · cases hb : (V.κ j T'.n).ownBlock with
      | none => exact .inl rfl
      | some g => exact .inr fun e => (hg g hb).2.2 i _ hi (by cases e; rfl)
    · rw [lk_cons] at hk
      split at hk
      · rename_i e; subst e; exact (hg g hgb).2.2 _ _ hi
      · exact (hg g hgb).2.2 _ _ hk
end
end

section
open Go.RowKit
set_option linter.unusedSimpArgs false
set_option linter.unusedVariables false
set_option linter.unusedSectionVars false

def FR (ro : Option Nat) : Fence := { Fence.wide with round := ro }

/-- The marks of ranges over functions. -/
def dfRel (V : Vu) (df : List Nat) (ds : List Deferred) : Prop := (∀ i ∈ df, i < V.nx) ∧ ds = df.map fun i => { target := .collected (V.ι i), args := #[] }
theorem dfRel.le {V V' : Vu} {w w' : World} {df : List Nat} {ds : List Deferred} (h : dfRel V df ds) (hV : V.Le V' w w') : dfRel V' df ds :=
  ⟨fun i hi => Nat.lt_of_lt_of_le (h.1 i hi) hV.nx, by rw [h.2]; exact List.map_congr_left fun i hi => by rw [hV.ι i (h.1 i hi)]⟩
theorem dfRel.nil {V : Vu} : dfRel V [] [] := ⟨(fun i hi => by cases hi), rfl⟩
theorem dfRel.trim {V : Vu} {df : List Nat} {ds : List Deferred} {m : Nat} (h : dfRel V df ds) (hm : ∀ i ∈ df, i < m) : dfRel { V with nx := m } df ds := ⟨hm, h.2⟩

/-- What is known of a frame and of memory. -/
structure Rel (E : Env) (V : Vu) (st : St) (a : Act) (w : World) : Prop where
  h : HRel E V st.hp st.tk w
  nx : V.nx = st.nx
  nt : a.tmps.size = st.nt
  df : dfRel V st.df a.defers
  tm : ∀ t x, lk st.tm t = some x → x.rel V w (a.tmps.getD t undef)

def XC (E : Env) (ro : Option Nat) (n : Nat) (Q : Exit → Act → World → Prop) (c : Code) (st : St) : Prop := ∀ V a w, Rel E V st a w → c.wpIn (FR ro) n E.P Q a w
def XL (E : Env) (ro : Option Nat) (n : Nat) (ops : Array Oper) (Q : Exit → Act → World → Prop) (rest : List Oper) (st : St) : Prop := ∀ V a w, Rel E V st a w → wpListIn (FR ro) n E.P ops Q rest a w
def XQ (E : Env) (Q : Exit → Act → World → Prop) (e : Exit) (st : St) : Prop := ∀ V a w, Rel E V st a w → Q e a w
def XO (E : Env) (o : Oper) (st st' : St) : Prop := ∀ V a w, Rel E V st a w → ∀ (ro : Option Nat) (n : Nat) (K : Act → World → Prop) (Q : Exit → Act → World → Prop), (∀ V' a' w', Rel E V' st' a' w' → K a' w') → o.wpIn (FR ro) n E.P a w K Q
/-- A reader: it leaves the world alone. -/
def RO (E : Env) (o : Oper) (st : St) (x : TV) : Prop := (∀ c, o.op ≠ .defer c) ∧ ∀ V a w, Rel E V st a w → ∃ v, (execOp a.eval o).run E.P w = .ok (.value v) w ∧ x.rel V w v

def ST.put (st : St) (d : Nat) (x : TV) : St := { st with tm := (d, x) :: st.tm }

abbrev TVv (v : Value) : TV := .v (.one (.d (.v v)))
abbrev TI (n : Int) : TV := TVv (.int .i64 n)
abbrev TB (b : Bool) : TV := TVv (.bool b)

section
variable {E : Env} {V : Vu} {st : St} {a : Act} {w : World}

theorem getD_put {tmps : Array Value} {d t : Nat} {v : Value} (hd : d < tmps.size) : (tmps.setIfInBounds d v).getD t undef = if d = t then v else tmps.getD t undef := by
  by_cases h : d = t
  · subst h; simp [Array.getD, hd]
  · simp [Array.getElem?_setIfInBounds, h]

theorem Rel.put (h : Rel E V st a w) {d : Nat} {x : TV} {v : Value} (hd : d < st.nt) (hx : x.rel V w v) : Rel E V (ST.put st d x) (a.put (some d) v) w := by
  refine ⟨h.h, h.nx, by simp [Act.put, ST.put, h.nt], h.df, fun t y hy => ?_⟩
  simp only [ST.put, lk_cons] at hy
  simp only [Act.put]
  rw [getD_put (by rw [h.nt]; exact hd)]
  split at hy
  · rename_i e; rw [if_pos e]; cases hy; exact hx
  · rename_i e; rw [if_neg e]; exact h.tm t y hy

theorem Rel.unk (h : Rel E V st a w) (d : Nat) (v : Value) : Rel E V (ST.put st d .unk) (a.put (some d) v) w := by
  refine ⟨h.h, h.nx, by simp [Act.put, ST.put, h.nt], h.df, fun t y hy => ?_⟩
  simp only [ST.put, lk_cons] at hy
  split at hy
  · cases hy; trivial
  · rename_i e
    have := h.tm t y hy
    simp only [Act.put]
    by_cases hd : d < a.tmps.size
    · rw [getD_put hd, if_neg e]; exact this
    · rw [Array.setIfInBounds_eq_of_size_le (by omega)]; exact this

theorem Rel.und (h : Rel E V st a w) (d : Nat) : Rel E V (ST.put st d (.tup [])) (a.put (some d) undef) w := by
  refine ⟨h.h, h.nx, by simp [Act.put, ST.put, h.nt], h.df, fun t y hy => ?_⟩
  simp only [ST.put, lk_cons] at hy
  simp only [Act.put]
  by_cases hd : d < a.tmps.size
  · rw [getD_put hd]
    split at hy
    · rename_i e; rw [if_pos e]; cases hy; exact ⟨#[], rfl, rfl, fun i x hx => by simp at hx⟩
    · rename_i e; rw [if_neg e]; exact h.tm t y hy
  · rw [Array.setIfInBounds_eq_of_size_le (by omega)]
    split at hy
    · rename_i e; subst e; cases hy
      refine ⟨#[], ?_, rfl, fun i x hx => by simp at hx⟩
      simp [Array.getElem?_eq_none (Nat.le_of_not_lt hd), undef]
    · exact h.tm t y hy

theorem yielded_und (h : Rel E V st a w) {ops : Array Oper} {j d : Nat} (hj : (ops[j]?).bind (·.dst) = some d) (hb : lk st.tm d = some (.tup [])) : yielded ops a.tmps j = none := by
  obtain ⟨vs, h1, -⟩ := h.tm d _ hb
  rcases Nat.lt_or_ge d a.tmps.size with h2 | h2
  · have h3 : a.tmps[d]? = some (.tuple vs) := by
      rw [Array.getElem?_eq_getElem h2]
      simpa [h2] using h1
    simp [yielded, hj, h3]
  · simp [yielded, hj, Array.getElem?_eq_none h2]

def ev (tm : List (Nat × TV)) : Operand → Option TV
  | .tmp t => lk tm t
  | .const v => cond v.oneCell' (some (TVv v)) none
  | .func f => some (.v (.one (.fn f [])))
  | .global _ => none

theorem Rel.ev (h : Rel E V st a w) {o : Operand} {x : TV} (he : ev st.tm o = some x) : x.rel V w (a.eval o) := by
  cases o with
  | tmp t => exact h.tm t x he
  | const v =>
    simp only [Proofs.YtcapifnaceegmaaGreatDoor.ev] at he
    cases hv : v.oneCell' with
    | false => rw [hv] at he; cases he
    | true => rw [hv] at he; cases he; exact Reads.v v hv
  | func f => cases he; exact ⟨(fun p hp => nomatch hp), rfl⟩
  | global g => cases he

theorem val_of {V : Vu} {w : World} {y u : Value} (h : (TVv y).rel V w u) : u = y := by
  cases h; rfl

theorem rel_of {V : Vu} {w : World} {y : Value} (h : y.oneCell' = true) : (TVv y).rel V w y := Reads.v y h

/-- the guard of an operation has been decided -/
theorem yielded_of (h : Rel E V st a w) {ops : Array Oper} {j d : Nat} {b : Bool} (hj : (ops[j]?).bind (·.dst) = some d) (hb : lk st.tm d = some (TB b)) : yielded ops a.tmps j = some b := by
  have h1 := val_of (h.tm d _ hb)
  have hlt : d < a.tmps.size := by
    rcases Nat.lt_or_ge d a.tmps.size with h2 | h2
    · exact h2
    · simp [Array.getElem?_eq_none h2, undef] at h1
  have h2 : a.tmps[d]? = some (.bool b) := by
    rw [Array.getElem?_eq_getElem hlt]
    simpa [hlt] using h1
  simp [yielded, hj, h2]
end

section
variable {E : Env} {ro : Option Nat} {n : Nat} {ops : Array Oper} {Q : Exit → Act → World → Prop} {rest : List Oper} {st st' : St} {o : Oper}

theorem XO.of_ro {d : Nat} {x : TV} (hdst : o.dst = some d) (hd : d < st.nt) (h : RO E o st x) : XO E o st (ST.put st d x) := by
  intro V a w hr ro n K Q hK
  obtain ⟨v, hrun, hx⟩ := h.2 V a w hr
  refine ⟨fun _ _ => trivial, ?_⟩
  rw [Oper.semAt_eq _ _ _ h.1, hrun]
  show K (a.put o.dst v) w
  rw [hdst]
  exact hK V _ w (hr.put hd hx)

theorem XL.op (hg : o.guard = none) (ho : XO E o st st') (k : XL E ro n ops Q rest st') : XL E ro n ops Q (o :: rest) st := by
  intro V a w h
  unfold wpListIn
  rw [if_pos (by simp [Region.wanted, hg])]
  exact ho V a w h ro n _ Q k

theorem XL.on {j d : Nat} {b : Bool} (hg : o.guard = some (j, b)) (hj : (ops[j]?).bind (·.dst) = some d) (hb : lk st.tm d = some (TB b)) (ho : XO E o st st') (k : XL E ro n ops Q rest st') : XL E ro n ops Q (o :: rest) st := by
  intro V a w h
  unfold wpListIn
  rw [if_pos (by simp [Region.wanted, hg, yielded_of h hj hb])]
  exact ho V a w h ro n _ Q k

theorem XL.offB {j d t : Nat} {b : Bool} (hg : o.guard = some (j, b)) (hj : (ops[j]?).bind (·.dst) = some d) (hb : lk st.tm d = some (TB (!b))) (hdst : o.dst = some t) (k : XL E ro n ops Q rest (ST.put st t (.tup []))) : XL E ro n ops Q (o :: rest) st := by
  intro V a w h
  unfold wpListIn
  rw [if_neg (by simp [Region.wanted, hg, yielded_of h hj hb])]
  refine ⟨fun _ _ => trivial, ?_⟩
  rw [hdst]
  exact k V _ w (h.und t)

theorem XL.offU {j d t : Nat} {b : Bool} (hg : o.guard = some (j, b)) (hj : (ops[j]?).bind (·.dst) = some d) (hb : lk st.tm d = some (.tup [])) (hdst : o.dst = some t) (k : XL E ro n ops Q rest (ST.put st t (.tup []))) : XL E ro n ops Q (o :: rest) st := by
  intro V a w h
  unfold wpListIn
  rw [if_neg (by simp [Region.wanted, hg, yielded_und h hj hb])]
  refine ⟨fun _ _ => trivial, ?_⟩
  rw [hdst]
  exact k V _ w (h.und t)

theorem XL.case {d : Nat} {c : Bool} (hb : lk st.tm d = some (TB c)) (ht : c = true → XL E ro n ops Q rest (ST.put st d (TB true))) (hf : c = false → XL E ro n ops Q rest (ST.put st d (TB false))) : XL E ro n ops Q rest st := by
  intro V a w h
  have key : ∀ b, c = b → Rel E V (ST.put st d (TB b)) a w := fun b e => by
    subst e
    refine ⟨h.h, h.nx, h.nt, h.df, fun t y hy => ?_⟩
    simp only [ST.put, lk_cons] at hy
    split at hy
    · rename_i e; subst e; cases hy; exact h.tm _ _ hb
    · exact h.tm t y hy
  cases hc : c with
  | true => exact ht hc V a w (key true hc)
  | false => exact hf hc V a w (key false hc)

theorem XL.nil (k : XQ E Q .normal st) : XL E ro n ops Q [] st := k

theorem XC.region {id : Nat} {l : List Oper} (h : XL E ro n l.toArray Q l st) : XC E ro n Q (.region id l.toArray false) st := fun V a w hr => wpIn_region_lit (h V a w hr)
theorem XC.seq {x y : Code} (h : XC E ro n (Exit.then (y.wpIn (FR ro) n E.P Q) Q) x st) : XC E ro n Q (.seq x y) st := fun V a w hr => wpIn_seq (h V a w hr)
theorem XQ.seq {y : Code} (h : XC E ro n Q y st) : XQ E (Exit.then (y.wpIn (FR ro) n E.P Q) Q) .normal st := h
theorem XQ.inBlock {id : Nat} (h : XQ E Q .normal st) : XQ E (Exit.inBlock id Q) .normal st := h
theorem XQ.blockX {id : Nat} (h : XQ E Q .normal st) : XQ E (Exit.inBlock id Q) (.exit id) st := fun V a w hr => by
  show (if id = id then Q .normal a w else Q (.exit id) a w)
  rw [if_pos rfl]; exact h V a w hr
theorem XQ.blockE {id id' : Nat} (hne : id' ≠ id) (h : XQ E Q (.exit id') st) : XQ E (Exit.inBlock id Q) (.exit id') st := fun V a w hr => by
  show (if id' = id then Q .normal a w else Q (.exit id') a w)
  rw [if_neg hne]; exact h V a w hr
theorem XQ.thenE {id : Nat} {K : Act → World → Prop} (h : XQ E Q (.exit id) st) : XQ E (Exit.then K Q) (.exit id) st := h
theorem XC.block {id : Nat} {c : Code} (h : XC E ro n (Exit.inBlock id Q) c st) : XC E ro n Q (.block id c) st := fun V a w hr => wpIn_block (h V a w hr)
theorem XC.skip (h : XQ E Q .normal st) : XC E ro n Q .skip st := fun V a w hr => wpIn_skip (h V a w hr)
theorem XC.ret (h : XQ E Q .ret st) : XC E ro n Q .ret st := fun V a w hr => wpIn_ret (h V a w hr)
theorem XC.exit {id : Nat} (h : XQ E Q (.exit id) st) : XC E ro n Q (.exit id) st := fun V a w hr => wpIn_exit (h V a w hr)
theorem XC.cond {c : Operand} {x y : Code} {b : Bool} (hc : ev st.tm c = some (TB b)) (ht : b = true → XC E ro n Q x st) (hf : b = false → XC E ro n Q y st) : XC E ro n Q (.cond c x y) st :=
  fun V a w hr => wpIn_cond_split (val_of (hr.ev hc)) (fun e => ht e V a w hr) (fun e => hf e V a w hr)
end
end

section
open Go.RowKit
set_option linter.unusedSimpArgs false
set_option linter.unusedVariables false
set_option linter.unusedSectionVars false

/-- The offset of a field, where it is of a size. -/
def fieldOff (P : Program) (s f : Nat) : Option Nat :=
  match P.underlying s with
  | some (.struct fs) => match fs[f]? with
    | some fd => match P.info? fd.type with
      | some i => if i.size = 0 then none else some fd.offset
      | none => none
    | none => none
  | _ => none

/-- Is it an aggregate, and of how many cells? -/
def tyAgg (P : Program) (t : TypeId) : Option (Bool × Nat) :=
  match P.underlying t, P.info? t with
  | some (.struct _), some i => some (true, i.size)
  | some (.array _ _), some i => some (true, i.size)
  | some _, some i => some (false, i.size)
  | _, _ => none

/-- The element type of a slice and its size. -/
def tySlice (P : Program) (t : TypeId) : Option (TypeId × Nat) :=
  match P.underlying t with
  | some (.slice e) => match P.info? e with
    | some i => some (e, i.size)
    | none => none
  | _ => none

theorem tySlice_spec {P : Program} {t e sz : Nat} (h : tySlice P t = some (e, sz)) : P.underlying t = some (.slice e) ∧ ∃ i, P.info? e = some i ∧ i.size = sz := by
  unfold tySlice at h
  split at h
  · rename_i e' he
    split at h
    · rename_i i hi; cases h; exact ⟨he, i, hi, rfl⟩
    · cases h
  · cases h

section
variable {E : Env} {st : St} {d : Option Tmp} {ty : TypeId} {pos : String} {af : Array Edge} {g : Option (Nat × Bool)}

theorem RO.move {x : Operand} {v : TV} (h : ev st.tm x = some v) : RO E ⟨d, .move x, ty, pos, af, g⟩ st v :=
  ⟨(fun _ h => nomatch h), fun V a w hr => ⟨a.eval x, by simp [execOp], hr.ev h⟩⟩
theorem RO.assign {x : Operand} {v : TV} (h : ev st.tm x = some v) : RO E ⟨d, .assign x, ty, pos, af, g⟩ st v :=
  ⟨(fun _ h => nomatch h), fun V a w hr => ⟨a.eval x, by simp [execOp], hr.ev h⟩⟩
theorem RO.pickT {c x y : Operand} {v : TV} (hc : ev st.tm c = some (TB true)) (h : ev st.tm x = some v) : RO E ⟨d, .pick c x y, ty, pos, af, g⟩ st v :=
  ⟨(fun _ h => nomatch h), fun V a w hr => ⟨a.eval x, by simp [execOp, val_of (hr.ev hc), asBool], hr.ev h⟩⟩
theorem RO.pickF {c x y : Operand} {v : TV} (hc : ev st.tm c = some (TB false)) (h : ev st.tm y = some v) : RO E ⟨d, .pick c x y, ty, pos, af, g⟩ st v :=
  ⟨(fun _ h => nomatch h), fun V a w hr => ⟨a.eval y, by simp [execOp, val_of (hr.ev hc), asBool], hr.ev h⟩⟩

def cmpB : BinOp → Int → Int → Option Bool
  | .eql, m, n => some (m == n)
  | .neq, m, n => some (m != n)
  | .lss, m, n => some (decide (m < n))
  | .leq, m, n => some (decide (m ≤ n))
  | .gtr, m, n => some (decide (n < m))
  | .geq, m, n => some (decide (n ≤ m))
  | _, _, _ => none

theorem RO.cmp {op : BinOp} {t t' : TypeId} {x y : Operand} {k : IntKind} {m n : Int} {b : Bool} (hx : ev st.tm x = some (TVv (.int k m))) (hy : ev st.tm y = some (TVv (.int k n))) (hb : cmpB op m n = some b) :
    RO E ⟨d, .binOp op t x y t', ty, pos, af, g⟩ st (TB b) := by
  refine ⟨(fun _ h => nomatch h), fun V a w hr => ⟨.bool b, ?_, rel_of rfl⟩⟩
  have h1 := val_of (hr.ev hx)
  have h2 := val_of (hr.ev hy)
  cases op <;> simp [cmpB] at hb <;> subst hb <;> simp [execOp, eqGuard, binOp, Op.intCmp, h1, h2]

theorem RO.not {t : TypeId} {x : Operand} {b : Bool} (hx : ev st.tm x = some (TB b)) : RO E ⟨d, .unOp .not t x, ty, pos, af, g⟩ st (TB (!b)) :=
  ⟨(fun _ h => nomatch h), fun V a w hr => ⟨.bool (!b), by simp [execOp, Op.unary, val_of (hr.ev hx)], rel_of rfl⟩⟩

def aritI : BinOp → Int → Int → Option Int
  | .add, m, n => some (m + n)
  | .sub, m, n => some (m - n)
  | .mul, m, n => some (m * n)
  | _, _, _ => none

theorem RO.arith {op : BinOp} {t t' : TypeId} {x y : Operand} {m n r : Int} (hx : ev st.tm x = some (TI m)) (hy : ev st.tm y = some (TI n)) (hb : aritI op m n = some r)
    (h1 : -9223372036854775808 ≤ r) (h2 : r ≤ 9223372036854775807) : RO E ⟨d, .binOp op t x y t', ty, pos, af, g⟩ st (TI r) := by
  refine ⟨(fun _ h => nomatch h), fun V a w hr => ⟨.int .i64 r, ?_, rel_of rfl⟩⟩
  have e1 := val_of (hr.ev hx)
  have e2 := val_of (hr.ev hy)
  have e3 : IntKind.i64.wrap r = r := IntWalk.i64_in _ (by omega)
  cases op <;> simp only [aritI, Option.some.injEq, reduceCtorEq] at hb <;> subst hb <;> simp [execOp, eqGuard, binOp, Op.intArith, e1, e2, e3]

theorem RO.neg {t : TypeId} {x : Operand} {m : Int} (hx : ev st.tm x = some (TI m)) (h1 : -9223372036854775807 ≤ m) (h2 : m ≤ 9223372036854775808) : RO E ⟨d, .unOp .neg t x, ty, pos, af, g⟩ st (TI (0 - m)) := by
  refine ⟨(fun _ h => nomatch h), fun V a w hr => ⟨.int .i64 (0 - m), ?_, rel_of rfl⟩⟩
  have e3 : IntKind.i64.wrap (0 - m) = 0 - m := IntWalk.i64_in _ (by omega)
  simp only [execOp, Op.unary, Op.intArith, val_of (hr.ev hx), e3]; rfl

theorem fieldOff_spec {P : Program} {s f k : Nat} (h : fieldOff P s f = some k) : ∃ fs fd i, P.underlying s = some (.struct fs) ∧ fs[f]? = some fd ∧ P.info? fd.type = some i ∧ i.size ≠ 0 ∧ fd.offset = k := by
  unfold fieldOff at h
  split at h
  · rename_i fs hfs
    split at h
    · rename_i fd hfd
      split at h
      · rename_i i hi
        split at h
        · cases h
        · rename_i hn; cases h; exact ⟨fs, fd, i, hfs, hfd, hi, hn, rfl⟩
      · cases h
    · cases h
  · cases h

theorem addr_add (b o k : Nat) : (⟨b, o, none⟩ : Addr).add k = ⟨b, o + k, none⟩ := by unfold Addr.add; split <;> simp_all

theorem run_fieldAt {P : Program} {s f k b o : Nat} (h : fieldOff P s f = some k) (w : World) : (Instr.fieldAt s (.pointer (some ⟨b, o, none⟩)) f).run P w = .ok (.pointer (some ⟨b, o + k, none⟩)) w := by
  obtain ⟨fs, fd, i, h1, h2, h3, h4, rfl⟩ := fieldOff_spec h
  simp [Instr.fieldAt, run_underlying h1, h2, Instr.sureAddr, fieldPlace, sizeOf, typeInfo, h3, h4, addr_add]

theorem RO.fieldOwn {s f k i off : Nat} {x : Operand} (hk : fieldOff E.P s f = some k) (hx : ev st.tm x = some (.v (.one (.ptr i off)))) : RO E ⟨d, .fieldAddr s x f, ty, pos, af, g⟩ st (.v (.one (.ptr i (off + k)))) := by
  refine ⟨(fun _ h => nomatch h), fun V a w hr => ?_⟩
  have h1 := hr.ev hx
  exact ⟨_, by simp only [execOp, h1.2, Sem.run_bind, run_fieldAt hk]; rfl, h1.1, rfl⟩

theorem RO.fieldPel {s f k off : Nat} {e : List C} {x : Operand} (hk : fieldOff E.P s f = some k) (hx : ev st.tm x = some (.v (.one (.pel e off)))) : RO E ⟨d, .fieldAddr s x f, ty, pos, af, g⟩ st (.v (.one (.pel e (off + k)))) := by
  refine ⟨(fun _ h => nomatch h), fun V a w hr => ?_⟩
  obtain ⟨b, o, f', h1, h2⟩ := hr.ev hx
  exact ⟨_, by simp only [execOp, h1, Sem.run_bind, run_fieldAt hk]; rfl, b, o, f', by rw [Nat.add_assoc], h2⟩

theorem tyAgg_spec {P : Program} {t n : Nat} {ag : Bool} (h : tyAgg P t = some (ag, n)) (w : World) : (isAgg t).run P w = .ok ag w ∧ (sizeOf t).run P w = .ok n w := by
  unfold tyAgg at h
  split at h
  · rename_i hu hi; cases h; exact ⟨by simp [isAgg, run_underlying hu], by simp [sizeOf, typeInfo, hi]⟩
  · rename_i hu hi; cases h; exact ⟨by simp [isAgg, run_underlying hu], by simp [sizeOf, typeInfo, hi]⟩
  · rename_i dsc i h1 h2 hu hi; cases h
    refine ⟨?_, by simp [sizeOf, typeInfo, hi]⟩
    cases dsc <;> simp [isAgg, run_underlying hu] <;> simp_all
  · cases h

theorem run_loadCellsFrom (P : Program) (w : World) (b o : Nat) (us : Nat → Value) : ∀ (n i : Nat) (acc : Array Value), (∀ j, i ≤ j → j < i + n → w.cell? ⟨b, o + j, none⟩ = some (us j)) →
    (loadCellsFrom ⟨b, o, none⟩ i n acc).run P w = .ok (acc ++ ((List.range' i n).map us).toArray) w
  | 0, i, acc, _ => by simp [loadCellsFrom]
  | n + 1, i, acc, h => by
    have h0 := h i (Nat.le_refl _) (by omega)
    have ih := run_loadCellsFrom P w b o us n (i + 1) (acc.push (us i)) (fun j h1 h2 => h j (by omega) (by omega))
    simp only [loadCellsFrom, Sem.run_bind, addr_add, load, Sem.run, h0, Result.andThen_ok, ih]
    simp [List.range'_succ]

theorem run_loadAgg {P : Program} {w : World} {t n b o : Nat} (us : Nat → Value) (ht : tyAgg P t = some (true, n)) (h : ∀ j, j < n → w.cell? ⟨b, o + j, none⟩ = some (us j)) :
    (Instr.loadAt t (.pointer (some ⟨b, o, none⟩))).run P w = .ok (.agg ((List.range' 0 n).map us).toArray) w := by
  obtain ⟨h1, h2⟩ := tyAgg_spec ht w
  have h3 := run_loadCellsFrom P w b o us n 0 #[] (fun j _ hj => h j (by omega))
  simp only [Array.empty_append] at h3
  simp [Instr.loadAt, Instr.sureAddr, loadVar, h1, h2, loadCells, h3]

theorem run_loadOne {P : Program} {w : World} {t n b o : Nat} {u : Value} (ht : tyAgg P t = some (false, n)) (h : w.cell? ⟨b, o, none⟩ = some u) :
    (Instr.loadAt t (.pointer (some ⟨b, o, none⟩))).run P w = .ok u w := by
  obtain ⟨h1, h2⟩ := tyAgg_spec ht w
  simp [Instr.loadAt, Instr.sureAddr, loadVar, h1, load, Sem.run, h]

/-- A load of one cell of the call's own. -/
theorem RO.loadOwn {t n i off : Nat} {T : TypeId} {xs : List CA} {x : Operand} {y : CA} (ht : tyAgg E.P t = some (false, n)) (hx : ev st.tm x = some (.v (.one (.ptr i off)))) (hi : lk st.hp i = some (.cells T xs)) (hy : xs[off]? = some y) :
    RO E ⟨d, .load t x, ty, pos, af, g⟩ st (.v (.one y)) := by
  refine ⟨(fun _ h => nomatch h), fun V a w hr => ?_⟩
  have h1 := hr.ev hx
  obtain ⟨-, o, ho, vs, rfl, hvs⟩ := hr.h.own i _ hi
  obtain ⟨u, hu, hyu⟩ := hvs.2 off y hy
  exact ⟨u, by simp only [execOp, h1.2, Sem.run_bind, run_loadOne ht ((cell_of_own ho off).trans hu)]; rfl, hyu⟩

/-- A load of an aggregate of the call's own. -/
theorem RO.loadOwnAgg {t n i off : Nat} {T : TypeId} {xs ys : List CA} {x : Operand} (ht : tyAgg E.P t = some (true, n)) (hx : ev st.tm x = some (.v (.one (.ptr i off)))) (hi : lk st.hp i = some (.cells T xs)) (hy : (xs.drop off).take n = ys) (hn : ys.length = n) :
    RO E ⟨d, .load t x, ty, pos, af, g⟩ st (.v (.agg ys)) := by
  refine ⟨(fun _ h => nomatch h), fun V a w hr => ?_⟩
  have h1 := hr.ev hx
  obtain ⟨-, o, ho, vs, rfl, hvs⟩ := hr.h.own i _ hi
  have hget : ∀ j, j < n → ys[j]? = xs[off + j]? := fun j hj => by subst hy; rw [List.getElem?_take_of_lt hj, List.getElem?_drop]
  have hxs : ∀ j, j < n → ∃ y, ys[j]? = some y ∧ xs[off + j]? = some y := fun j hj => by
    have : ys[j]? = some ys[j] := List.getElem?_eq_getElem (by omega)
    exact ⟨_, this, (hget j hj).symm.trans this⟩
  have hc : ∀ j, j < n → w.cell? ⟨V.ι i, off + j, none⟩ = some (vs.getD (off + j) undef) := fun j hj => by
    obtain ⟨y, -, h3⟩ := hxs j hj
    obtain ⟨u, hu, -⟩ := hvs.2 _ y h3
    rw [cell_of_own ho, hu]
    simp [hu]
  refine ⟨_, by simp only [execOp, h1.2, Sem.run_bind, run_loadAgg _ ht hc]; rfl, _, rfl, by simp [hn], fun j y hy' => ?_⟩
  have hj : j < n := by have := (List.getElem?_eq_some_iff.1 hy').1; omega
  obtain ⟨y', h2, h3⟩ := hxs j hj
  rw [hy'] at h2; cases h2
  obtain ⟨u, hu, hyu⟩ := hvs.2 _ y h3
  refine ⟨u, ?_, hyu⟩
  simp [hj, hu]

/-- A load of one cell of what is read. -/
theorem RO.loadPel {t n off : Nat} {e : List C} {x : Operand} {c : C} (ht : tyAgg E.P t = some (false, n)) (hx : ev st.tm x = some (.v (.one (.pel e off)))) (hc : e[off]? = some c) :
    RO E ⟨d, .load t x, ty, pos, af, g⟩ st (.v (.one (.d c))) := by
  refine ⟨(fun _ h => nomatch h), fun V a w hr => ?_⟩
  obtain ⟨b, o, f', h1, h2⟩ := hr.ev hx
  obtain ⟨h3, -, h4⟩ := h2 off c hc
  exact ⟨f' off, by simp only [execOp, h1, Sem.run_bind, run_loadOne ht h3]; rfl, h4⟩

theorem RO.loadPelAgg {t n off : Nat} {e cs : List C} {x : Operand} (ht : tyAgg E.P t = some (true, n)) (hx : ev st.tm x = some (.v (.one (.pel e off)))) (hy : (e.drop off).take n = cs) (hn : cs.length = n) :
    RO E ⟨d, .load t x, ty, pos, af, g⟩ st (.v (.agg (cs.map .d))) := by
  refine ⟨(fun _ h => nomatch h), fun V a w hr => ?_⟩
  obtain ⟨b, o, f', h1, h2⟩ := hr.ev hx
  have hxs : ∀ j, j < n → ∃ y, cs[j]? = some y ∧ e[off + j]? = some y := fun j hj => by
    have h0 : cs[j]? = e[off + j]? := by subst hy; rw [List.getElem?_take_of_lt hj, List.getElem?_drop]
    have : cs[j]? = some cs[j] := List.getElem?_eq_getElem (by omega)
    exact ⟨_, this, h0.symm.trans this⟩
  have hc : ∀ j, j < n → w.cell? ⟨b, o + off + j, none⟩ = some (f' (off + j)) := fun j hj => by
    obtain ⟨y, -, h3⟩ := hxs j hj
    rw [Nat.add_assoc]
    exact (h2 _ y h3).1
  refine ⟨_, by simp only [execOp, h1, Sem.run_bind, run_loadAgg _ ht hc]; rfl, _, rfl, by simp [hn], fun j y hy' => ?_⟩
  have hj : j < n := by have := (List.getElem?_eq_some_iff.1 hy').1; simp at this; omega
  obtain ⟨y', h3, h4⟩ := hxs j hj
  rw [List.getElem?_map, h3] at hy'
  cases hy'
  exact ⟨f' (off + j), by simp [hj], (h2 _ y' h4).2.2⟩

/-- What slices read as. -/
inductive SlOf : CA → Nat → List (List C) → Prop
  | d (sz : Nat) (es : List (List C)) : SlOf (.d (.sl sz es)) sz es
  | app (i sz : Nat) (es : List (List C)) : SlOf (.app i sz es) sz es
  | nil (sz : Nat) : SlOf (.d (.v (.slice none 0 0))) sz []

theorem SlOf.reads {V : Vu} {w : World} {x : CA} {sz : Nat} {es : List (List C)} (h : SlOf x sz es) {v : Value} (hv : x.rel V w v) : Reads V.S w (.sl sz es) v := by
  cases h with
  | d => exact hv
  | app => exact hv.2.2.2
  | nil =>
    cases hv
    exact .sl sz [] none 0 0 0 (fun _ _ => undef) (Nat.le_refl _) (fun h => absurd rfl h) (fun i e h => by simp at h) (fun i e j c h => by simp at h) (fun i e j c h => by simp at h) (fun i e j c h => by simp at h)

theorem RO.len {t : TypeId} {e sz : Nat} {x : Operand} {y : CA} {es : List (List C)} (ht : tySlice E.P t = some (e, sz)) (hx : ev st.tm x = some (.v (.one y))) (hs : SlOf y sz es) :
    RO E ⟨d, .call { callee := .builtin .len, args := #[x], argTypes := #[t] }, ty, pos, af, g⟩ st (TI es.length) := by
  refine ⟨(fun _ h => nomatch h), fun V a w hr => ⟨.int .i64 es.length, ?_, rel_of rfl⟩⟩
  have h1 := hs.reads (hr.ev hx)
  generalize hv : a.eval x = v at h1
  cases h1
  simp [execOp, resolve, invoke, builtin, Builtin.len_, hv, run_underlying (tySlice_spec ht).1, goInt]

theorem RO.index {t : TypeId} {e0 sz k : Nat} {x i : Operand} {y : CA} {es : List (List C)} {e : List C} {m : Int} (ht : tySlice E.P t = some (e0, sz)) (hx : ev st.tm x = some (.v (.one y))) (hs : SlOf y sz es)
    (hi : ev st.tm i = some (TI m)) (hm : m = (k : Int)) (he : es[k]? = some e) : RO E ⟨d, .indexAddr t x i, ty, pos, af, g⟩ st (.v (.one (.pel e 0))) := by
  refine ⟨(fun _ h => nomatch h), fun V a w hr => ?_⟩
  have h1 := hs.reads (hr.ev hx)
  have h2 := val_of (hr.ev hi)
  obtain ⟨hu, i0, hi0, hsz⟩ := tySlice_spec ht
  have hlt := (List.getElem?_eq_some_iff.1 he).1
  subst hm
  generalize hv : a.eval x = v at h1
  cases h1 with
  | sl _ _ aa cap b off f hcap ha hl hc hss hr' =>
    have := ha (fun e' => by subst e'; simp at he)
    subst this
    refine ⟨.pointer (some ⟨b, off + k * sz, none⟩), ?_, b, off + k * sz, f k, rfl, fun j c hj => ⟨hc k e j c he hj, hss k e j c he hj, hr' k e j c he hj⟩⟩
    simp only [execOp, hv, h2, Instr.indexAt, asIntOf, Sem.run_bind, Sem.run_pure, Result.andThen_ok, run_underlying hu, sizeOf, typeInfo]
    simp [hi0, hsz, addr_add, hlt, Sem.run, program]

theorem RO.extract {x : Operand} {k : Nat} {xs : List AV} {y : AV} (hx : ev st.tm x = some (.tup xs)) (hk : xs[k]? = some y) : RO E ⟨d, .extract x k, ty, pos, af, g⟩ st (.v y) := by
  refine ⟨(fun _ h => nomatch h), fun V a w hr => ?_⟩
  obtain ⟨vs, h1, h2, h3⟩ := hr.ev hx
  obtain ⟨u, hu, hyu⟩ := h3 k y hk
  exact ⟨u, by simp [execOp, h1, Instr.extract, hu], hyu⟩

theorem RO.max2 {x y : Operand} {t1 t2 : TypeId} {m n : Int} (hx : ev st.tm x = some (TI m)) (hy : ev st.tm y = some (TI n)) :
    RO E ⟨d, .call { callee := .builtin .max, args := #[x, y], argTypes := #[t1, t2] }, ty, pos, af, g⟩ st (TI (max m n)) := by
  refine ⟨(fun _ h => nomatch h), fun V a w hr => ⟨.int .i64 (max m n), ?_, rel_of rfl⟩⟩
  simp [execOp, resolve, invoke, builtin, Builtin.max_, Builtin.max2, val_of (hr.ev hx), val_of (hr.ev hy)]
  omega

theorem RO.min2 {x y : Operand} {t1 t2 : TypeId} {m n : Int} (hx : ev st.tm x = some (TI m)) (hy : ev st.tm y = some (TI n)) :
    RO E ⟨d, .call { callee := .builtin .min, args := #[x, y], argTypes := #[t1, t2] }, ty, pos, af, g⟩ st (TI (min m n)) := by
  refine ⟨(fun _ h => nomatch h), fun V a w hr => ⟨.int .i64 (min m n), ?_, rel_of rfl⟩⟩
  simp [execOp, resolve, invoke, builtin, Builtin.min_, Builtin.min2, val_of (hr.ev hx), val_of (hr.ev hy)]
  omega
end
end

section
open Go.RowKit
set_option linter.unusedSimpArgs false
set_option linter.unusedVariables false
set_option linter.unusedSectionVars false

def Vu.of (S : Nat → Nat → Prop) : Vu := ⟨0, fun _ => 0, fun _ _ => undef, fun _ => 0, S⟩

/-- What a cell may be taken for where it is only read. -/
inductive CSub : CA → C → Prop
  | d (c : C) : CSub (.d c) c
  | app (i sz : Nat) (es : List (List C)) : CSub (.app i sz es) (.sl sz es)
  | nil (sz : Nat) : CSub (.d (.v (.slice none 0 0))) (.sl sz [])

theorem CSub.reads {V : Vu} {w : World} {x : CA} {c : C} (h : CSub x c) {v : Value} (hv : x.rel V w v) : Reads V.S w c v := by
  cases h with
  | d => exact hv
  | app => exact hv.2.2.2
  | nil sz => exact (SlOf.nil sz).reads hv

inductive CSubs : List CA → List C → Prop
  | nil : CSubs [] []
  | cons {x : CA} {c : C} {xs : List CA} {cs : List C} (h : CSub x c) (t : CSubs xs cs) : CSubs (x :: xs) (c :: cs)

theorem CSubs.len {xs : List CA} {cs : List C} (h : CSubs xs cs) : xs.length = cs.length := by
  induction h with
  | nil => rfl
  | cons _ _ ih => simp [ih]

theorem CSubs.get {xs : List CA} {cs : List C} (h : CSubs xs cs) : ∀ (i : Nat) (c : C), cs[i]? = some c → ∃ x, xs[i]? = some x ∧ CSub x c := by
  induction h with
  | nil => intro i c hc; simp at hc
  | cons h t ih =>
    intro i c hc
    cases i with
    | zero => simp at hc; subst hc; exact ⟨_, rfl, h⟩
    | succ i => exact ih i c (by simpa using hc)

/-- Side by side. -/
inductive LSub : List CA → List CA → Prop
  | nil : LSub [] []
  | cons {x : CA} {c : C} {xs ys : List CA} (h : CSub x c) (t : LSub xs ys) : LSub (x :: xs) (.d c :: ys)

theorem LSub.len {xs ys : List CA} (h : LSub xs ys) : xs.length = ys.length := by
  induction h with
  | nil => rfl
  | cons _ _ ih => simp [ih]

theorem LSub.get {xs ys : List CA} (h : LSub xs ys) : ∀ (i : Nat) (y : CA), ys[i]? = some y → ∃ x c, xs[i]? = some x ∧ y = .d c ∧ CSub x c := by
  induction h with
  | nil => intro i c hc; simp at hc
  | cons h t ih =>
    intro i c hc
    cases i with
    | zero => simp at hc; subst hc; exact ⟨_, _, rfl, rfl, h⟩
    | succ i => exact ih i c (by simpa using hc)

/-- What a value may be taken for where it is only read. -/
inductive ASub : AV → AV → Prop
  | one {x : CA} {c : C} (h : CSub x c) : ASub (.one x) (.one (.d c))
  | agg {xs ys : List CA} (h : LSub xs ys) : ASub (.agg xs) (.agg ys)

theorem rels_of_subs {V : Vu} {w : World} {xs ys : List CA} (h : LSub xs ys) {vs : Array Value} (hv : rels V w xs vs) : rels (Vu.of V.S) w ys vs := by
  refine ⟨by rw [hv.1, h.len], fun i y hy => ?_⟩
  obtain ⟨x, c, hx, rfl, hs⟩ := h.get i y hy
  obtain ⟨u, hu, hr⟩ := hv.2 i x hx
  exact ⟨u, hu, show Reads V.S w c u from hs.reads hr⟩

theorem ASub.rel {V : Vu} {w : World} {x y : AV} (h : ASub x y) {v : Value} (hv : x.rel V w v) : y.rel (Vu.of V.S) w v := by
  cases h with
  | one h => exact (show Reads V.S w _ v from h.reads hv)
  | agg h => obtain ⟨vs, h1, h2⟩ := hv; exact ⟨vs, h1, rels_of_subs h h2⟩

def argsRel (V : Vu) (w : World) (args : List AV) (vs : Array Value) : Prop :=
  vs.size = args.length ∧ ∀ (i : Nat) (x : AV), args[i]? = some x → ∃ u, vs[i]? = some u ∧ x.rel V w u

/-- A call of f enters f. -/
def Enters (P : Program) (f : FuncId) : Prop := ∀ (as : Array Value) (w : World), (callFunc f as).run P w = .ok (.enter f as) w

/-- A function that only reads: called with values that read as these it returns a value that reads as that; nothing that was there turns. -/
def Fun (P : Program) (f : FuncId) (args : List AV) (res : TV) : Prop :=
  Enters P f ∧ ∀ (S : Nat → Nat → Prop) (w : World) (vs : Array Value), (∀ b o, S b o → b < w.heap.size) → argsRel (Vu.of S) w args vs →
    Calls P f vs w fun e w' => ∃ v S', e = .returned v ∧ ExtF w w' ∧ (∀ b o, S b o → S' b o) ∧ (∀ b o, S' b o → (S b o ∨ w.heap.size ≤ b) ∧ b < w'.heap.size) ∧ res.rel (Vu.of S') w' v

section
variable {E : Env} {st : St} {d : Nat} {ty : TypeId} {pos : String} {af : Array Edge} {g : Option (Nat × Bool)}

theorem Rel.later {V V' : Vu} {a : Act} {w w' : World} (h : Rel E V st a w) (hx : ExtF w w') (hg : V.Grow V' w w') (hn : V'.nx = V.nx) : Rel E V' st a w' :=
  ⟨h.h.later hx hg, hn.trans h.nx, h.nt, h.df.le (h.h.le hx hg), fun t x hx' => (h.tm t x hx').mono (h.h.le hx hg)⟩

theorem XO.call {f : FuncId} {args : List AV} {res : TV} {as : Array Operand} {ats : Array TypeId} (hF : Fun E.P f args res) (hn : as.size = args.length)
    (ha : ∀ (i : Nat) (y : AV), args[i]? = some y → ∃ o x, as[i]? = some o ∧ ev st.tm o = some (.v x) ∧ ASub x y) (hd : d < st.nt) :
    XO E ⟨some d, .call { callee := .value (.func f), args := as, argTypes := ats }, ty, pos, af, g⟩ st (ST.put st d res) := by
  intro V a w hr ro n K Q hK
  refine ⟨fun _ _ => trivial, ?_⟩
  rw [Oper.semAt_eq _ _ _ (by intro c h; cases h)]
  have hrun : (execOp a.eval ⟨some d, .call { callee := .value (.func f), args := as, argTypes := ats }, ty, pos, af, g⟩).run E.P w = .ok (.enter f (as.map a.eval)) w := by
    have := hF.1 (as.map a.eval) w
    simp [execOp, resolve, Act.eval, Deferred.ofValue, invoke]
    simpa using this
  rw [hrun]
  refine ⟨(by intro h; cases h), ?_⟩
  have hc := hF.2 V.S w (as.map a.eval) hr.h.sz ⟨by rw [Array.size_map]; exact hn, fun i y hy => by
    obtain ⟨o, x, h1, h2, h3⟩ := ha i y hy
    exact ⟨a.eval o, by simp [h1], h3.rel (hr.ev h2)⟩⟩
  have hc' : CallsIn Fence.wide (n - 1) E.P f (as.map a.eval) w _ := callsIn_wide.2 hc
  refine CallsIn.mono (F := FR ro) hc' ?_
  rintro e w' ⟨v, S', rfl, hx, hS, hS', hv⟩
  have hg : V.Grow { V with S := S' } w w' := ⟨Nat.le_refl _, fun _ _ => rfl, fun _ _ => rfl, fun _ _ _ _ => rfl, hS, fun b o h => (hS' b o h).1, fun b o h => (hS' b o h).2⟩
  refine hK { V with S := S' } _ w' ((hr.later hx hg rfl).put hd ?_)
  exact TV.rel.mono (V := Vu.of S') (V' := { V with S := S' }) (w := w') (w' := w') ⟨Nat.zero_le _, (fun i hi => absurd hi (Nat.not_lt_zero i)), (fun i hi => absurd hi (Nat.not_lt_zero i)), (fun i hi => absurd hi (Nat.not_lt_zero i)), fun _ _ h => h, fun _ _ _ => rfl⟩ hv

theorem XO.call1 {f : FuncId} {y1 : AV} {res : TV} {o1 : Operand} {x1 : AV} {ats : Array TypeId} (hF : Fun E.P f [y1] res) (h1 : ev st.tm o1 = some (.v x1)) (s1 : ASub x1 y1) (hd : d < st.nt) :
    XO E ⟨some d, .call { callee := .value (.func f), args := #[o1], argTypes := ats }, ty, pos, af, g⟩ st (ST.put st d res) :=
  XO.call hF rfl (fun i y hy => by
    match i, hy with
    | 0, hy => cases hy; exact ⟨o1, x1, rfl, h1, s1⟩) hd

theorem XO.call2 {f : FuncId} {y1 y2 : AV} {res : TV} {o1 o2 : Operand} {x1 x2 : AV} {ats : Array TypeId} (hF : Fun E.P f [y1, y2] res) (h1 : ev st.tm o1 = some (.v x1)) (s1 : ASub x1 y1) (h2 : ev st.tm o2 = some (.v x2)) (s2 : ASub x2 y2) (hd : d < st.nt) :
    XO E ⟨some d, .call { callee := .value (.func f), args := #[o1, o2], argTypes := ats }, ty, pos, af, g⟩ st (ST.put st d res) :=
  XO.call hF rfl (fun i y hy => by
    match i, hy with
    | 0, hy => cases hy; exact ⟨o1, x1, rfl, h1, s1⟩
    | 1, hy => cases hy; exact ⟨o2, x2, rfl, h2, s2⟩) hd

theorem XO.call3 {f : FuncId} {y1 y2 y3 : AV} {res : TV} {o1 o2 o3 : Operand} {x1 x2 x3 : AV} {ats : Array TypeId} (hF : Fun E.P f [y1, y2, y3] res) (h1 : ev st.tm o1 = some (.v x1)) (s1 : ASub x1 y1) (h2 : ev st.tm o2 = some (.v x2)) (s2 : ASub x2 y2) (h3 : ev st.tm o3 = some (.v x3)) (s3 : ASub x3 y3) (hd : d < st.nt) :
    XO E ⟨some d, .call { callee := .value (.func f), args := #[o1, o2, o3], argTypes := ats }, ty, pos, af, g⟩ st (ST.put st d res) :=
  XO.call hF rfl (fun i y hy => by
    match i, hy with
    | 0, hy => cases hy; exact ⟨o1, x1, rfl, h1, s1⟩
    | 1, hy => cases hy; exact ⟨o2, x2, rfl, h2, s2⟩
    | 2, hy => cases hy; exact ⟨o3, x3, rfl, h3, s3⟩) hd

theorem rel_add {V : Vu} {a : Act} {w : World} (hr : Rel E V st a w) (o : Obj) (B : HB) (hB : B.rel (V.add w.heap.size) (w.alloc o) o) (hd : d < st.nt) :
    Rel E (V.add w.heap.size) ⟨(d, .v (.one (.ptr st.nx 0))) :: st.tm, (st.nx, B) :: st.hp, st.tk, st.nx + 1, st.nt, st.df⟩ (a.put (some d) (.pointer (some ⟨w.heap.size, 0, none⟩))) (w.alloc o) := by
  have hx : ExtF w (w.alloc o) := ⟨rfl, rfl, rfl, by simp, fun k hk _ => Below.heap_alloc w o k hk⟩
  have H := hr.h.addOwn o B hB
  rw [hr.nx] at H
  have h1 : Rel E (V.add w.heap.size) ⟨st.tm, (st.nx, B) :: st.hp, st.tk, st.nx + 1, st.nt, st.df⟩ a (w.alloc o) :=
    ⟨H, by show V.nx + 1 = _; rw [hr.nx], hr.nt, hr.df.le (hr.h.le hx (V.add_grow w.heap.size hr.h.sz hx)), fun t x hx' => (hr.tm t x hx').mono (hr.h.le hx (V.add_grow w.heap.size hr.h.sz hx))⟩
  refine h1.put (d := d) hd ⟨?_, ?_⟩
  · show st.nx < V.nx + 1; rw [hr.nx]; exact Nat.lt_succ_self _
  · rw [← hr.nx, V.add_at]

/-- A new variable that holds a value. -/
theorem XO.box {t : TypeId} {o : Operand} {x : AV} (hx : ev st.tm o = some (.v x)) (hd : d < st.nt) :
    XO E ⟨some d, .box t o, ty, pos, af, g⟩ st ⟨(d, .v (.one (.ptr st.nx 0))) :: st.tm, (st.nx, .cells t x.cells) :: st.hp, st.tk, st.nx + 1, st.nt, st.df⟩ := by
  intro V a w hr ro n K Q hK
  refine ⟨fun _ _ => trivial, ?_⟩
  rw [Oper.semAt_eq _ _ _ (by intro c h; cases h)]
  have hrun : (execOp a.eval ⟨some d, .box t o, ty, pos, af, g⟩).run E.P w = .ok (.value (.pointer (some ⟨w.heap.size, 0, none⟩))) (w.alloc (.cells (a.eval o).cells t)) := by
    simp [execOp, Instr.box, newVar, newRow]
  rw [hrun]
  have hxc := (hr.ev hx).cells
  have hE : ExtF w (w.alloc (.cells (a.eval o).cells t)) := ⟨rfl, rfl, rfl, by simp, fun k hk _ => Below.heap_alloc w _ k hk⟩
  exact hK _ _ _ (rel_add hr _ (.cells t x.cells) ⟨_, rfl, hxc.mono (hr.h.le hE (V.add_grow w.heap.size hr.h.sz hE))⟩ hd)

def tyZero (P : Program) (t : TypeId) : Option (List Value) := ((P.info? t).bind (·.zero)).map (·.cells.toList)

theorem tyZero_spec {P : Program} {t : TypeId} {zs : List Value} (h : tyZero P t = some zs) : ∃ z, (∀ w, (zeroValue t).run P w = .ok z w) ∧ z.cells = zs.toArray := by
  unfold tyZero at h
  cases hi : P.info? t with
  | none => rw [hi] at h; cases h
  | some i =>
    rw [hi] at h
    cases hz : i.zero with
    | none => simp [hz] at h
    | some z =>
      simp [hz] at h
      exact ⟨z, fun w => by simp [zeroValue, typeInfo, hi, hz], by rw [← h]⟩

theorem XO.alloc {t : TypeId} {zs : List Value} (hz : tyZero E.P t = some zs) (h1 : zs.all (·.oneCell') = true) (hd : d < st.nt) :
    XO E ⟨some d, .alloc t, ty, pos, af, g⟩ st ⟨(d, .v (.one (.ptr st.nx 0))) :: st.tm, (st.nx, .cells t (zs.map fun z => .d (.v z))) :: st.hp, st.tk, st.nx + 1, st.nt, st.df⟩ := by
  intro V a w hr ro n K Q hK
  refine ⟨fun _ _ => trivial, ?_⟩
  rw [Oper.semAt_eq _ _ _ (by intro c h; cases h)]
  obtain ⟨z, hz1, hz2⟩ := tyZero_spec hz
  have hrun : (execOp a.eval ⟨some d, .alloc t, ty, pos, af, g⟩).run E.P w = .ok (.value (.pointer (some ⟨w.heap.size, 0, none⟩))) (w.alloc (.cells zs.toArray t)) := by
    simp [execOp, Instr.alloc, hz1, newVar, newRow, hz2]
  rw [hrun]
  refine hK _ _ _ (rel_add hr _ (.cells t _) ⟨_, rfl, by simp, fun i x hx => ?_⟩ hd)
  rw [List.getElem?_map] at hx
  cases hi : zs[i]? with
  | none => rw [hi] at hx; cases hx
  | some z' =>
    rw [hi] at hx; cases hx
    exact ⟨z', by simp [hi], Reads.v z' (List.all_eq_true.1 h1 z' (List.mem_of_getElem? hi))⟩

def setL : List CA → Nat → List CA → List CA
  | xs, _, [] => xs
  | xs, off, y :: ys => setL (xs.set off y) (off + 1) ys

theorem HRel.storeL {V : Vu} {tk : List (Nat × Option Tok)} {i : Nat} {T : TypeId} : ∀ (ys : List CA) (us : List Value) (k off : Nat) (xs : List CA) (hp : List (Nat × HB)) (w : World), HRel E V hp tk w → lk hp i = some (.cells T xs) →
    off + k + ys.length ≤ xs.length → us.length = ys.length → (∀ (j : Nat) (y : CA), ys[j]? = some y → ∃ u, us[j]? = some u ∧ y.rel V w u) →
    ∃ w', (storeCells ⟨V.ι i, off, none⟩ us k).run E.P w = .ok () w' ∧ HRel E V ((i, .cells T (setL xs (off + k) ys)) :: hp) tk w' ∧ V.Le V w w'
  | [], us, k, off, xs, hp, w, h, hi, _, hu, _ => by
    have : us = [] := List.eq_nil_of_length_eq_zero (by simpa using hu)
    subst this
    refine ⟨w, by simp [storeCells], ?_, Vu.Le.refl V w⟩
    simp only [setL]
    have hl : ∀ j, lk ((i, HB.cells T xs) :: hp) j = lk hp j := fun j => by rw [lk_cons]; split <;> simp_all
    exact ⟨h.ext, h.le0, h.sz, h.sub, fun j B hj => h.own j B (by rw [← hl]; exact hj), fun j k A B hj hk => h.inj j k A B (by rw [← hl]; exact hj) (by rw [← hl]; exact hk), fun j B hj => h.new j B (by rw [← hl]; exact hj),
      fun j T' hj => by obtain ⟨h1, hcu, xs', h2, h3⟩ := h.tok j T' hj; exact ⟨h1, hcu, xs', h2, fun g hg => ⟨(h3 g hg).1, (h3 g hg).2.1, fun k B hk => (h3 g hg).2.2 k B (by rw [← hl]; exact hk)⟩⟩, h.tki⟩
  | y :: ys, us, k, off, xs, hp, w, h, hi, hle, hu, hrel => by
    match us, hu with
    | u :: us, hu =>
      simp only [List.length_cons] at hle hu
      obtain ⟨u', hu', hy⟩ := hrel 0 y rfl
      simp at hu'
      subst hu'
      obtain ⟨-, o, ho, vs, rfl, hvs⟩ := h.own i _ hi
      obtain ⟨H1, L1⟩ := h.store hi (off + k) hy
      have hcell : w.cell? ⟨V.ι i, off + k, none⟩ = some (vs.getD (off + k) undef) := by
        rw [cell_of_own ho]
        have : off + k < vs.size := by rw [hvs.1]; omega
        simp [this]
      have hone := hy.one
      have hst : (Go.store ⟨V.ι i, off + k, none⟩ u).run E.P w = .ok () (w.setCell ⟨V.ι i, off + k, none⟩ u) := by
        rw [run_store _ _ _ _ _ hone, hcell]
        simp [free_of_own ho]
      obtain ⟨w', hw', H2, L2⟩ := HRel.storeL (i := i) (T := T) ys us (k + 1) off (xs.set (off + k) y) _ _ H1 (by simp [lk_cons]) (by simp; omega) (by omega) (fun j z hz => by
        obtain ⟨u2, h2, h3⟩ := hrel (j + 1) z (by simpa using hz)
        exact ⟨u2, by simpa using h2, h3.mono L1⟩)
      refine ⟨w', ?_, ?_, L1.trans L2⟩
      · simp only [storeCells, Sem.run_bind, addr_add, hst, Result.andThen_ok, hw']
      · have hl : ∀ (A B : HB) j, lk ((i, A) :: (i, B) :: hp) j = lk ((i, A) :: hp) j := fun A B j => by rw [lk_cons, lk_cons, lk_cons]; split <;> rfl
        simp only [setL]
        rw [show off + k + 1 = off + (k + 1) by omega]
        generalize setL (xs.set (off + k) y) (off + (k + 1)) ys = zs at H2 ⊢
        have hl' := hl (HB.cells T zs) (HB.cells T (xs.set (off + k) y))
        exact ⟨H2.ext, H2.le0, H2.sz, H2.sub, fun j B hj => H2.own j B (by rw [hl']; exact hj), fun j k A B hj hk => H2.inj j k A B (by rw [hl']; exact hj) (by rw [hl']; exact hk), fun j B hj => H2.new j B (by rw [hl']; exact hj),
          fun j T' hj => by obtain ⟨h1, hcu, xs', h2, h3⟩ := H2.tok j T' hj; exact ⟨h1, hcu, xs', h2, fun g hg => ⟨(h3 g hg).1, (h3 g hg).2.1, fun k B hk => (h3 g hg).2.2 k B (by rw [hl']; exact hk)⟩⟩, H2.tki⟩

/-- A store into the call's own. -/
theorem XO.store {t n i off : Nat} {ag : Bool} {T : TypeId} {xs : List CA} {o1 o2 : Operand} {y : AV} {dd : Option Tmp} (ht : tyAgg E.P t = some (ag, n)) (h1 : ev st.tm o1 = some (.v (.one (.ptr i off)))) (h2 : ev st.tm o2 = some (.v y))
    (hi : lk st.hp i = some (.cells T xs)) (hn : y.cells.length = n) (hle : off + n ≤ xs.length) (hdd : dd = none) :
    XO E ⟨dd, .store t o1 o2, ty, pos, af, g⟩ st ⟨st.tm, (i, .cells T (setL xs off y.cells)) :: st.hp, st.tk, st.nx, st.nt, st.df⟩ := by
  intro V a w hr ro n' K Q hK
  refine ⟨fun _ _ => trivial, ?_⟩
  rw [Oper.semAt_eq _ _ _ (by intro c h; cases h)]
  have e1 := hr.ev h1
  have e2 := (hr.ev h2).cells
  obtain ⟨-, hsz⟩ := tyAgg_spec ht w
  obtain ⟨w', hw', H, L⟩ := HRel.storeL (T := T) y.cells (a.eval o2).cells.toList 0 off xs st.hp w hr.h hi (by simpa [hn] using hle) (by simpa using e2.1) (fun j z hz => by
    obtain ⟨u, hu, hz'⟩ := e2.2 j z hz
    exact ⟨u, by simpa using hu, hz'⟩)
  have hrun : (execOp a.eval ⟨dd, .store t o1 o2, ty, pos, af, g⟩).run E.P w = .ok .skip w' := by
    have hs2 : (a.eval o2).cells.size = n := by rw [e2.1, hn]
    simp only [execOp, e1.2, Instr.storeAt, Instr.sureAddr, storeVar, Sem.run_bind, Sem.run_pure, Result.andThen_ok, hsz, hs2]
    simp [hw']
  rw [hrun]
  subst hdd
  exact hK V _ w' ⟨H, hr.nx, hr.nt, hr.df, fun t x hx => (hr.tm t x hx).mono L⟩
end
end

end Go.Proofs.YtcapifnaceegmaaGreatDoor
