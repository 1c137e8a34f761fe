/- Part 1 of the proof: rules, mirrors and plain laws. The card of LevelTexts is proved here: for every level the law returns true, and the arguments read behind the call as they did before; condition: the listed package-level variables hold what the program's text lays (tied). -/
import Derived.WalkKit
import Derived.WalkSpells
import Derived.WalkLawsBesides
import Derived.ControlIn
import Derived.TacticsIn
import Derived.CallsIn
import Derived.Laws.AppendOwn
import Derived.Deep.LoopGhost
import Derived.Deep.Quiet
import Derived.StillTail
import Derived.KernelRfl
import Derived.Lib.LaidTab
import Derived.Lib.ItoaNum
import Derived.OrdersIn
import Derived.Laws.StructEq
import Derived.Test.YtcapifnaceegmaaGreatDoorProg
import Derived.Shelf.Abstract
namespace Go.Proofs.YtcapifnaceegmaaGreatDoor
section
open Go.RowKit
set_option linter.unusedSimpArgs false
set_option linter.unusedVariables false
set_option linter.unusedSectionVars false
inductive C where
  | v (x : Value)
  | sl (sz : Nat) (es : List (List C))
inductive Reads (S : Nat → Nat → Prop) (w : World) : C → Value → Prop where
  | v (x : Value) (h : x.oneCell' = true) : Reads S w (.v x) x
  | sl (sz : Nat) (es : List (List C)) (a : Option Addr) (cap b off : Nat) (f : Nat → Nat → Value)
      (hcap : es.length ≤ cap)
      (ha : es ≠ [] → a = some ⟨b, off, none⟩)
      (hl : ∀ (i : Nat) (e : List C), es[i]? = some e → e.length = sz)
      (hc : ∀ (i : Nat) (e : List C) (j : Nat) (c : C), es[i]? = some e → e[j]? = some c → w.cell? ⟨b, off + i * sz + j, none⟩ = some (f i j))
      (hs : ∀ (i : Nat) (e : List C) (j : Nat) (c : C), es[i]? = some e → e[j]? = some c → S b (off + i * sz + j))
      (hr : ∀ (i : Nat) (e : List C) (j : Nat) (c : C), es[i]? = some e → e[j]? = some c → Reads S w c (f i j)) :
      Reads S w (.sl sz es) (.slice a es.length cap)
theorem Reads.mono {S S' : Nat → Nat → Prop} {w w' : World} (hS : ∀ b o, S b o → S' b o) (hw : ∀ b o, S b o → w'.cell? ⟨b, o, none⟩ = w.cell? ⟨b, o, none⟩)
    {c : C} {v : Value} (h : Reads S w c v) : Reads S' w' c v := by
  induction h with
  | v x h => exact .v x h
  | sl sz es a cap b off f hcap ha hl hc hs hr ih =>
    exact .sl sz es a cap b off f hcap ha hl (fun i e j c h1 h2 => (hw _ _ (hs i e j c h1 h2)).trans (hc i e j c h1 h2)) (fun i e j c h1 h2 => hS _ _ (hs i e j c h1 h2)) ih
theorem Reads.one {S : Nat → Nat → Prop} {w : World} {c : C} {v : Value} (h : Reads S w c v) : v.oneCell' = true := by
  cases h with
  | v x h => exact h
  | sl => rfl
inductive CA where
  | d (c : C)
  | ptr (i off : Nat)
  | pel (e : List C) (off : Nat)
  | fn (f : FuncId) (caps : List (Nat × Nat))
  | app (i sz : Nat) (es : List (List C))
  | osl (i off len cap : Nat)
  | mp (i : Nat)
  | yld (i : Nat)
  | clo (f : FuncId) (caps : List (List C × Nat))
  | any
inductive AV where
  | one (x : CA)
  | agg (xs : List CA)
inductive TV where
  | v (x : AV)
  | tup (xs : List AV)
  | unk
inductive HB where
  | cells (T : TypeId) (xs : List CA)
  | obj (o : Obj)
  | loop (s : LoopState) (p : Option Code) (tm : List (Nat × TV)) (nt : Nat) (ps : Array Tmp) (assign body : Code) (D : Nat)
  | mp (es : List (Value × AV × Nat)) (clock : Nat)
structure Tok where
  E : TypeId
  sz : Nat
  n : Nat
structure St where
  tm : List (Nat × TV)
  hp : List (Nat × HB)
  tk : List (Nat × Option Tok)
  nx : Nat
  nt : Nat
  df : List Nat
structure Vu where
  nx : Nat
  ι : Nat → Nat
  κ : Nat → Nat → Value
  cu : Nat → Nat
  S : Nat → Nat → Prop
structure Vu.Le (V V' : Vu) (w w' : World) : Prop where
  nx : V.nx ≤ V'.nx
  ι : ∀ i, i < V.nx → V'.ι i = V.ι i
  cu : ∀ i, i < V.nx → V.cu i ≤ V'.cu i
  κ : ∀ i, i < V.nx → ∀ m, m ≤ V.cu i → V'.κ i m = V.κ i m
  S : ∀ b o, V.S b o → V'.S b o
  cell : ∀ b o, V.S b o → w'.cell? ⟨b, o, none⟩ = w.cell? ⟨b, o, none⟩
theorem Vu.Le.refl (V : Vu) (w : World) : V.Le V w w := ⟨Nat.le_refl _, fun _ _ => rfl, fun _ _ => Nat.le_refl _, fun _ _ _ _ => rfl, fun _ _ h => h, fun _ _ _ => rfl⟩
def Tabs (P : Program) (S : Nat → Nat → Prop) (w : World) : Prop :=
  ∃ g, P.globalNamed "internal/strconv.uint64pow10" = some g ∧ (∀ o, S g o) ∧ ∀ o, w.cell? ⟨g, o, none⟩ = (Lib.pow10Tab.map fun z => Value.int .u64 z)[o]?
theorem Tabs.mono {P : Program} {S S' : Nat → Nat → Prop} {w w' : World} (h : Tabs P S w) (hS : ∀ b o, S b o → S' b o) (hw : ∀ b o, S b o → w'.cell? ⟨b, o, none⟩ = w.cell? ⟨b, o, none⟩) : Tabs P S' w' := by
  obtain ⟨g, h1, h2, h3⟩ := h
  exact ⟨g, h1, fun o => hS _ _ (h2 o), fun o => (hw _ _ (h2 o)).trans (h3 o)⟩
theorem Tabs.is {P : Program} {S : Nat → Nat → Prop} {w : World} (h : Tabs P S w) : Lib.TabIs P w "internal/strconv.uint64pow10" .u64 Lib.pow10Tab := by
  obtain ⟨g, h1, -, h3⟩ := h
  have h0 := h3 0
  unfold Lib.TabIs World.var?
  rw [h1]
  simp only [World.cell?] at h0 h3
  simp only [Option.bind_some]
  split at h0
  · rename_i c T f hc
    rw [hc]
    refine congrArg some (Array.ext_getElem? fun o => ?_)
    have := h3 o
    rw [hc] at this
    simpa using this
  · have : (Lib.pow10Tab.map fun z => Value.int .u64 z)[0]? = some (.int .u64 1) := rfl
    rw [this] at h0; cases h0
theorem Tabs.of {P : Program} {S : Nat → Nat → Prop} {w : World} {g : Nat} (hg : P.globalNamed "internal/strconv.uint64pow10" = some g) (hS : ∀ o, S g o) (h : Lib.TabIs P w "internal/strconv.uint64pow10" .u64 Lib.pow10Tab) : Tabs P S w := by
  refine ⟨g, hg, hS, fun o => ?_⟩
  unfold Lib.TabIs World.var? at h
  rw [hg] at h
  simp only [Option.bind_some] at h
  split at h
  · rename_i c T f hc
    cases h
    simp [World.cell?, hc]
  · cases h
def pelRel (S : Nat → Nat → Prop) (w : World) (e : List C) (off : Nat) (v : Value) : Prop :=
  ∃ (b o : Nat) (f : Nat → Value), v = .pointer (some ⟨b, o + off, none⟩) ∧ ∀ (j : Nat) (c : C), e[j]? = some c → w.cell? ⟨b, o + j, none⟩ = some (f j) ∧ S b (o + j) ∧ Reads S w c (f j)
theorem pelRel.mono {S S' : Nat → Nat → Prop} {w w' : World} (hS : ∀ b o, S b o → S' b o) (hw : ∀ b o, S b o → w'.cell? ⟨b, o, none⟩ = w.cell? ⟨b, o, none⟩) {e : List C} {off : Nat} {v : Value} (h : pelRel S w e off v) : pelRel S' w' e off v := by
  obtain ⟨b, o, f, hv, hf⟩ := h
  exact ⟨b, o, f, hv, fun j c hj => ⟨(hw _ _ (hf j c hj).2.1).trans (hf j c hj).1, hS _ _ (hf j c hj).2.1, Reads.mono hS hw (hf j c hj).2.2⟩⟩
def CA.rel (V : Vu) (w : World) : CA → Value → Prop
  | .d c, v => Reads V.S w c v
  | .ptr i off, v => i < V.nx ∧ v = .pointer (some ⟨V.ι i, off, none⟩)
  | .pel e off, v => pelRel V.S w e off v
  | .clo f caps, v => ∃ ps : List Value, v = .func (.func f) #[] ps.toArray ∧ ps.length = caps.length ∧ ∀ (i : Nat) (e : List C) (off : Nat), caps[i]? = some (e, off) → ∃ p, ps[i]? = some p ∧ pelRel V.S w e off p
  | .fn f caps, v => (∀ p ∈ caps, p.1 < V.nx) ∧ v = .func (.func f) #[] (caps.map fun p => Value.pointer (some ⟨V.ι p.1, p.2, none⟩)).toArray
  | .app i sz es, v => i < V.nx ∧ es.length ≤ V.cu i ∧ v = V.κ i es.length ∧ Reads V.S w (.sl sz es) v
  | .osl i off len cap, v => i < V.nx ∧ v = .slice (some ⟨V.ι i, off, none⟩) len cap
  | .mp i, v => i < V.nx ∧ v = .map (some (V.ι i))
  | .yld i, v => i < V.nx ∧ v = .func (.yield (V.ι i)) #[] #[]
  | .any, v => v.oneCell' = true
theorem CA.rel.mono {V V' : Vu} {w w' : World} (hV : V.Le V' w w') {x : CA} {v : Value} (h : x.rel V w v) : x.rel V' w' v := by
  cases x with
  | d c => exact Reads.mono hV.S hV.cell h
  | ptr i off => exact ⟨Nat.lt_of_lt_of_le h.1 hV.nx, by rw [hV.ι i h.1]; exact h.2⟩
  | pel e off => exact pelRel.mono hV.S hV.cell h
  | clo f caps =>
    obtain ⟨ps, h1, h2, h3⟩ := h
    exact ⟨ps, h1, h2, fun i e off hi => let ⟨p, h4, h5⟩ := h3 i e off hi; ⟨p, h4, h5.mono hV.S hV.cell⟩⟩
  | fn f caps =>
    refine ⟨fun p hp => Nat.lt_of_lt_of_le (h.1 p hp) hV.nx, ?_⟩
    rw [h.2]
    congr 2
    exact List.map_congr_left fun p hp => by rw [hV.ι _ (h.1 p hp)]
  | app i sz es => exact ⟨Nat.lt_of_lt_of_le h.1 hV.nx, Nat.le_trans h.2.1 (hV.cu i h.1), by rw [hV.κ i h.1 _ h.2.1]; exact h.2.2.1, Reads.mono hV.S hV.cell h.2.2.2⟩
  | osl i off len cap => exact ⟨Nat.lt_of_lt_of_le h.1 hV.nx, by rw [hV.ι i h.1]; exact h.2⟩
  | mp i => exact ⟨Nat.lt_of_lt_of_le h.1 hV.nx, by rw [hV.ι i h.1]; exact h.2⟩
  | yld i => exact ⟨Nat.lt_of_lt_of_le h.1 hV.nx, by rw [hV.ι i h.1]; exact h.2⟩
  | any => exact h
theorem CA.rel.one {V : Vu} {w : World} {x : CA} {v : Value} (h : x.rel V w v) : v.oneCell' = true := by
  cases x with
  | d c => exact Reads.one h
  | ptr i off => rw [h.2]; rfl
  | pel e off => obtain ⟨b, o, f, hv, -⟩ := h; rw [hv]; rfl
  | clo f caps => obtain ⟨ps, hv, -⟩ := h; rw [hv]; rfl
  | fn f caps => rw [h.2]; rfl
  | app i sz es => exact Reads.one h.2.2.2
  | osl i off len cap => rw [h.2]; rfl
  | mp i => rw [h.2]; rfl
  | yld i => rw [h.2]; rfl
  | any => exact h
def rels (V : Vu) (w : World) (xs : List CA) (vs : Array Value) : Prop :=
  vs.size = xs.length ∧ ∀ (i : Nat) (x : CA), xs[i]? = some x → ∃ u, vs[i]? = some u ∧ x.rel V w u
theorem rels.mono {V V' : Vu} {w w' : World} (hV : V.Le V' w w') {xs : List CA} {vs : Array Value} (h : rels V w xs vs) : rels V' w' xs vs :=
  ⟨h.1, fun i x hx => let ⟨u, h1, h2⟩ := h.2 i x hx; ⟨u, h1, h2.mono hV⟩⟩
theorem rels.set {V : Vu} {w : World} {xs : List CA} {vs : Array Value} (h : rels V w xs vs) {i : Nat} {x : CA} {u : Value} (hu : x.rel V w u) : rels V w (xs.set i x) (vs.setIfInBounds i u) := by
  refine ⟨by simp [h.1], fun j y hy => ?_⟩
  rw [List.getElem?_set] at hy
  split at hy
  · rename_i e; subst e
    split at hy
    · rename_i hlt; cases hy
      exact ⟨u, by simp [Array.getElem?_setIfInBounds, h.1, hlt], hu⟩
    · cases hy
  · rename_i e
    obtain ⟨u', h1, h2⟩ := h.2 j y hy
    exact ⟨u', by rw [Array.getElem?_setIfInBounds, if_neg e]; exact h1, h2⟩
def AV.rel (V : Vu) (w : World) : AV → Value → Prop
  | .one x, v => x.rel V w v
  | .agg xs, v => ∃ vs, v = .agg vs ∧ rels V w xs vs
theorem AV.rel.mono {V V' : Vu} {w w' : World} (hV : V.Le V' w w') {x : AV} {v : Value} (h : x.rel V w v) : x.rel V' w' v := by
  cases x with
  | one x => exact CA.rel.mono hV h
  | agg xs => obtain ⟨vs, h1, h2⟩ := h; exact ⟨vs, h1, h2.mono hV⟩
def TV.rel (V : Vu) (w : World) : TV → Value → Prop
  | .v x, y => x.rel V w y
  | .tup xs, y => ∃ vs : Array Value, y = .tuple vs ∧ vs.size = xs.length ∧ ∀ (i : Nat) (x : AV), xs[i]? = some x → ∃ u, vs[i]? = some u ∧ x.rel V w u
  | .unk, _ => True
theorem TV.rel.mono {V V' : Vu} {w w' : World} (hV : V.Le V' w w') {x : TV} {v : Value} (h : x.rel V w v) : x.rel V' w' v := by
  cases x with
  | v x => exact AV.rel.mono hV h
  | tup xs => obtain ⟨vs, h1, h2, h3⟩ := h; exact ⟨vs, h1, h2, fun i x hx => let ⟨u, h4, h5⟩ := h3 i x hx; ⟨u, h4, h5.mono hV⟩⟩
  | unk => trivial
def AV.cells : AV → List CA
  | .one x => [x]
  | .agg xs => xs
theorem AV.rel.cells {V : Vu} {w : World} {x : AV} {v : Value} (h : x.rel V w v) : rels V w x.cells v.cells := by
  cases x with
  | one x =>
    have h1 := CA.rel.one h
    have : v.cells = #[v] := by cases v <;> first | rfl | (simp [Value.oneCell'] at h1)
    rw [this]
    refine ⟨rfl, fun i y hy => ?_⟩
    cases i with
    | zero => simp [AV.cells] at hy; subst hy; exact ⟨v, rfl, h⟩
    | succ i => simp [AV.cells] at hy
  | agg xs => obtain ⟨vs, rfl, h2⟩ := h; exact h2
def lk {α : Type} : List (Nat × α) → Nat → Option α
  | [], _ => none
  | (k, v) :: r, i => cond (Nat.beq k i) (some v) (lk r i)
theorem lk_cons {α : Type} (k : Nat) (v : α) (r : List (Nat × α)) (i : Nat) : lk ((k, v) :: r) i = if k = i then some v else lk r i := by
  by_cases h : k = i
  · subst h; simp [lk]
  · have h2 : Nat.beq k i = false := by
      cases hb : Nat.beq k i with
      | false => rfl
      | true => exact absurd (Nat.eq_of_beq_eq_true hb) h
    simp [lk, h2, h]
structure Env where
  P : Program
  w0 : World
  M : Nat → Prop
  V0 : Vu
structure ExtM (M : Nat → Prop) (w w' : World) : Prop where
  os : w'.os = w.os
  tape : w'.tape = w.tape
  output : w'.output = w.output
  size : w.heap.size ≤ w'.heap.size
  block : ∀ k, k < w.heap.size → ¬ M k → w'.heap[k]? = w.heap[k]?
theorem ExtM.refl (M : Nat → Prop) (w : World) : ExtM M w w := ⟨rfl, rfl, rfl, Nat.le_refl _, fun _ _ _ => rfl⟩
theorem ExtM.trans {M : Nat → Prop} {a b c : World} (h : ExtM M a b) (k : ExtM M b c) : ExtM M a c :=
  ⟨k.os.trans h.os, k.tape.trans h.tape, k.output.trans h.output, Nat.le_trans h.size k.size, fun i hi hM => (k.block i (Nat.lt_of_lt_of_le hi h.size) hM).trans (h.block i hi hM)⟩
def HB.rel (V : Vu) (w : World) : HB → Obj → Prop
  | .cells T xs, o => ∃ vs, o = .cells vs T (0, 0) ∧ rels V w xs vs
  | .obj o', o => o = o'
  | .loop s p tm nt ps assign body D, o => D < V.nx ∧ ∃ fn tmps, o = .loop { state := s, pending := p, fn := fn, tmps := tmps, params := ps, assign := assign, body := body, defers := V.ι D } ∧ tmps.size = nt ∧ ∀ t x, lk tm t = some x → x.rel V w (tmps.getD t undef)
  | .mp es clock, o => ∃ ents : Array MapEntry, o = .map ents clock ∧ ents.size = es.length ∧ ∀ (i : Nat) (k : Value) (x : AV) (b : Nat), es[i]? = some (k, x, b) → ∃ v, ents[i]? = some ⟨k, v, b⟩ ∧ x.rel V w v
theorem HB.rel.mono {V V' : Vu} {w w' : World} (hV : V.Le V' w w') {x : HB} {o : Obj} (h : x.rel V w o) : x.rel V' w' o := by
  cases x with
  | cells T xs => obtain ⟨vs, h1, h2⟩ := h; exact ⟨vs, h1, h2.mono hV⟩
  | obj o' => exact h
  | loop s p tm nt ps assign body D =>
    obtain ⟨hD, fn, tmps, h1, h2, h3⟩ := h
    exact ⟨Nat.lt_of_lt_of_le hD hV.nx, fn, tmps, by rw [hV.ι D hD]; exact h1, h2, fun t x hx => (h3 t x hx).mono hV⟩
  | mp es clock =>
    obtain ⟨ents, h1, h2, h3⟩ := h
    exact ⟨ents, h1, h2, fun i k x b hi => let ⟨v, h4, h5⟩ := h3 i k x b hi; ⟨v, h4, h5.mono hV⟩⟩
structure Le0 (E : Env) (V : Vu) (w : World) : Prop extends Vu.Le E.V0 V E.w0 w where
  tab : Tabs E.P E.V0.S E.w0
structure HRel (E : Env) (V : Vu) (hp : List (Nat × HB)) (tk : List (Nat × Option Tok)) (w : World) : Prop where
  ext : ExtM E.M E.w0 w
  le0 : Le0 E V w
  sz : ∀ b o, V.S b o → b < w.heap.size
  sub : ∀ b o, V.S b o → E.V0.S b o ∨ E.w0.heap.size ≤ b ∨ E.M b
  own : ∀ i B, lk hp i = some B → i < V.nx ∧ ∃ o, w.heap[V.ι i]? = some o ∧ B.rel V w o
  inj : ∀ i j A B, lk hp i = some A → lk hp j = some B → V.ι i = V.ι j → i = j
  new : ∀ i B, lk hp i = some B → (E.w0.heap.size ≤ V.ι i ∨ E.M (V.ι i)) ∧ ∀ o, ¬ V.S (V.ι i) o
  tok : ∀ i T, lk tk i = some (some T) → i < V.nx ∧ T.n = V.cu i ∧ ∃ xs, w.ownsRow 0 T.E T.sz (V.κ i T.n) T.n xs ∧ ∀ g, (V.κ i T.n).ownBlock = some g →
    (E.w0.heap.size ≤ g ∨ E.M g) ∧ (∀ o, V.S g o → o < T.n * T.sz) ∧ (∀ j B, lk hp j = some B → V.ι j ≠ g)
  tki : ∀ i j T U g, lk tk i = some (some T) → lk tk j = some (some U) → (V.κ i T.n).ownBlock = some g → (V.κ j U.n).ownBlock = some g → i = j
theorem heap_lt {w : World} {b : Nat} {o : Obj} (h : w.heap[b]? = some o) : b < w.heap.size := (Array.getElem?_eq_some_iff.1 h).1
abbrev ExtF := ExtM (fun _ => False)
theorem ExtM.cell {M : Nat → Prop} {w w' : World} (h : ExtM M w w') {b o : Nat} (hb : b < w.heap.size) (hM : ¬ M b) : w'.cell? ⟨b, o, none⟩ = w.cell? ⟨b, o, none⟩ :=
  World.cell?_of_block (w := w) (a := ⟨b, o, none⟩) (h.block b hb hM)
structure Vu.Grow (V V' : Vu) (w w' : World) : Prop where
  nx : V.nx ≤ V'.nx
  ι : ∀ i, i < V.nx → V'.ι i = V.ι i
  cu : ∀ i, i < V.nx → V'.cu i = V.cu i
  κ : ∀ i, i < V.nx → ∀ m, m ≤ V.cu i → V'.κ i m = V.κ i m
  S : ∀ b o, V.S b o → V'.S b o
  back : ∀ b o, V'.S b o → V.S b o ∨ w.heap.size ≤ b
  sz : ∀ b o, V'.S b o → b < w'.heap.size
theorem Vu.Le.trans {V V' V'' : Vu} {w w' w'' : World} (h : V.Le V' w w') (k : V'.Le V'' w' w'') : V.Le V'' w w'' :=
  ⟨Nat.le_trans h.nx k.nx, fun i hi => (k.ι i (Nat.lt_of_lt_of_le hi h.nx)).trans (h.ι i hi), fun i hi => Nat.le_trans (h.cu i hi) (k.cu i (Nat.lt_of_lt_of_le hi h.nx)), fun i hi m hm => (k.κ i (Nat.lt_of_lt_of_le hi h.nx) m (Nat.le_trans hm (h.cu i hi))).trans (h.κ i hi m hm),
   fun b o hs => k.S b o (h.S b o hs), fun b o hs => (k.cell b o (h.S b o hs)).trans (h.cell b o hs)⟩
theorem Le0.trans {E : Env} {V V' : Vu} {w w' : World} (h : Le0 E V w) (k : V.Le V' w w') : Le0 E V' w' := ⟨Vu.Le.trans h.toLe k, h.tab⟩
theorem HRel.tabs {E : Env} {V : Vu} {hp : List (Nat × HB)} {tk : List (Nat × Option Tok)} {w : World} (h : HRel E V hp tk w) : Tabs E.P V.S w := h.le0.tab.mono h.le0.S h.le0.cell
section
variable {E : Env} {V V' : Vu} {hp : List (Nat × HB)} {tk : List (Nat × Option Tok)} {w w' : World}
theorem HRel.le (h : HRel E V hp tk w) (hx : ExtF w w') (hg : V.Grow V' w w') : V.Le V' w w' :=
  ⟨hg.nx, hg.ι, fun i hi => Nat.le_of_eq (hg.cu i hi).symm, hg.κ, hg.S, fun b o hs => hx.cell (h.sz b o hs) (fun h => h)⟩
theorem HRel.later (h : HRel E V hp tk w) (hx : ExtF w w') (hg : V.Grow V' w w') : HRel E V' hp tk w' := by
  have hle := h.le hx hg
  refine ⟨?_, h.le0.trans hle, hg.sz, ?_, ?_, ?_, ?_, ?_, ?_⟩
  · exact h.ext.trans ⟨hx.os, hx.tape, hx.output, hx.size, fun k hk _ => hx.block k hk (fun h => h)⟩
  · intro b o hs
    rcases hg.back b o hs with hs' | hb
    · exact h.sub b o hs'
    · exact .inr (.inl (Nat.le_trans h.ext.size hb))
  · intro i B hi
    obtain ⟨h1, o, ho, hB⟩ := h.own i B hi
    exact ⟨Nat.lt_of_lt_of_le h1 hg.nx, o, by rw [hg.ι i h1, hx.block _ (heap_lt ho) (fun h => h)]; exact ho, hB.mono hle⟩
  · intro i j A B hi hj e
    rw [hg.ι i (h.own i A hi).1, hg.ι j (h.own j B hj).1] at e
    exact h.inj i j A B hi hj e
  · intro i B hi
    have h1 := (h.own i B hi).1
    obtain ⟨o0, ho0, -⟩ := (h.own i B hi).2
    rw [hg.ι i h1]
    refine ⟨(h.new i B hi).1, fun o hs => ?_⟩
    rcases hg.back _ o hs with hs' | hb
    · exact (h.new i B hi).2 o hs'
    · have := heap_lt ho0; omega
  · intro i T hi
    obtain ⟨h1, hcu, xs, hown, hg2⟩ := h.tok i T hi
    rw [hg.κ i h1 _ (Nat.le_of_eq hcu)]
    have hlt := hown.lt
    refine ⟨Nat.lt_of_lt_of_le h1 hg.nx, hcu.trans (hg.cu i h1).symm, xs, ?_, fun g hgb => ?_⟩
    · exact hown.kept (row := none) ⟨hx.os, hx.tape, hx.output, hx.size, fun k hk _ => hx.block k hk (fun h => h)⟩ (by cases (V.κ i T.n).ownBlock <;> simp)
    · obtain ⟨a1, a2, a3⟩ := hg2 g hgb
      have hgl := (hlt g hgb).2
      refine ⟨a1, fun o hs => ?_, fun j B hj => ?_⟩
      · rcases hg.back g o hs with hs' | hb
        · exact a2 o hs'
        · omega
      · rw [hg.ι j (h.own j B hj).1]; exact a3 j B hj
  · intro i j T U g hi hj ei ej
    rw [hg.κ i (h.tok i T hi).1 _ (Nat.le_of_eq (h.tok i T hi).2.1)] at ei
    rw [hg.κ j (h.tok j U hj).1 _ (Nat.le_of_eq (h.tok j U hj).2.1)] at ej
    exact h.tki i j T U g hi hj ei ej
def Vu.add (V : Vu) (g : Nat) : Vu := { V with nx := V.nx + 1, ι := fun i => if i = V.nx then g else V.ι i }
theorem Vu.add_grow (V : Vu) (g : Nat) (hsz : ∀ b o, V.S b o → b < w.heap.size) (hx : ExtF w w') : V.Grow (V.add g) w w' :=
  ⟨Nat.le_succ _, fun i hi => by show (if i = V.nx then g else V.ι i) = _; rw [if_neg (by omega)], fun _ _ => rfl, fun _ _ _ _ => rfl, fun _ _ h => h, fun _ _ h => .inl h, fun b o h => Nat.lt_of_lt_of_le (hsz b o h) hx.size⟩
theorem Vu.add_at (V : Vu) (g : Nat) : (V.add g).ι V.nx = g := by show (if V.nx = V.nx then g else _) = g; rw [if_pos rfl]
theorem HRel.addOwn (h : HRel E V hp tk w) (o : Obj) (B : HB) (hB : B.rel (V.add w.heap.size) (w.alloc o) o) :
    HRel E (V.add w.heap.size) ((V.nx, B) :: hp) tk (w.alloc o) := by
  have hx : ExtF w (w.alloc o) := ⟨rfl, rfl, rfl, by simp, fun k hk _ => Below.heap_alloc w o k hk⟩
  have H := h.later hx (V.add_grow w.heap.size h.sz hx)
  have hsize : ∀ i A, lk hp i = some A → (V.add w.heap.size).ι i < w.heap.size := fun i A hi => by
    obtain ⟨h1, o1, ho1, -⟩ := h.own i A hi
    rw [(V.add_grow w.heap.size h.sz hx).ι i h1]
    exact heap_lt ho1
  have hnx : ∀ i A, lk hp i = some A → i ≠ V.nx := fun i A hi => by have := (h.own i A hi).1; omega
  refine ⟨H.ext, H.le0, H.sz, H.sub, ?_, ?_, ?_, ?_, H.tki⟩
  · intro i A hi
    rw [lk_cons] at hi
    split at hi
    · rename_i e; subst e; cases hi
      exact ⟨Nat.lt_succ_self _, o, by rw [V.add_at]; exact heap_alloc_new w o, hB⟩
    · exact H.own i A hi
  · intro i j A A' hi hj e
    rw [lk_cons] at hi hj
    split at hi
    · rename_i e1; subst e1
      split at hj
      · assumption
      · rw [V.add_at] at e
        have := hsize j A' hj
        omega
    · split at hj
      · rename_i e2; subst e2
        rw [V.add_at] at e
        have := hsize i A hi
        omega
      · exact H.inj i j A A' hi hj e
  · intro i A hi
    rw [lk_cons] at hi
    split at hi
    · rename_i e; subst e
      rw [V.add_at]
      exact ⟨.inl h.ext.size, fun o' hs => by have := h.sz _ _ hs; omega⟩
    · exact H.new i A hi
  · intro i T hi
    obtain ⟨h1, hcu, xs, hown, hg⟩ := H.tok i T hi
    refine ⟨h1, hcu, xs, hown, fun g hgb => ⟨(hg g hgb).1, (hg g hgb).2.1, fun j A hj => ?_⟩⟩
    rw [lk_cons] at hj
    split at hj
    · rename_i e; subst e
      rw [V.add_at]
      obtain ⟨h1', hcu', xs', hown', -⟩ := h.tok i T hi
      have hk := (V.add_grow w.heap.size h.sz hx).κ i h1' _ (Nat.le_of_eq hcu')
      rw [hk] at hgb
      have := (hown'.lt g hgb).2
      omega
    · exact (hg g hgb).2.2 j A hj
theorem setCell_block {w : World} {g : Nat} {vs : Array Value} {T : TypeId} (h : w.heap[g]? = some (.cells vs T (0, 0))) (off : Nat) (u : Value) :
    (w.setCell ⟨g, off, none⟩ u).heap[g]? = some (.cells (vs.setIfInBounds off u) T (0, 0)) := by
  simp [World.setCell, Array.getElem?_modify, h]
theorem cell_of_own {w : World} {g : Nat} {vs : Array Value} {T : TypeId} (h : w.heap[g]? = some (.cells vs T (0, 0))) (off : Nat) : w.cell? ⟨g, off, none⟩ = vs[off]? := by
  simp [World.cell?, h]
theorem free_of_own {w : World} {g : Nat} {vs : Array Value} {T : TypeId} (h : w.heap[g]? = some (.cells vs T (0, 0))) (off : Nat) : w.frozen? ⟨g, off, none⟩ = false := by
  simp [World.frozen?, h]
theorem HRel.store (h : HRel E V hp tk w) {i : Nat} {T : TypeId} {xs : List CA} (hi : lk hp i = some (.cells T xs)) (off : Nat) {x : CA} {u : Value} (hu : x.rel V w u) :
    HRel E V ((i, .cells T (xs.set off x)) :: hp) tk (w.setCell ⟨V.ι i, off, none⟩ u) ∧ V.Le V w (w.setCell ⟨V.ι i, off, none⟩ u) := by
  obtain ⟨hnx, o, ho, vs, rfl, hvs⟩ := h.own i _ hi
  have hne : ∀ k, k ≠ V.ι i → (w.setCell ⟨V.ι i, off, none⟩ u).heap[k]? = w.heap[k]? := fun k hk => Below.heap_setCell w ⟨V.ι i, off, none⟩ u k hk
  have hsz : (w.setCell ⟨V.ι i, off, none⟩ u).heap.size = w.heap.size := by simp [World.setCell]
  have hle : V.Le V w (w.setCell ⟨V.ι i, off, none⟩ u) :=
    ⟨Nat.le_refl _, fun _ _ => rfl, fun _ _ => Nat.le_refl _, fun _ _ _ _ => rfl, fun _ _ h => h, fun b o' hs => World.cell?_of_block (w := w) (a := ⟨b, o', none⟩) (hne b fun e => (h.new i _ hi).2 o' (by rw [← e]; exact hs))⟩
  refine ⟨⟨?_, h.le0.trans hle, fun b o' hs => by rw [hsz]; exact h.sz b o' hs, h.sub, ?_, ?_, ?_, ?_, h.tki⟩, hle⟩
  · refine ⟨h.ext.os, h.ext.tape, h.ext.output, by rw [hsz]; exact h.ext.size, fun k hk hM => (hne k fun e => ?_).trans (h.ext.block k hk hM)⟩
    rcases (h.new i _ hi).1 with h1 | h1
    · omega
    · rw [← e] at h1; exact hM h1
  · intro j B hj
    rw [lk_cons] at hj
    split at hj
    · rename_i e; subst e; cases hj
      exact ⟨hnx, _, setCell_block ho off u, _, rfl, (hvs.mono hle).set (hu.mono hle)⟩
    · rename_i e
      obtain ⟨h1, o1, ho1, hB⟩ := h.own j B hj
      exact ⟨h1, o1, by rw [hne _ fun e' => e (h.inj j i _ _ hj hi e').symm]; exact ho1, hB.mono hle⟩
  · intro j k A B hj hk e
    rw [lk_cons] at hj hk
    split at hj <;> split at hk
    · rename_i e1 e2; exact e1.symm.trans e2
    · rename_i e1 e2; subst e1; exact h.inj _ _ _ _ hi hk e
    · rename_i e1 e2; subst e2; exact h.inj _ _ _ _ hj hi e
    · exact h.inj _ _ _ _ hj hk e
  · intro j B hj
    rw [lk_cons] at hj
    split at hj
    · rename_i e; subst e; exact h.new _ _ hi
    · exact h.new _ _ hj
  · intro j T' hj
    obtain ⟨h1, hcu, xs', hown, hg⟩ := h.tok j T' hj
    refine ⟨h1, hcu, xs', hown.kept (row := some (V.ι i)) ⟨rfl, rfl, rfl, by rw [hsz]; exact Nat.le_refl _, fun k _ hk => hne k fun e => hk (by rw [e])⟩ ?_, fun g hgb => ⟨(hg g hgb).1, (hg g hgb).2.1, fun k B hk => ?_⟩⟩
    · cases hb : (V.κ j T'.n).ownBlock with
      | none => exact .inl rfl
      | some g => exact .inr fun e => (hg g hb).2.2 i _ hi (by cases e; rfl)
    · rw [lk_cons] at hk
      split at hk
      · rename_i e; subst e; exact (hg g hgb).2.2 _ _ hi
      · exact (hg g hgb).2.2 _ _ hk
end
end
section
open Go.RowKit
set_option linter.unusedSimpArgs false
set_option linter.unusedVariables false
set_option linter.unusedSectionVars false
def FR (ro : Option Nat) : Fence := { Fence.wide with round := ro }
def dfRel (V : Vu) (df : List Nat) (ds : List Deferred) : Prop := (∀ i ∈ df, i < V.nx) ∧ ds = df.map fun i => { target := .collected (V.ι i), args := #[] }
theorem dfRel.le {V V' : Vu} {w w' : World} {df : List Nat} {ds : List Deferred} (h : dfRel V df ds) (hV : V.Le V' w w') : dfRel V' df ds :=
  ⟨fun i hi => Nat.lt_of_lt_of_le (h.1 i hi) hV.nx, by rw [h.2]; exact List.map_congr_left fun i hi => by rw [hV.ι i (h.1 i hi)]⟩
theorem dfRel.nil {V : Vu} : dfRel V [] [] := ⟨(fun i hi => by cases hi), rfl⟩
theorem dfRel.trim {V : Vu} {df : List Nat} {ds : List Deferred} {m : Nat} (h : dfRel V df ds) (hm : ∀ i ∈ df, i < m) : dfRel { V with nx := m } df ds := ⟨hm, h.2⟩
structure Rel (E : Env) (V : Vu) (st : St) (a : Act) (w : World) : Prop where
  h : HRel E V st.hp st.tk w
  nx : V.nx = st.nx
  nt : a.tmps.size = st.nt
  df : dfRel V st.df a.defers
  tm : ∀ t x, lk st.tm t = some x → x.rel V w (a.tmps.getD t undef)
def XC (E : Env) (ro : Option Nat) (n : Nat) (Q : Exit → Act → World → Prop) (c : Code) (st : St) : Prop := ∀ V a w, Rel E V st a w → c.wpIn (FR ro) n E.P Q a w
def XL (E : Env) (ro : Option Nat) (n : Nat) (ops : Array Oper) (Q : Exit → Act → World → Prop) (rest : List Oper) (st : St) : Prop := ∀ V a w, Rel E V st a w → wpListIn (FR ro) n E.P ops Q rest a w
def XQ (E : Env) (Q : Exit → Act → World → Prop) (e : Exit) (st : St) : Prop := ∀ V a w, Rel E V st a w → Q e a w
def XO (E : Env) (o : Oper) (st st' : St) : Prop := ∀ V a w, Rel E V st a w → ∀ (ro : Option Nat) (n : Nat) (K : Act → World → Prop) (Q : Exit → Act → World → Prop), (∀ V' a' w', Rel E V' st' a' w' → K a' w') → o.wpIn (FR ro) n E.P a w K Q
def RO (E : Env) (o : Oper) (st : St) (x : TV) : Prop := (∀ c, o.op ≠ .defer c) ∧ ∀ V a w, Rel E V st a w → ∃ v, (execOp a.eval o).run E.P w = .ok (.value v) w ∧ x.rel V w v
def ST.put (st : St) (d : Nat) (x : TV) : St := { st with tm := (d, x) :: st.tm }
abbrev TVv (v : Value) : TV := .v (.one (.d (.v v)))
abbrev TI (n : Int) : TV := TVv (.int .i64 n)
abbrev TB (b : Bool) : TV := TVv (.bool b)
section
variable {E : Env} {V : Vu} {st : St} {a : Act} {w : World}
theorem getD_put {tmps : Array Value} {d t : Nat} {v : Value} (hd : d < tmps.size) : (tmps.setIfInBounds d v).getD t undef = if d = t then v else tmps.getD t undef := by
  by_cases h : d = t
  · subst h; simp [Array.getD, hd]
  · simp [Array.getElem?_setIfInBounds, h]
theorem Rel.put (h : Rel E V st a w) {d : Nat} {x : TV} {v : Value} (hd : d < st.nt) (hx : x.rel V w v) : Rel E V (ST.put st d x) (a.put (some d) v) w := by
  refine ⟨h.h, h.nx, by simp [Act.put, ST.put, h.nt], h.df, fun t y hy => ?_⟩
  simp only [ST.put, lk_cons] at hy
  simp only [Act.put]
  rw [getD_put (by rw [h.nt]; exact hd)]
  split at hy
  · rename_i e; rw [if_pos e]; cases hy; exact hx
  · rename_i e; rw [if_neg e]; exact h.tm t y hy
theorem Rel.und (h : Rel E V st a w) (d : Nat) : Rel E V (ST.put st d (.tup [])) (a.put (some d) undef) w := by
  refine ⟨h.h, h.nx, by simp [Act.put, ST.put, h.nt], h.df, fun t y hy => ?_⟩
  simp only [ST.put, lk_cons] at hy
  simp only [Act.put]
  by_cases hd : d < a.tmps.size
  · rw [getD_put hd]
    split at hy
    · rename_i e; rw [if_pos e]; cases hy; exact ⟨#[], rfl, rfl, fun i x hx => by simp at hx⟩
    · rename_i e; rw [if_neg e]; exact h.tm t y hy
  · rw [Array.setIfInBounds_eq_of_size_le (by omega)]
    split at hy
    · rename_i e; subst e; cases hy
      refine ⟨#[], ?_, rfl, fun i x hx => by simp at hx⟩
      simp [Array.getElem?_eq_none (Nat.le_of_not_lt hd), undef]
    · exact h.tm t y hy
theorem yielded_und (h : Rel E V st a w) {ops : Array Oper} {j d : Nat} (hj : (ops[j]?).bind (·.dst) = some d) (hb : lk st.tm d = some (.tup [])) : yielded ops a.tmps j = none := by
  obtain ⟨vs, h1, -⟩ := h.tm d _ hb
  rcases Nat.lt_or_ge d a.tmps.size with h2 | h2
  · have h3 : a.tmps[d]? = some (.tuple vs) := by
      rw [Array.getElem?_eq_getElem h2]
      simpa [h2] using h1
    simp [yielded, hj, h3]
  · simp [yielded, hj, Array.getElem?_eq_none h2]
def ev (tm : List (Nat × TV)) : Operand → Option TV
  | .tmp t => lk tm t
  | .const v => cond v.oneCell' (some (TVv v)) none
  | .func f => some (.v (.one (.fn f [])))
  | .global _ => none
theorem Rel.ev (h : Rel E V st a w) {o : Operand} {x : TV} (he : ev st.tm o = some x) : x.rel V w (a.eval o) := by
  cases o with
  | tmp t => exact h.tm t x he
  | const v =>
    simp only [Proofs.YtcapifnaceegmaaGreatDoor.ev] at he
    cases hv : v.oneCell' with
    | false => rw [hv] at he; cases he
    | true => rw [hv] at he; cases he; exact Reads.v v hv
  | func f => cases he; exact ⟨(fun p hp => nomatch hp), rfl⟩
  | global g => cases he
theorem val_of {V : Vu} {w : World} {y u : Value} (h : (TVv y).rel V w u) : u = y := by
  cases h; rfl
theorem rel_of {V : Vu} {w : World} {y : Value} (h : y.oneCell' = true) : (TVv y).rel V w y := Reads.v y h
theorem yielded_of (h : Rel E V st a w) {ops : Array Oper} {j d : Nat} {b : Bool} (hj : (ops[j]?).bind (·.dst) = some d) (hb : lk st.tm d = some (TB b)) : yielded ops a.tmps j = some b := by
  have h1 := val_of (h.tm d _ hb)
  have hlt : d < a.tmps.size := by
    rcases Nat.lt_or_ge d a.tmps.size with h2 | h2
    · exact h2
    · simp [Array.getElem?_eq_none h2, undef] at h1
  have h2 : a.tmps[d]? = some (.bool b) := by
    rw [Array.getElem?_eq_getElem hlt]
    simpa [hlt] using h1
  simp [yielded, hj, h2]
end
section
variable {E : Env} {ro : Option Nat} {n : Nat} {ops : Array Oper} {Q : Exit → Act → World → Prop} {rest : List Oper} {st st' : St} {o : Oper}
theorem XO.of_ro {d : Nat} {x : TV} (hdst : o.dst = some d) (hd : d < st.nt) (h : RO E o st x) : XO E o st (ST.put st d x) := by
  intro V a w hr ro n K Q hK
  obtain ⟨v, hrun, hx⟩ := h.2 V a w hr
  refine ⟨fun _ _ => trivial, ?_⟩
  rw [Oper.semAt_eq _ _ _ h.1, hrun]
  show K (a.put o.dst v) w
  rw [hdst]
  exact hK V _ w (hr.put hd hx)
theorem XL.op (hg : o.guard = none) (ho : XO E o st st') (k : XL E ro n ops Q rest st') : XL E ro n ops Q (o :: rest) st := by
  intro V a w h
  unfold wpListIn
  rw [if_pos (by simp [Region.wanted, hg])]
  exact ho V a w h ro n _ Q k
theorem XL.on {j d : Nat} {b : Bool} (hg : o.guard = some (j, b)) (hj : (ops[j]?).bind (·.dst) = some d) (hb : lk st.tm d = some (TB b)) (ho : XO E o st st') (k : XL E ro n ops Q rest st') : XL E ro n ops Q (o :: rest) st := by
  intro V a w h
  unfold wpListIn
  rw [if_pos (by simp [Region.wanted, hg, yielded_of h hj hb])]
  exact ho V a w h ro n _ Q k
theorem XL.offB {j d t : Nat} {b : Bool} (hg : o.guard = some (j, b)) (hj : (ops[j]?).bind (·.dst) = some d) (hb : lk st.tm d = some (TB (!b))) (hdst : o.dst = some t) (k : XL E ro n ops Q rest (ST.put st t (.tup []))) : XL E ro n ops Q (o :: rest) st := by
  intro V a w h
  unfold wpListIn
  rw [if_neg (by simp [Region.wanted, hg, yielded_of h hj hb])]
  refine ⟨fun _ _ => trivial, ?_⟩
  rw [hdst]
  exact k V _ w (h.und t)
theorem XL.offU {j d t : Nat} {b : Bool} (hg : o.guard = some (j, b)) (hj : (ops[j]?).bind (·.dst) = some d) (hb : lk st.tm d = some (.tup [])) (hdst : o.dst = some t) (k : XL E ro n ops Q rest (ST.put st t (.tup []))) : XL E ro n ops Q (o :: rest) st := by
  intro V a w h
  unfold wpListIn
  rw [if_neg (by simp [Region.wanted, hg, yielded_und h hj hb])]
  refine ⟨fun _ _ => trivial, ?_⟩
  rw [hdst]
  exact k V _ w (h.und t)
theorem XL.case {d : Nat} {c : Bool} (hb : lk st.tm d = some (TB c)) (ht : c = true → XL E ro n ops Q rest (ST.put st d (TB true))) (hf : c = false → XL E ro n ops Q rest (ST.put st d (TB false))) : XL E ro n ops Q rest st := by
  intro V a w h
  have key : ∀ b, c = b → Rel E V (ST.put st d (TB b)) a w := fun b e => by
    subst e
    refine ⟨h.h, h.nx, h.nt, h.df, fun t y hy => ?_⟩
    simp only [ST.put, lk_cons] at hy
    split at hy
    · rename_i e; subst e; cases hy; exact h.tm _ _ hb
    · exact h.tm t y hy
  cases hc : c with
  | true => exact ht hc V a w (key true hc)
  | false => exact hf hc V a w (key false hc)
theorem XL.nil (k : XQ E Q .normal st) : XL E ro n ops Q [] st := k
theorem XC.region {id : Nat} {l : List Oper} (h : XL E ro n l.toArray Q l st) : XC E ro n Q (.region id l.toArray false) st := fun V a w hr => wpIn_region_lit (h V a w hr)
theorem XC.seq {x y : Code} (h : XC E ro n (Exit.then (y.wpIn (FR ro) n E.P Q) Q) x st) : XC E ro n Q (.seq x y) st := fun V a w hr => wpIn_seq (h V a w hr)
theorem XQ.seq {y : Code} (h : XC E ro n Q y st) : XQ E (Exit.then (y.wpIn (FR ro) n E.P Q) Q) .normal st := h
theorem XQ.inBlock {id : Nat} (h : XQ E Q .normal st) : XQ E (Exit.inBlock id Q) .normal st := h
theorem XQ.blockX {id : Nat} (h : XQ E Q .normal st) : XQ E (Exit.inBlock id Q) (.exit id) st := fun V a w hr => by
  show (if id = id then Q .normal a w else Q (.exit id) a w)
  rw [if_pos rfl]; exact h V a w hr
theorem XQ.thenE {id : Nat} {K : Act → World → Prop} (h : XQ E Q (.exit id) st) : XQ E (Exit.then K Q) (.exit id) st := h
theorem XC.block {id : Nat} {c : Code} (h : XC E ro n (Exit.inBlock id Q) c st) : XC E ro n Q (.block id c) st := fun V a w hr => wpIn_block (h V a w hr)
theorem XC.skip (h : XQ E Q .normal st) : XC E ro n Q .skip st := fun V a w hr => wpIn_skip (h V a w hr)
theorem XC.ret (h : XQ E Q .ret st) : XC E ro n Q .ret st := fun V a w hr => wpIn_ret (h V a w hr)
theorem XC.exit {id : Nat} (h : XQ E Q (.exit id) st) : XC E ro n Q (.exit id) st := fun V a w hr => wpIn_exit (h V a w hr)
theorem XC.cond {c : Operand} {x y : Code} {b : Bool} (hc : ev st.tm c = some (TB b)) (ht : b = true → XC E ro n Q x st) (hf : b = false → XC E ro n Q y st) : XC E ro n Q (.cond c x y) st :=
  fun V a w hr => wpIn_cond_split (val_of (hr.ev hc)) (fun e => ht e V a w hr) (fun e => hf e V a w hr)
end
end
section
open Go.RowKit
set_option linter.unusedSimpArgs false
set_option linter.unusedVariables false
set_option linter.unusedSectionVars false
def fieldOff (P : Program) (s f : Nat) : Option Nat :=
  match P.underlying s with
  | some (.struct fs) => match fs[f]? with
    | some fd => match P.info? fd.type with
      | some i => if i.size = 0 then none else some fd.offset
      | none => none
    | none => none
  | _ => none
def tyAgg (P : Program) (t : TypeId) : Option (Bool × Nat) :=
  match P.underlying t, P.info? t with
  | some (.struct _), some i => some (true, i.size)
  | some (.array _ _), some i => some (true, i.size)
  | some _, some i => some (false, i.size)
  | _, _ => none
def tySlice (P : Program) (t : TypeId) : Option (TypeId × Nat) :=
  match P.underlying t with
  | some (.slice e) => match P.info? e with
    | some i => some (e, i.size)
    | none => none
  | _ => none
theorem tySlice_spec {P : Program} {t e sz : Nat} (h : tySlice P t = some (e, sz)) : P.underlying t = some (.slice e) ∧ ∃ i, P.info? e = some i ∧ i.size = sz := by
  unfold tySlice at h
  split at h
  · rename_i e' he
    split at h
    · rename_i i hi; cases h; exact ⟨he, i, hi, rfl⟩
    · cases h
  · cases h
section
variable {E : Env} {st : St} {d : Option Tmp} {ty : TypeId} {pos : String} {af : Array Edge} {g : Option (Nat × Bool)}
theorem RO.move {x : Operand} {v : TV} (h : ev st.tm x = some v) : RO E ⟨d, .move x, ty, pos, af, g⟩ st v :=
  ⟨(fun _ h => nomatch h), fun V a w hr => ⟨a.eval x, by simp [execOp], hr.ev h⟩⟩
theorem RO.assign {x : Operand} {v : TV} (h : ev st.tm x = some v) : RO E ⟨d, .assign x, ty, pos, af, g⟩ st v :=
  ⟨(fun _ h => nomatch h), fun V a w hr => ⟨a.eval x, by simp [execOp], hr.ev h⟩⟩
theorem RO.pickT {c x y : Operand} {v : TV} (hc : ev st.tm c = some (TB true)) (h : ev st.tm x = some v) : RO E ⟨d, .pick c x y, ty, pos, af, g⟩ st v :=
  ⟨(fun _ h => nomatch h), fun V a w hr => ⟨a.eval x, by simp [execOp, val_of (hr.ev hc), asBool], hr.ev h⟩⟩
theorem RO.pickF {c x y : Operand} {v : TV} (hc : ev st.tm c = some (TB false)) (h : ev st.tm y = some v) : RO E ⟨d, .pick c x y, ty, pos, af, g⟩ st v :=
  ⟨(fun _ h => nomatch h), fun V a w hr => ⟨a.eval y, by simp [execOp, val_of (hr.ev hc), asBool], hr.ev h⟩⟩
def cmpB : BinOp → Int → Int → Option Bool
  | .eql, m, n => some (m == n)
  | .neq, m, n => some (m != n)
  | .lss, m, n => some (decide (m < n))
  | .leq, m, n => some (decide (m ≤ n))
  | .gtr, m, n => some (decide (n < m))
  | .geq, m, n => some (decide (n ≤ m))
  | _, _, _ => none
theorem RO.cmp {op : BinOp} {t t' : TypeId} {x y : Operand} {k : IntKind} {m n : Int} {b : Bool} (hx : ev st.tm x = some (TVv (.int k m))) (hy : ev st.tm y = some (TVv (.int k n))) (hb : cmpB op m n = some b) :
    RO E ⟨d, .binOp op t x y t', ty, pos, af, g⟩ st (TB b) := by
  refine ⟨(fun _ h => nomatch h), fun V a w hr => ⟨.bool b, ?_, rel_of rfl⟩⟩
  have h1 := val_of (hr.ev hx)
  have h2 := val_of (hr.ev hy)
  cases op <;> simp [cmpB] at hb <;> subst hb <;> simp [execOp, eqGuard, binOp, Op.intCmp, h1, h2]
theorem RO.not {t : TypeId} {x : Operand} {b : Bool} (hx : ev st.tm x = some (TB b)) : RO E ⟨d, .unOp .not t x, ty, pos, af, g⟩ st (TB (!b)) :=
  ⟨(fun _ h => nomatch h), fun V a w hr => ⟨.bool (!b), by simp [execOp, Op.unary, val_of (hr.ev hx)], rel_of rfl⟩⟩
def aritI : BinOp → Int → Int → Option Int
  | .add, m, n => some (m + n)
  | .sub, m, n => some (m - n)
  | .mul, m, n => some (m * n)
  | _, _, _ => none
theorem RO.arith {op : BinOp} {t t' : TypeId} {x y : Operand} {m n r : Int} (hx : ev st.tm x = some (TI m)) (hy : ev st.tm y = some (TI n)) (hb : aritI op m n = some r)
    (h1 : -9223372036854775808 ≤ r) (h2 : r ≤ 9223372036854775807) : RO E ⟨d, .binOp op t x y t', ty, pos, af, g⟩ st (TI r) := by
  refine ⟨(fun _ h => nomatch h), fun V a w hr => ⟨.int .i64 r, ?_, rel_of rfl⟩⟩
  have e1 := val_of (hr.ev hx)
  have e2 := val_of (hr.ev hy)
  have e3 : IntKind.i64.wrap r = r := IntWalk.i64_in _ (by omega)
  cases op <;> simp only [aritI, Option.some.injEq, reduceCtorEq] at hb <;> subst hb <;> simp [execOp, eqGuard, binOp, Op.intArith, e1, e2, e3]
theorem fieldOff_spec {P : Program} {s f k : Nat} (h : fieldOff P s f = some k) : ∃ fs fd i, P.underlying s = some (.struct fs) ∧ fs[f]? = some fd ∧ P.info? fd.type = some i ∧ i.size ≠ 0 ∧ fd.offset = k := by
  unfold fieldOff at h
  split at h
  · rename_i fs hfs
    split at h
    · rename_i fd hfd
      split at h
      · rename_i i hi
        split at h
        · cases h
        · rename_i hn; cases h; exact ⟨fs, fd, i, hfs, hfd, hi, hn, rfl⟩
      · cases h
    · cases h
  · cases h
theorem addr_add (b o k : Nat) : (⟨b, o, none⟩ : Addr).add k = ⟨b, o + k, none⟩ := by unfold Addr.add; split <;> simp_all
theorem run_fieldAt {P : Program} {s f k b o : Nat} (h : fieldOff P s f = some k) (w : World) : (Instr.fieldAt s (.pointer (some ⟨b, o, none⟩)) f).run P w = .ok (.pointer (some ⟨b, o + k, none⟩)) w := by
  obtain ⟨fs, fd, i, h1, h2, h3, h4, rfl⟩ := fieldOff_spec h
  simp [Instr.fieldAt, run_underlying h1, h2, Instr.sureAddr, fieldPlace, sizeOf, typeInfo, h3, h4, addr_add]
theorem RO.fieldOwn {s f k i off : Nat} {x : Operand} (hk : fieldOff E.P s f = some k) (hx : ev st.tm x = some (.v (.one (.ptr i off)))) : RO E ⟨d, .fieldAddr s x f, ty, pos, af, g⟩ st (.v (.one (.ptr i (off + k)))) := by
  refine ⟨(fun _ h => nomatch h), fun V a w hr => ?_⟩
  have h1 := hr.ev hx
  exact ⟨_, by simp only [execOp, h1.2, Sem.run_bind, run_fieldAt hk]; rfl, h1.1, rfl⟩
theorem RO.fieldPel {s f k off : Nat} {e : List C} {x : Operand} (hk : fieldOff E.P s f = some k) (hx : ev st.tm x = some (.v (.one (.pel e off)))) : RO E ⟨d, .fieldAddr s x f, ty, pos, af, g⟩ st (.v (.one (.pel e (off + k)))) := by
  refine ⟨(fun _ h => nomatch h), fun V a w hr => ?_⟩
  obtain ⟨b, o, f', h1, h2⟩ := hr.ev hx
  exact ⟨_, by simp only [execOp, h1, Sem.run_bind, run_fieldAt hk]; rfl, b, o, f', by rw [Nat.add_assoc], h2⟩
theorem tyAgg_spec {P : Program} {t n : Nat} {ag : Bool} (h : tyAgg P t = some (ag, n)) (w : World) : (isAgg t).run P w = .ok ag w ∧ (sizeOf t).run P w = .ok n w := by
  unfold tyAgg at h
  split at h
  · rename_i hu hi; cases h; exact ⟨by simp [isAgg, run_underlying hu], by simp [sizeOf, typeInfo, hi]⟩
  · rename_i hu hi; cases h; exact ⟨by simp [isAgg, run_underlying hu], by simp [sizeOf, typeInfo, hi]⟩
  · rename_i dsc i h1 h2 hu hi; cases h
    refine ⟨?_, by simp [sizeOf, typeInfo, hi]⟩
    cases dsc <;> simp [isAgg, run_underlying hu] <;> simp_all
  · cases h
theorem run_loadCellsFrom (P : Program) (w : World) (b o : Nat) (us : Nat → Value) : ∀ (n i : Nat) (acc : Array Value), (∀ j, i ≤ j → j < i + n → w.cell? ⟨b, o + j, none⟩ = some (us j)) →
    (loadCellsFrom ⟨b, o, none⟩ i n acc).run P w = .ok (acc ++ ((List.range' i n).map us).toArray) w
  | 0, i, acc, _ => by simp [loadCellsFrom]
  | n + 1, i, acc, h => by
    have h0 := h i (Nat.le_refl _) (by omega)
    have ih := run_loadCellsFrom P w b o us n (i + 1) (acc.push (us i)) (fun j h1 h2 => h j (by omega) (by omega))
    simp only [loadCellsFrom, Sem.run_bind, addr_add, load, Sem.run, h0, Result.andThen_ok, ih]
    simp [List.range'_succ]
theorem run_loadAgg {P : Program} {w : World} {t n b o : Nat} (us : Nat → Value) (ht : tyAgg P t = some (true, n)) (h : ∀ j, j < n → w.cell? ⟨b, o + j, none⟩ = some (us j)) :
    (Instr.loadAt t (.pointer (some ⟨b, o, none⟩))).run P w = .ok (.agg ((List.range' 0 n).map us).toArray) w := by
  obtain ⟨h1, h2⟩ := tyAgg_spec ht w
  have h3 := run_loadCellsFrom P w b o us n 0 #[] (fun j _ hj => h j (by omega))
  simp only [Array.empty_append] at h3
  simp [Instr.loadAt, Instr.sureAddr, loadVar, h1, h2, loadCells, h3]
theorem run_loadOne {P : Program} {w : World} {t n b o : Nat} {u : Value} (ht : tyAgg P t = some (false, n)) (h : w.cell? ⟨b, o, none⟩ = some u) :
    (Instr.loadAt t (.pointer (some ⟨b, o, none⟩))).run P w = .ok u w := by
  obtain ⟨h1, h2⟩ := tyAgg_spec ht w
  simp [Instr.loadAt, Instr.sureAddr, loadVar, h1, load, Sem.run, h]
theorem RO.loadOwn {t n i off : Nat} {T : TypeId} {xs : List CA} {x : Operand} {y : CA} (ht : tyAgg E.P t = some (false, n)) (hx : ev st.tm x = some (.v (.one (.ptr i off)))) (hi : lk st.hp i = some (.cells T xs)) (hy : xs[off]? = some y) :
    RO E ⟨d, .load t x, ty, pos, af, g⟩ st (.v (.one y)) := by
  refine ⟨(fun _ h => nomatch h), fun V a w hr => ?_⟩
  have h1 := hr.ev hx
  obtain ⟨-, o, ho, vs, rfl, hvs⟩ := hr.h.own i _ hi
  obtain ⟨u, hu, hyu⟩ := hvs.2 off y hy
  exact ⟨u, by simp only [execOp, h1.2, Sem.run_bind, run_loadOne ht ((cell_of_own ho off).trans hu)]; rfl, hyu⟩
theorem RO.loadOwnAgg {t n i off : Nat} {T : TypeId} {xs ys : List CA} {x : Operand} (ht : tyAgg E.P t = some (true, n)) (hx : ev st.tm x = some (.v (.one (.ptr i off)))) (hi : lk st.hp i = some (.cells T xs)) (hy : (xs.drop off).take n = ys) (hn : ys.length = n) :
    RO E ⟨d, .load t x, ty, pos, af, g⟩ st (.v (.agg ys)) := by
  refine ⟨(fun _ h => nomatch h), fun V a w hr => ?_⟩
  have h1 := hr.ev hx
  obtain ⟨-, o, ho, vs, rfl, hvs⟩ := hr.h.own i _ hi
  have hget : ∀ j, j < n → ys[j]? = xs[off + j]? := fun j hj => by subst hy; rw [List.getElem?_take_of_lt hj, List.getElem?_drop]
  have hxs : ∀ j, j < n → ∃ y, ys[j]? = some y ∧ xs[off + j]? = some y := fun j hj => by
    have : ys[j]? = some ys[j] := List.getElem?_eq_getElem (by omega)
    exact ⟨_, this, (hget j hj).symm.trans this⟩
  have hc : ∀ j, j < n → w.cell? ⟨V.ι i, off + j, none⟩ = some (vs.getD (off + j) undef) := fun j hj => by
    obtain ⟨y, -, h3⟩ := hxs j hj
    obtain ⟨u, hu, -⟩ := hvs.2 _ y h3
    rw [cell_of_own ho, hu]
    simp [hu]
  refine ⟨_, by simp only [execOp, h1.2, Sem.run_bind, run_loadAgg _ ht hc]; rfl, _, rfl, by simp [hn], fun j y hy' => ?_⟩
  have hj : j < n := by have := (List.getElem?_eq_some_iff.1 hy').1; omega
  obtain ⟨y', h2, h3⟩ := hxs j hj
  rw [hy'] at h2; cases h2
  obtain ⟨u, hu, hyu⟩ := hvs.2 _ y h3
  refine ⟨u, ?_, hyu⟩
  simp [hj, hu]
theorem RO.loadPel {t n off : Nat} {e : List C} {x : Operand} {c : C} (ht : tyAgg E.P t = some (false, n)) (hx : ev st.tm x = some (.v (.one (.pel e off)))) (hc : e[off]? = some c) :
    RO E ⟨d, .load t x, ty, pos, af, g⟩ st (.v (.one (.d c))) := by
  refine ⟨(fun _ h => nomatch h), fun V a w hr => ?_⟩
  obtain ⟨b, o, f', h1, h2⟩ := hr.ev hx
  obtain ⟨h3, -, h4⟩ := h2 off c hc
  exact ⟨f' off, by simp only [execOp, h1, Sem.run_bind, run_loadOne ht h3]; rfl, h4⟩
theorem RO.loadPelAgg {t n off : Nat} {e cs : List C} {x : Operand} (ht : tyAgg E.P t = some (true, n)) (hx : ev st.tm x = some (.v (.one (.pel e off)))) (hy : (e.drop off).take n = cs) (hn : cs.length = n) :
    RO E ⟨d, .load t x, ty, pos, af, g⟩ st (.v (.agg (cs.map .d))) := by
  refine ⟨(fun _ h => nomatch h), fun V a w hr => ?_⟩
  obtain ⟨b, o, f', h1, h2⟩ := hr.ev hx
  have hxs : ∀ j, j < n → ∃ y, cs[j]? = some y ∧ e[off + j]? = some y := fun j hj => by
    have h0 : cs[j]? = e[off + j]? := by subst hy; rw [List.getElem?_take_of_lt hj, List.getElem?_drop]
    have : cs[j]? = some cs[j] := List.getElem?_eq_getElem (by omega)
    exact ⟨_, this, h0.symm.trans this⟩
  have hc : ∀ j, j < n → w.cell? ⟨b, o + off + j, none⟩ = some (f' (off + j)) := fun j hj => by
    obtain ⟨y, -, h3⟩ := hxs j hj
    rw [Nat.add_assoc]
    exact (h2 _ y h3).1
  refine ⟨_, by simp only [execOp, h1, Sem.run_bind, run_loadAgg _ ht hc]; rfl, _, rfl, by simp [hn], fun j y hy' => ?_⟩
  have hj : j < n := by have := (List.getElem?_eq_some_iff.1 hy').1; simp at this; omega
  obtain ⟨y', h3, h4⟩ := hxs j hj
  rw [List.getElem?_map, h3] at hy'
  cases hy'
  exact ⟨f' (off + j), by simp [hj], (h2 _ y' h4).2.2⟩
inductive SlOf : CA → Nat → List (List C) → Prop
  | d (sz : Nat) (es : List (List C)) : SlOf (.d (.sl sz es)) sz es
  | app (i sz : Nat) (es : List (List C)) : SlOf (.app i sz es) sz es
  | nil (sz : Nat) : SlOf (.d (.v (.slice none 0 0))) sz []
theorem SlOf.reads {V : Vu} {w : World} {x : CA} {sz : Nat} {es : List (List C)} (h : SlOf x sz es) {v : Value} (hv : x.rel V w v) : Reads V.S w (.sl sz es) v := by
  cases h with
  | d => exact hv
  | app => exact hv.2.2.2
  | nil =>
    cases hv
    exact .sl sz [] none 0 0 0 (fun _ _ => undef) (Nat.le_refl _) (fun h => absurd rfl h) (fun i e h => by simp at h) (fun i e j c h => by simp at h) (fun i e j c h => by simp at h) (fun i e j c h => by simp at h)
theorem RO.len {t : TypeId} {e sz : Nat} {x : Operand} {y : CA} {es : List (List C)} (ht : tySlice E.P t = some (e, sz)) (hx : ev st.tm x = some (.v (.one y))) (hs : SlOf y sz es) :
    RO E ⟨d, .call { callee := .builtin .len, args := #[x], argTypes := #[t] }, ty, pos, af, g⟩ st (TI es.length) := by
  refine ⟨(fun _ h => nomatch h), fun V a w hr => ⟨.int .i64 es.length, ?_, rel_of rfl⟩⟩
  have h1 := hs.reads (hr.ev hx)
  generalize hv : a.eval x = v at h1
  cases h1
  simp [execOp, resolve, invoke, builtin, Builtin.len_, hv, run_underlying (tySlice_spec ht).1, goInt]
theorem RO.index {t : TypeId} {e0 sz k : Nat} {x i : Operand} {y : CA} {es : List (List C)} {e : List C} {m : Int} (ht : tySlice E.P t = some (e0, sz)) (hx : ev st.tm x = some (.v (.one y))) (hs : SlOf y sz es)
    (hi : ev st.tm i = some (TI m)) (hm : m = (k : Int)) (he : es[k]? = some e) : RO E ⟨d, .indexAddr t x i, ty, pos, af, g⟩ st (.v (.one (.pel e 0))) := by
  refine ⟨(fun _ h => nomatch h), fun V a w hr => ?_⟩
  have h1 := hs.reads (hr.ev hx)
  have h2 := val_of (hr.ev hi)
  obtain ⟨hu, i0, hi0, hsz⟩ := tySlice_spec ht
  have hlt := (List.getElem?_eq_some_iff.1 he).1
  subst hm
  generalize hv : a.eval x = v at h1
  cases h1 with
  | sl _ _ aa cap b off f hcap ha hl hc hss hr' =>
    have := ha (fun e' => by subst e'; simp at he)
    subst this
    refine ⟨.pointer (some ⟨b, off + k * sz, none⟩), ?_, b, off + k * sz, f k, rfl, fun j c hj => ⟨hc k e j c he hj, hss k e j c he hj, hr' k e j c he hj⟩⟩
    simp only [execOp, hv, h2, Instr.indexAt, asIntOf, Sem.run_bind, Sem.run_pure, Result.andThen_ok, run_underlying hu, sizeOf, typeInfo]
    simp [hi0, hsz, addr_add, hlt, Sem.run, program]
theorem RO.extract {x : Operand} {k : Nat} {xs : List AV} {y : AV} (hx : ev st.tm x = some (.tup xs)) (hk : xs[k]? = some y) : RO E ⟨d, .extract x k, ty, pos, af, g⟩ st (.v y) := by
  refine ⟨(fun _ h => nomatch h), fun V a w hr => ?_⟩
  obtain ⟨vs, h1, h2, h3⟩ := hr.ev hx
  obtain ⟨u, hu, hyu⟩ := h3 k y hk
  exact ⟨u, by simp [execOp, h1, Instr.extract, hu], hyu⟩
theorem RO.max2 {x y : Operand} {t1 t2 : TypeId} {m n : Int} (hx : ev st.tm x = some (TI m)) (hy : ev st.tm y = some (TI n)) :
    RO E ⟨d, .call { callee := .builtin .max, args := #[x, y], argTypes := #[t1, t2] }, ty, pos, af, g⟩ st (TI (max m n)) := by
  refine ⟨(fun _ h => nomatch h), fun V a w hr => ⟨.int .i64 (max m n), ?_, rel_of rfl⟩⟩
  simp [execOp, resolve, invoke, builtin, Builtin.max_, Builtin.max2, val_of (hr.ev hx), val_of (hr.ev hy)]
  omega
theorem RO.min2 {x y : Operand} {t1 t2 : TypeId} {m n : Int} (hx : ev st.tm x = some (TI m)) (hy : ev st.tm y = some (TI n)) :
    RO E ⟨d, .call { callee := .builtin .min, args := #[x, y], argTypes := #[t1, t2] }, ty, pos, af, g⟩ st (TI (min m n)) := by
  refine ⟨(fun _ h => nomatch h), fun V a w hr => ⟨.int .i64 (min m n), ?_, rel_of rfl⟩⟩
  simp [execOp, resolve, invoke, builtin, Builtin.min_, Builtin.min2, val_of (hr.ev hx), val_of (hr.ev hy)]
  omega
end
end
section
open Go.RowKit
set_option linter.unusedSimpArgs false
set_option linter.unusedVariables false
set_option linter.unusedSectionVars false
def Vu.of (S : Nat → Nat → Prop) : Vu := ⟨0, fun _ => 0, fun _ _ => undef, fun _ => 0, S⟩
inductive CSub : CA → C → Prop
  | d (c : C) : CSub (.d c) c
  | app (i sz : Nat) (es : List (List C)) : CSub (.app i sz es) (.sl sz es)
  | nil (sz : Nat) : CSub (.d (.v (.slice none 0 0))) (.sl sz [])
theorem CSub.reads {V : Vu} {w : World} {x : CA} {c : C} (h : CSub x c) {v : Value} (hv : x.rel V w v) : Reads V.S w c v := by
  cases h with
  | d => exact hv
  | app => exact hv.2.2.2
  | nil sz => exact (SlOf.nil sz).reads hv
inductive CSubs : List CA → List C → Prop
  | nil : CSubs [] []
  | cons {x : CA} {c : C} {xs : List CA} {cs : List C} (h : CSub x c) (t : CSubs xs cs) : CSubs (x :: xs) (c :: cs)
theorem CSubs.len {xs : List CA} {cs : List C} (h : CSubs xs cs) : xs.length = cs.length := by
  induction h with
  | nil => rfl
  | cons _ _ ih => simp [ih]
theorem CSubs.get {xs : List CA} {cs : List C} (h : CSubs xs cs) : ∀ (i : Nat) (c : C), cs[i]? = some c → ∃ x, xs[i]? = some x ∧ CSub x c := by
  induction h with
  | nil => intro i c hc; simp at hc
  | cons h t ih =>
    intro i c hc
    cases i with
    | zero => simp at hc; subst hc; exact ⟨_, rfl, h⟩
    | succ i => exact ih i c (by simpa using hc)
inductive LSub : List CA → List CA → Prop
  | nil : LSub [] []
  | cons {x : CA} {c : C} {xs ys : List CA} (h : CSub x c) (t : LSub xs ys) : LSub (x :: xs) (.d c :: ys)
theorem LSub.len {xs ys : List CA} (h : LSub xs ys) : xs.length = ys.length := by
  induction h with
  | nil => rfl
  | cons _ _ ih => simp [ih]
theorem LSub.get {xs ys : List CA} (h : LSub xs ys) : ∀ (i : Nat) (y : CA), ys[i]? = some y → ∃ x c, xs[i]? = some x ∧ y = .d c ∧ CSub x c := by
  induction h with
  | nil => intro i c hc; simp at hc
  | cons h t ih =>
    intro i c hc
    cases i with
    | zero => simp at hc; subst hc; exact ⟨_, _, rfl, rfl, h⟩
    | succ i => exact ih i c (by simpa using hc)
inductive ASub : AV → AV → Prop
  | one {x : CA} {c : C} (h : CSub x c) : ASub (.one x) (.one (.d c))
  | agg {xs ys : List CA} (h : LSub xs ys) : ASub (.agg xs) (.agg ys)
theorem rels_of_subs {V : Vu} {w : World} {xs ys : List CA} (h : LSub xs ys) {vs : Array Value} (hv : rels V w xs vs) : rels (Vu.of V.S) w ys vs := by
  refine ⟨by rw [hv.1, h.len], fun i y hy => ?_⟩
  obtain ⟨x, c, hx, rfl, hs⟩ := h.get i y hy
  obtain ⟨u, hu, hr⟩ := hv.2 i x hx
  exact ⟨u, hu, show Reads V.S w c u from hs.reads hr⟩
theorem ASub.rel {V : Vu} {w : World} {x y : AV} (h : ASub x y) {v : Value} (hv : x.rel V w v) : y.rel (Vu.of V.S) w v := by
  cases h with
  | one h => exact (show Reads V.S w _ v from h.reads hv)
  | agg h => obtain ⟨vs, h1, h2⟩ := hv; exact ⟨vs, h1, rels_of_subs h h2⟩
def argsRel (V : Vu) (w : World) (args : List AV) (vs : Array Value) : Prop :=
  vs.size = args.length ∧ ∀ (i : Nat) (x : AV), args[i]? = some x → ∃ u, vs[i]? = some u ∧ x.rel V w u
def Enters (P : Program) (f : FuncId) : Prop := ∀ (ars : Array Value) (w : World), (callFunc f ars).run P w = .ok (.enter f ars) w
def Fun (P : Program) (f : FuncId) (args : List AV) (res : TV) : Prop :=
  Enters P f ∧ ∀ (S : Nat → Nat → Prop) (w : World) (vs : Array Value), (∀ b o, S b o → b < w.heap.size) → Tabs P S w → argsRel (Vu.of S) w args vs →
    Calls P f vs w fun e w' => ∃ v S', e = .returned v ∧ ExtF w w' ∧ (∀ b o, S b o → S' b o) ∧ (∀ b o, S' b o → (S b o ∨ w.heap.size ≤ b) ∧ b < w'.heap.size) ∧ res.rel (Vu.of S') w' v
section
variable {E : Env} {st : St} {d : Nat} {ty : TypeId} {pos : String} {af : Array Edge} {g : Option (Nat × Bool)}
theorem Rel.later {V V' : Vu} {a : Act} {w w' : World} (h : Rel E V st a w) (hx : ExtF w w') (hg : V.Grow V' w w') (hn : V'.nx = V.nx) : Rel E V' st a w' :=
  ⟨h.h.later hx hg, hn.trans h.nx, h.nt, h.df.le (h.h.le hx hg), fun t x hx' => (h.tm t x hx').mono (h.h.le hx hg)⟩
theorem XO.call {f : FuncId} {args : List AV} {res : TV} {ars : Array Operand} {ats : Array TypeId} (hF : Fun E.P f args res) (hn : ars.size = args.length)
    (ha : ∀ (i : Nat) (y : AV), args[i]? = some y → ∃ o x, ars[i]? = some o ∧ ev st.tm o = some (.v x) ∧ ASub x y) (hd : d < st.nt) :
    XO E ⟨some d, .call { callee := .value (.func f), args := ars, argTypes := ats }, ty, pos, af, g⟩ st (ST.put st d res) := by
  intro V a w hr ro n K Q hK
  refine ⟨fun _ _ => trivial, ?_⟩
  rw [Oper.semAt_eq _ _ _ (by intro c h; cases h)]
  have hrun : (execOp a.eval ⟨some d, .call { callee := .value (.func f), args := ars, argTypes := ats }, ty, pos, af, g⟩).run E.P w = .ok (.enter f (ars.map a.eval)) w := by
    have := hF.1 (ars.map a.eval) w
    simp [execOp, resolve, Act.eval, Deferred.ofValue, invoke]
    simpa using this
  rw [hrun]
  refine ⟨(by intro h; cases h), ?_⟩
  have hc := hF.2 V.S w (ars.map a.eval) hr.h.sz hr.h.tabs ⟨by rw [Array.size_map]; exact hn, fun i y hy => by
    obtain ⟨o, x, h1, h2, h3⟩ := ha i y hy
    exact ⟨a.eval o, by simp [h1], h3.rel (hr.ev h2)⟩⟩
  have hc' : CallsIn Fence.wide (n - 1) E.P f (ars.map a.eval) w _ := callsIn_wide.2 hc
  refine CallsIn.mono (F := FR ro) hc' ?_
  rintro e w' ⟨v, S', rfl, hx, hS, hS', hv⟩
  have hg : V.Grow { V with S := S' } w w' := ⟨Nat.le_refl _, fun _ _ => rfl, fun _ _ => rfl, fun _ _ _ _ => rfl, hS, fun b o h => (hS' b o h).1, fun b o h => (hS' b o h).2⟩
  refine hK { V with S := S' } _ w' ((hr.later hx hg rfl).put hd ?_)
  exact TV.rel.mono (V := Vu.of S') (V' := { V with S := S' }) (w := w') (w' := w') ⟨Nat.zero_le _, (fun i hi => absurd hi (Nat.not_lt_zero i)), (fun i hi => absurd hi (Nat.not_lt_zero i)), (fun i hi => absurd hi (Nat.not_lt_zero i)), fun _ _ h => h, fun _ _ _ => rfl⟩ hv
theorem XO.call1 {f : FuncId} {y1 : AV} {res : TV} {o1 : Operand} {x1 : AV} {ats : Array TypeId} (hF : Fun E.P f [y1] res) (h1 : ev st.tm o1 = some (.v x1)) (s1 : ASub x1 y1) (hd : d < st.nt) :
    XO E ⟨some d, .call { callee := .value (.func f), args := #[o1], argTypes := ats }, ty, pos, af, g⟩ st (ST.put st d res) :=
  XO.call hF rfl (fun i y hy => by
    match i, hy with
    | 0, hy => cases hy; exact ⟨o1, x1, rfl, h1, s1⟩) hd
theorem rel_add {V : Vu} {a : Act} {w : World} (hr : Rel E V st a w) (o : Obj) (B : HB) (hB : B.rel (V.add w.heap.size) (w.alloc o) o) (hd : d < st.nt) :
    Rel E (V.add w.heap.size) ⟨(d, .v (.one (.ptr st.nx 0))) :: st.tm, (st.nx, B) :: st.hp, st.tk, st.nx + 1, st.nt, st.df⟩ (a.put (some d) (.pointer (some ⟨w.heap.size, 0, none⟩))) (w.alloc o) := by
  have hx : ExtF w (w.alloc o) := ⟨rfl, rfl, rfl, by simp, fun k hk _ => Below.heap_alloc w o k hk⟩
  have H := hr.h.addOwn o B hB
  rw [hr.nx] at H
  have h1 : Rel E (V.add w.heap.size) ⟨st.tm, (st.nx, B) :: st.hp, st.tk, st.nx + 1, st.nt, st.df⟩ a (w.alloc o) :=
    ⟨H, by show V.nx + 1 = _; rw [hr.nx], hr.nt, hr.df.le (hr.h.le hx (V.add_grow w.heap.size hr.h.sz hx)), fun t x hx' => (hr.tm t x hx').mono (hr.h.le hx (V.add_grow w.heap.size hr.h.sz hx))⟩
  refine h1.put (d := d) hd ⟨?_, ?_⟩
  · show st.nx < V.nx + 1; rw [hr.nx]; exact Nat.lt_succ_self _
  · rw [← hr.nx, V.add_at]
theorem XO.box {t : TypeId} {o : Operand} {x : AV} (hx : ev st.tm o = some (.v x)) (hd : d < st.nt) :
    XO E ⟨some d, .box t o, ty, pos, af, g⟩ st ⟨(d, .v (.one (.ptr st.nx 0))) :: st.tm, (st.nx, .cells t x.cells) :: st.hp, st.tk, st.nx + 1, st.nt, st.df⟩ := by
  intro V a w hr ro n K Q hK
  refine ⟨fun _ _ => trivial, ?_⟩
  rw [Oper.semAt_eq _ _ _ (by intro c h; cases h)]
  have hrun : (execOp a.eval ⟨some d, .box t o, ty, pos, af, g⟩).run E.P w = .ok (.value (.pointer (some ⟨w.heap.size, 0, none⟩))) (w.alloc (.cells (a.eval o).cells t)) := by
    simp [execOp, Instr.box, newVar, newRow]
  rw [hrun]
  have hxc := (hr.ev hx).cells
  have hE : ExtF w (w.alloc (.cells (a.eval o).cells t)) := ⟨rfl, rfl, rfl, by simp, fun k hk _ => Below.heap_alloc w _ k hk⟩
  exact hK _ _ _ (rel_add hr _ (.cells t x.cells) ⟨_, rfl, hxc.mono (hr.h.le hE (V.add_grow w.heap.size hr.h.sz hE))⟩ hd)
def tyZero (P : Program) (t : TypeId) : Option (List Value) := ((P.info? t).bind (·.zero)).map (·.cells.toList)
theorem tyZero_spec {P : Program} {t : TypeId} {zs : List Value} (h : tyZero P t = some zs) : ∃ z, (∀ w, (zeroValue t).run P w = .ok z w) ∧ z.cells = zs.toArray := by
  unfold tyZero at h
  cases hi : P.info? t with
  | none => rw [hi] at h; cases h
  | some i =>
    rw [hi] at h
    cases hz : i.zero with
    | none => simp [hz] at h
    | some z =>
      simp [hz] at h
      exact ⟨z, fun w => by simp [zeroValue, typeInfo, hi, hz], by rw [← h]⟩
theorem XO.alloc {t : TypeId} {zs : List Value} (hz : tyZero E.P t = some zs) (h1 : zs.all (·.oneCell') = true) (hd : d < st.nt) :
    XO E ⟨some d, .alloc t, ty, pos, af, g⟩ st ⟨(d, .v (.one (.ptr st.nx 0))) :: st.tm, (st.nx, .cells t (zs.map fun z => .d (.v z))) :: st.hp, st.tk, st.nx + 1, st.nt, st.df⟩ := by
  intro V a w hr ro n K Q hK
  refine ⟨fun _ _ => trivial, ?_⟩
  rw [Oper.semAt_eq _ _ _ (by intro c h; cases h)]
  obtain ⟨z, hz1, hz2⟩ := tyZero_spec hz
  have hrun : (execOp a.eval ⟨some d, .alloc t, ty, pos, af, g⟩).run E.P w = .ok (.value (.pointer (some ⟨w.heap.size, 0, none⟩))) (w.alloc (.cells zs.toArray t)) := by
    simp [execOp, Instr.alloc, hz1, newVar, newRow, hz2]
  rw [hrun]
  refine hK _ _ _ (rel_add hr _ (.cells t _) ⟨_, rfl, by simp, fun i x hx => ?_⟩ hd)
  rw [List.getElem?_map] at hx
  cases hi : zs[i]? with
  | none => rw [hi] at hx; cases hx
  | some z' =>
    rw [hi] at hx; cases hx
    exact ⟨z', by simp [hi], Reads.v z' (List.all_eq_true.1 h1 z' (List.mem_of_getElem? hi))⟩
def setL : List CA → Nat → List CA → List CA
  | xs, _, [] => xs
  | xs, off, y :: ys => setL (xs.set off y) (off + 1) ys
theorem HRel.storeL {V : Vu} {tk : List (Nat × Option Tok)} {i : Nat} {T : TypeId} : ∀ (ys : List CA) (us : List Value) (k off : Nat) (xs : List CA) (hp : List (Nat × HB)) (w : World), HRel E V hp tk w → lk hp i = some (.cells T xs) →
    off + k + ys.length ≤ xs.length → us.length = ys.length → (∀ (j : Nat) (y : CA), ys[j]? = some y → ∃ u, us[j]? = some u ∧ y.rel V w u) →
    ∃ w', (storeCells ⟨V.ι i, off, none⟩ us k).run E.P w = .ok () w' ∧ HRel E V ((i, .cells T (setL xs (off + k) ys)) :: hp) tk w' ∧ V.Le V w w'
  | [], us, k, off, xs, hp, w, h, hi, _, hu, _ => by
    have : us = [] := List.eq_nil_of_length_eq_zero (by simpa using hu)
    subst this
    refine ⟨w, by simp [storeCells], ?_, Vu.Le.refl V w⟩
    simp only [setL]
    have hl : ∀ j, lk ((i, HB.cells T xs) :: hp) j = lk hp j := fun j => by rw [lk_cons]; split <;> simp_all
    exact ⟨h.ext, h.le0, h.sz, h.sub, fun j B hj => h.own j B (by rw [← hl]; exact hj), fun j k A B hj hk => h.inj j k A B (by rw [← hl]; exact hj) (by rw [← hl]; exact hk), fun j B hj => h.new j B (by rw [← hl]; exact hj),
      fun j T' hj => by obtain ⟨h1, hcu, xs', h2, h3⟩ := h.tok j T' hj; exact ⟨h1, hcu, xs', h2, fun g hg => ⟨(h3 g hg).1, (h3 g hg).2.1, fun k B hk => (h3 g hg).2.2 k B (by rw [← hl]; exact hk)⟩⟩, h.tki⟩
  | y :: ys, us, k, off, xs, hp, w, h, hi, hle, hu, hrel => by
    match us, hu with
    | u :: us, hu =>
      simp only [List.length_cons] at hle hu
      obtain ⟨u', hu', hy⟩ := hrel 0 y rfl
      simp at hu'
      subst hu'
      obtain ⟨-, o, ho, vs, rfl, hvs⟩ := h.own i _ hi
      obtain ⟨H1, L1⟩ := h.store hi (off + k) hy
      have hcell : w.cell? ⟨V.ι i, off + k, none⟩ = some (vs.getD (off + k) undef) := by
        rw [cell_of_own ho]
        have : off + k < vs.size := by rw [hvs.1]; omega
        simp [this]
      have hone := hy.one
      have hst : (Go.store ⟨V.ι i, off + k, none⟩ u).run E.P w = .ok () (w.setCell ⟨V.ι i, off + k, none⟩ u) := by
        rw [run_store _ _ _ _ _ hone, hcell]
        simp [free_of_own ho]
      obtain ⟨w', hw', H2, L2⟩ := HRel.storeL (i := i) (T := T) ys us (k + 1) off (xs.set (off + k) y) _ _ H1 (by simp [lk_cons]) (by simp; omega) (by omega) (fun j z hz => by
        obtain ⟨u2, h2, h3⟩ := hrel (j + 1) z (by simpa using hz)
        exact ⟨u2, by simpa using h2, h3.mono L1⟩)
      refine ⟨w', ?_, ?_, L1.trans L2⟩
      · simp only [storeCells, Sem.run_bind, addr_add, hst, Result.andThen_ok, hw']
      · have hl : ∀ (A B : HB) j, lk ((i, A) :: (i, B) :: hp) j = lk ((i, A) :: hp) j := fun A B j => by rw [lk_cons, lk_cons, lk_cons]; split <;> rfl
        simp only [setL]
        rw [show off + k + 1 = off + (k + 1) by omega]
        generalize setL (xs.set (off + k) y) (off + (k + 1)) ys = zs at H2 ⊢
        have hl' := hl (HB.cells T zs) (HB.cells T (xs.set (off + k) y))
        exact ⟨H2.ext, H2.le0, H2.sz, H2.sub, fun j B hj => H2.own j B (by rw [hl']; exact hj), fun j k A B hj hk => H2.inj j k A B (by rw [hl']; exact hj) (by rw [hl']; exact hk), fun j B hj => H2.new j B (by rw [hl']; exact hj),
          fun j T' hj => by obtain ⟨h1, hcu, xs', h2, h3⟩ := H2.tok j T' hj; exact ⟨h1, hcu, xs', h2, fun g hg => ⟨(h3 g hg).1, (h3 g hg).2.1, fun k B hk => (h3 g hg).2.2 k B (by rw [hl']; exact hk)⟩⟩, H2.tki⟩
theorem XO.store {t n i off : Nat} {ag : Bool} {T : TypeId} {xs : List CA} {o1 o2 : Operand} {y : AV} {dd : Option Tmp} (ht : tyAgg E.P t = some (ag, n)) (h1 : ev st.tm o1 = some (.v (.one (.ptr i off)))) (h2 : ev st.tm o2 = some (.v y))
    (hi : lk st.hp i = some (.cells T xs)) (hn : y.cells.length = n) (hle : off + n ≤ xs.length) (hdd : dd = none) :
    XO E ⟨dd, .store t o1 o2, ty, pos, af, g⟩ st ⟨st.tm, (i, .cells T (setL xs off y.cells)) :: st.hp, st.tk, st.nx, st.nt, st.df⟩ := by
  intro V a w hr ro n' K Q hK
  refine ⟨fun _ _ => trivial, ?_⟩
  rw [Oper.semAt_eq _ _ _ (by intro c h; cases h)]
  have e1 := hr.ev h1
  have e2 := (hr.ev h2).cells
  obtain ⟨-, hsz⟩ := tyAgg_spec ht w
  obtain ⟨w', hw', H, L⟩ := HRel.storeL (T := T) y.cells (a.eval o2).cells.toList 0 off xs st.hp w hr.h hi (by simpa [hn] using hle) (by simpa using e2.1) (fun j z hz => by
    obtain ⟨u, hu, hz'⟩ := e2.2 j z hz
    exact ⟨u, by simpa using hu, hz'⟩)
  have hrun : (execOp a.eval ⟨dd, .store t o1 o2, ty, pos, af, g⟩).run E.P w = .ok .skip w' := by
    have hs2 : (a.eval o2).cells.size = n := by rw [e2.1, hn]
    simp only [execOp, e1.2, Instr.storeAt, Instr.sureAddr, storeVar, Sem.run_bind, Sem.run_pure, Result.andThen_ok, hsz, hs2]
    simp [hw']
  rw [hrun]
  subst hdd
  exact hK V _ w' ⟨H, hr.nx, hr.nt, hr.df, fun t x hx => (hr.tm t x hx).mono L⟩
end
end
end Go.Proofs.YtcapifnaceegmaaGreatDoor
namespace Go.Proofs.YtcapifnaceegmaaGreatDoor
open Go.RowKit
set_option linter.unusedSimpArgs false
set_option linter.unusedVariables false
set_option linter.unusedSectionVars false
def entry : Nat → List AV → List (Nat × TV)
  | _, [] => []
  | i, x :: xs => (i, .v x) :: entry (i + 1) xs
theorem lk_entry : ∀ (args : List AV) (i t : Nat) (x : TV), lk (entry i args) t = some x → ∃ k y, t = i + k ∧ args[k]? = some y ∧ x = .v y
  | [], i, t, x, h => by cases h
  | y :: ys, i, t, x, h => by
    simp only [entry, lk_cons] at h
    split at h
    · rename_i e; cases h; exact ⟨0, y, e.symm, rfl, rfl⟩
    · obtain ⟨k, z, h1, h2, h3⟩ := lk_entry ys (i + 1) t x h
      exact ⟨k + 1, z, by omega, by simpa using h2, h3⟩
def FunPost (P : Program) (fn : Func) (S : Nat → Nat → Prop) (w : World) (res : TV) : Exit → Act → World → Prop :=
  bodyPost P fn fun e w' => ∃ v S', e = .returned v ∧ ExtF w w' ∧ (∀ b o, S b o → S' b o) ∧ (∀ b o, S' b o → (S b o ∨ w.heap.size ≤ b) ∧ b < w'.heap.size) ∧ res.rel (Vu.of S') w' v
def EnvF (P : Program) (w : World) (S : Nat → Nat → Prop) : Env := ⟨P, w, fun _ => False, Vu.of S⟩
theorem Fun.of_body {P : Program} {f : FuncId} {fn : Func} {c : Code} {args : List AV} {res : TV} (n nt : Nat) (hf : P.funcs[f]? = some fn) (hb : fn.body = some c) (hen : Enters P f) (hn : fn.ntmps = nt) (hnt : args.length ≤ nt)
    (h : ∀ (S : Nat → Nat → Prop) (w : World), XC (EnvF P w S) none n (FunPost P fn S w res) c ⟨entry 0 args, [], [], 0, nt, []⟩) : Fun P f args res := by
  subst hn
  refine ⟨hen, fun S w vs hS hT hargs => ?_⟩
  refine (callsIn_wide (n := n)).1 (callsIn_of_wp (F := Fence.wide) hf hb trivial ?_)
  refine h S w (Vu.of S) _ w ⟨⟨ExtM.refl _ _, ⟨Vu.Le.refl _ _, hT⟩, hS, fun b o h => .inl h, ?_, ?_, ?_, ?_, ?_⟩, rfl, ?_, dfRel.nil, ?_⟩
  · intro i B hi; cases hi
  · intro i j A B hi; cases hi
  · intro i B hi; cases hi
  · intro i T hi; cases hi
  · intro i j T U g hi; cases hi
  · simp [hargs.1]; omega
  · intro t x hx
    obtain ⟨k, y, h1, h2, rfl⟩ := lk_entry args 0 t x hx
    obtain ⟨u, hu, hy⟩ := hargs.2 k y h2
    have hk : k < vs.size := (Array.getElem?_eq_some_iff.1 hu).1
    have : (vs ++ Array.replicate (fn.ntmps - vs.size) undef).getD t undef = u := by
      rw [show t = k by omega, Array.getD_eq_getD_getElem?, Array.getElem?_append_left hk, hu]; rfl
    rw [this]; exact hy
section
variable {E : Env} {st : St}
def loadR (P : Program) (tmps : Array Value) (w : World) (v : Value) : ResultVar → Prop
  | .tmp t => tmps.getD t undef = v
  | .cell ad t => ∃ p, tmps.getD ad undef = .pointer (some p) ∧ (loadVar t p).run P w = .ok v w
def RA (E : Env) (st : St) (r : ResultVar) (x : AV) : Prop := ∀ V a w, Rel E V st a w → ∃ v, loadR E.P a.tmps w v r ∧ x.rel V w v
theorem RA.tmp {t : Nat} {x : AV} (h : lk st.tm t = some (.v x)) : RA E st (.tmp t) x := fun V a w hr => ⟨_, rfl, hr.tm t _ h⟩
theorem run_loadVar_of_at {P : Program} {w : World} {t : TypeId} {p : Addr} {v : Value} (h : (Instr.loadAt t (.pointer (some p))).run P w = .ok v w) : (loadVar t p).run P w = .ok v w := by
  simpa [Instr.loadAt, Instr.sureAddr] using h
theorem RA.cell {ad t n i off : Nat} {T : TypeId} {xs : List CA} {y : CA} (ht : tyAgg E.P t = some (false, n)) (h : lk st.tm ad = some (.v (.one (.ptr i off)))) (hi : lk st.hp i = some (.cells T xs)) (hy : xs[off]? = some y) : RA E st (.cell ad t) (.one y) := fun V a w hr => by
  obtain ⟨v, h1, h2⟩ := (RO.loadOwn (E := E) (st := st) (d := none) (ty := 0) (pos := "") (af := #[]) (g := none) (x := .tmp ad) ht h hi hy).2 V a w hr
  have h3 := (hr.tm ad _ h).2
  simp only [execOp, Act.eval, h3] at h1
  have h4 : (Instr.loadAt t (.pointer (some ⟨V.ι i, off, none⟩))).run E.P w = .ok v w := by
    revert h1
    cases hq : (Instr.loadAt t (.pointer (some ⟨V.ι i, off, none⟩))).run E.P w <;> simp [hq]
  exact ⟨v, ⟨_, h3, run_loadVar_of_at h4⟩, h2⟩
theorem RA.cellAgg {ad t n i off : Nat} {T : TypeId} {xs ys : List CA} (ht : tyAgg E.P t = some (true, n)) (h : lk st.tm ad = some (.v (.one (.ptr i off)))) (hi : lk st.hp i = some (.cells T xs)) (hy : (xs.drop off).take n = ys) (hn : ys.length = n) : RA E st (.cell ad t) (.agg ys) := fun V a w hr => by
  obtain ⟨v, h1, h2⟩ := (RO.loadOwnAgg (E := E) (st := st) (d := none) (ty := 0) (pos := "") (af := #[]) (g := none) (x := .tmp ad) ht h hi hy hn).2 V a w hr
  have h3 := (hr.tm ad _ h).2
  simp only [execOp, Act.eval, h3] at h1
  have h4 : (Instr.loadAt t (.pointer (some ⟨V.ι i, off, none⟩))).run E.P w = .ok v w := by
    revert h1
    cases hq : (Instr.loadAt t (.pointer (some ⟨V.ι i, off, none⟩))).run E.P w <;> simp [hq]
  exact ⟨v, ⟨_, h3, run_loadVar_of_at h4⟩, h2⟩
end
section
variable {P : Program} {fn : Func} {S : Nat → Nat → Prop} {w0 : World} {st : St} {Q : Exit → Act → World → Prop} {e : Exit}
theorem funPost_of {V : Vu} {a : Act} {w : World} (hr : Rel (EnvF P w0 S) V st a w) (hdf : st.df = []) {res : TV} {v : Value} (hv : (results fn a.tmps).run P w = .ok v w) (hres : res.rel (Vu.of V.S) w v) :
    FunPost P fn S w0 res .ret a w := by
  refine ⟨(by have := hr.df.2; rw [hdf] at this; exact this), v, hv, v, V.S, rfl, hr.h.ext, hr.h.le0.S, fun b o h => ⟨?_, hr.h.sz b o h⟩, hres⟩
  rcases hr.h.sub b o h with h1 | h1 | h1
  · exact .inl h1
  · exact .inr h1
  · exact h1.elim
theorem XQ.ret1 {r : ResultVar} {x y : AV} (hQ : ∀ a w, FunPost P fn S w0 (.v y) .ret a w → Q e a w) (hres : fn.results = #[r]) (h : RA (EnvF P w0 S) st r x) (hs : ASub x y) (hdf : st.df = []) : XQ (EnvF P w0 S) Q e st := by
  intro V a w hr
  obtain ⟨v, h1, h2⟩ := h V a w hr
  refine hQ a w (funPost_of hr hdf ?_ (hs.rel h2))
  cases r with
  | tmp t => subst h1; simp [results, hres]
  | cell ad t => obtain ⟨p, e1, e2⟩ := h1; simp only [Array.getD_eq_getD_getElem?] at e1; simp only [EnvF] at e2; simp [results, hres, e1, e2, asAddr]
theorem tup_rel {V : Vu} {w : World} {xs : List AV} {us : List Value} (hl : us.length = xs.length) (h : ∀ (i : Nat) (x : AV) (u : Value), xs[i]? = some x → us[i]? = some u → x.rel V w u) : (TV.tup xs).rel V w (.tuple us.toArray) := by
  refine ⟨_, rfl, by simpa using hl, fun i x hx => ?_⟩
  have hi : i < us.length := by have := (List.getElem?_eq_some_iff.1 hx).1; omega
  exact ⟨us[i], by simp [hi], h i x _ hx (List.getElem?_eq_getElem hi)⟩
def getR (tmps : Array Value) : ResultVar → Sem Value
  | .tmp t => pure (tmps.getD t undef)
  | .cell a t => do loadVar t (← asAddr (tmps.getD a undef))
theorem run_getR {P : Program} {tmps : Array Value} {w : World} {v : Value} {r : ResultVar} (h : loadR P tmps w v r) : (getR tmps r).run P w = .ok v w := by
  cases r with
  | tmp t => simp only [loadR] at h; simp only [getR, h]; rfl
  | cell ad t => obtain ⟨p, e1, e2⟩ := h; simp only [getR, e1, asAddr, Sem.run_bind, Sem.run_pure, Result.andThen_ok, e2]
theorem run_mapM_getR {P : Program} {tmps : Array Value} {w : World} : ∀ (rs : List ResultVar) (us : List Value), rs.length = us.length → (∀ (i : Nat) (r : ResultVar), rs[i]? = some r → ∃ u, us[i]? = some u ∧ loadR P tmps w u r) →
    (rs.mapM (getR tmps)).run P w = .ok us w
  | [], [], _, _ => by simp
  | r :: rs, u :: us, hl, h => by
    obtain ⟨u', h1, h2⟩ := h 0 r rfl
    cases h1
    have ih := run_mapM_getR rs us (by simpa using hl) (fun i r hr => by have := h (i + 1) r (by simpa using hr); simpa using this)
    simp [List.mapM_cons, run_getR h2, ih]
theorem results_of {rs : Array ResultVar} {us : List Value} {a : Act} {w : World} (hres : fn.results = rs) (hl : rs.toList.length = us.length) (h : ∀ (i : Nat) (r : ResultVar), rs.toList[i]? = some r → ∃ u, us[i]? = some u ∧ loadR P a.tmps w u r) (hn : us.length ≠ 1) :
    (results fn a.tmps).run P w = .ok (.tuple us.toArray) w := by
  have h1 := run_mapM_getR rs.toList us hl h
  have h2 : (results fn a.tmps) = (do let vs ← rs.mapM (getR a.tmps); pure (if h : vs.size = 1 then vs[0] else .tuple vs)) := by
    rw [← hres]; rfl
  rw [h2, Array.mapM_eq_mapM_toList]
  simp [h1, hn]
theorem XQ.ret2 {r1 r2 : ResultVar} {x1 y1 x2 y2 : AV} (hQ : ∀ a w, FunPost P fn S w0 (.tup [y1, y2]) .ret a w → Q e a w) (hres : fn.results = #[r1, r2]) (h1 : RA (EnvF P w0 S) st r1 x1) (s1 : ASub x1 y1) (h2 : RA (EnvF P w0 S) st r2 x2) (s2 : ASub x2 y2) (hdf : st.df = []) : XQ (EnvF P w0 S) Q e st := by
  intro V a w hr
  obtain ⟨v1, a1, b1⟩ := h1 V a w hr
  obtain ⟨v2, a2, b2⟩ := h2 V a w hr
  refine hQ a w (funPost_of (v := .tuple [v1, v2].toArray) hr hdf ?_ (tup_rel rfl (fun i x u hx hu => ?_)))
  · exact results_of hres (by simp) (fun i r hr' => by
      match i, hr' with
      | 0, hr' => cases hr'; exact ⟨v1, rfl, a1⟩
      | 1, hr' => cases hr'; exact ⟨v2, rfl, a2⟩) (by simp)
  · match i, hx, hu with
    | 0, hx, hu => cases hx; cases hu; exact s1.rel b1
    | 1, hx, hu => cases hx; cases hu; exact s2.rel b2
end
inductive CLe : CA → CA → Prop
  | refl (x : CA) : CLe x x
  | sub {x : CA} {c : C} (h : CSub x c) : CLe x (.d c)
inductive CLs : List CA → List CA → Prop
  | nil : CLs [] []
  | cons {x y : CA} {xs ys : List CA} (h : CLe x y) (t : CLs xs ys) : CLs (x :: xs) (y :: ys)
inductive BLe : HB → HB → Prop
  | refl (x : HB) : BLe x x
  | cells {T : TypeId} {xs ys : List CA} (h : CLs xs ys) : BLe (.cells T xs) (.cells T ys)
theorem CLe.rel {x y : CA} (h : CLe x y) {V : Vu} {w : World} {v : Value} (hv : x.rel V w v) : y.rel V w v := by
  cases h with
  | refl => exact hv
  | sub h => exact (show Reads V.S w _ v from h.reads hv)
theorem CLs.spec {xs ys : List CA} (h : CLs xs ys) : xs.length = ys.length ∧ ∀ (i : Nat) (y : CA), ys[i]? = some y → ∃ x, xs[i]? = some x ∧ CLe x y := by
  induction h with
  | nil => exact ⟨rfl, fun i y hy => by simp at hy⟩
  | cons h t ih =>
    refine ⟨by simp [ih.1], fun i y hy => ?_⟩
    cases i with
    | zero => simp at hy; subst hy; exact ⟨_, rfl, h⟩
    | succ i => exact ih.2 i y (by simpa using hy)
theorem CLs.rel {xs ys : List CA} (h : CLs xs ys) {V : Vu} {w : World} {vs : Array Value} (hv : rels V w xs vs) : rels V w ys vs := by
  obtain ⟨h1, h2⟩ := h.spec
  exact ⟨hv.1.trans h1, fun i y hy => let ⟨x, hx, hxy⟩ := h2 i y hy; let ⟨u, h3, h4⟩ := hv.2 i x hx; ⟨u, h3, hxy.rel h4⟩⟩
theorem BLe.rel {x y : HB} (h : BLe x y) {V : Vu} {w : World} {o : Obj} (hv : x.rel V w o) : y.rel V w o := by
  cases h with
  | refl => exact hv
  | cells h => obtain ⟨vs, h1, h2⟩ := hv; exact ⟨vs, h1, h.rel h2⟩
inductive TLe : TV → TV → Prop
  | refl (x : TV) : TLe x x
  | unk (x : TV) : TLe x .unk
  | sub {x : CA} {c : C} (h : CSub x c) : TLe (.v (.one x)) (.v (.one (.d c)))
  | agg {xs ys : List CA} (h : CLs xs ys) : TLe (.v (.agg xs)) (.v (.agg ys))
theorem TLe.rel {x y : TV} (h : TLe x y) {V : Vu} {w : World} {v : Value} (hv : x.rel V w v) : y.rel V w v := by
  cases h with
  | refl => exact hv
  | unk => trivial
  | sub h => exact (show Reads V.S w _ v from h.reads hv)
  | agg h => obtain ⟨vs, h1, h2⟩ := hv; exact ⟨vs, h1, h.rel h2⟩
def tmLe (tm : List (Nat × TV)) : List (Nat × TV) → Prop
  | [] => True
  | (t, y) :: r => (∃ x, lk tm t = some x ∧ TLe x y) ∧ tmLe tm r
theorem tmLe.get {tm : List (Nat × TV)} : ∀ {tm' : List (Nat × TV)}, tmLe tm tm' → ∀ t y, lk tm' t = some y → ∃ x, lk tm t = some x ∧ TLe x y
  | [], _, t, y, h => by cases h
  | (k, z) :: r, hl, t, y, h => by
    rw [lk_cons] at h
    split at h
    · rename_i e; subst e; cases h; exact hl.1
    · exact hl.2.get t y h
def hpLe (hp : List (Nat × HB)) : List (Nat × HB) → Prop
  | [] => True
  | (t, y) :: r => (∃ x, lk hp t = some x ∧ BLe x y) ∧ hpLe hp r
theorem hpLe.get {hp : List (Nat × HB)} : ∀ {hp' : List (Nat × HB)}, hpLe hp hp' → ∀ t y, lk hp' t = some y → ∃ x, lk hp t = some x ∧ BLe x y
  | [], _, t, y, h => by cases h
  | (k, z) :: r, hl, t, y, h => by
    rw [lk_cons] at h
    split at h
    · rename_i e; subst e; cases h; exact hl.1
    · exact hl.2.get t y h
def tkLe (tk : List (Nat × Option Tok)) : List (Nat × Option Tok) → Prop
  | [] => True
  | (t, y) :: r => (∀ T, y = some T → lk tk t = some (some T)) ∧ tkLe tk r
theorem tkLe.get {tk : List (Nat × Option Tok)} : ∀ {tk' : List (Nat × Option Tok)}, tkLe tk tk' → ∀ t T, lk tk' t = some (some T) → lk tk t = some (some T)
  | [], _, t, y, h => by cases h
  | (k, z) :: r, hl, t, y, h => by
    rw [lk_cons] at h
    split at h
    · rename_i e; subst e; cases h; exact hl.1 _ rfl
    · exact hl.2.get t y h
def CA.below (m : Nat) : CA → Prop
  | .ptr i _ => i < m
  | .fn _ caps => ∀ p ∈ caps, p.1 < m
  | .app i _ _ => i < m
  | .osl i _ _ _ => i < m
  | .mp i => i < m
  | .yld i => i < m
  | _ => True
def AV.below (m : Nat) : AV → Prop
  | .one x => x.below m
  | .agg xs => ∀ x ∈ xs, x.below m
def TV.below (m : Nat) : TV → Prop
  | .v x => x.below m
  | .tup xs => ∀ x ∈ xs, x.below m
  | .unk => True
def mpBelow (m : Nat) (es : List (Value × AV × Nat)) : Prop := ∀ e ∈ es, e.2.1.below m
def HB.below (m : Nat) : HB → Prop
  | .cells _ xs => ∀ x ∈ xs, x.below m
  | .obj _ => True
  | .loop _ _ tm _ _ _ _ D => D < m ∧ ∀ t x, lk tm t = some x → x.below m
  | .mp es _ => mpBelow m es
def tmBelow (m : Nat) : List (Nat × TV) → Prop
  | [] => True
  | (_, x) :: r => x.below m ∧ tmBelow m r
def hpBelow (m : Nat) : List (Nat × HB) → Prop
  | [] => True
  | (i, x) :: r => i < m ∧ x.below m ∧ hpBelow m r
def tkBelow (m : Nat) : List (Nat × Option Tok) → Prop
  | [] => True
  | (i, _) :: r => i < m ∧ tkBelow m r
theorem tmBelow.get {m : Nat} : ∀ {l : List (Nat × TV)}, tmBelow m l → ∀ t x, lk l t = some x → x.below m
  | [], _, t, y, h => by cases h
  | (k, z) :: r, hl, t, y, h => by
    rw [lk_cons] at h
    split at h
    · cases h; exact hl.1
    · exact hl.2.get t y h
theorem hpBelow.get {m : Nat} : ∀ {l : List (Nat × HB)}, hpBelow m l → ∀ t x, lk l t = some x → t < m ∧ x.below m
  | [], _, t, y, h => by cases h
  | (k, z) :: r, hl, t, y, h => by
    rw [lk_cons] at h
    split at h
    · rename_i e; subst e; cases h; exact ⟨hl.1, hl.2.1⟩
    · exact hl.2.2.get t y h
theorem tkBelow.get {m : Nat} : ∀ {l : List (Nat × Option Tok)}, tkBelow m l → ∀ t x, lk l t = some x → t < m
  | [], _, t, y, h => by cases h
  | (k, z) :: r, hl, t, y, h => by
    rw [lk_cons] at h
    split at h
    · rename_i e; subst e; exact hl.1
    · exact hl.2.get t y h
theorem CA.rel.trim {V : Vu} {w : World} {m : Nat} {x : CA} {v : Value} (h : x.rel V w v) (hb : x.below m) : x.rel { V with nx := m } w v := by
  cases x with
  | ptr i off => exact ⟨hb, h.2⟩
  | fn f caps => exact ⟨hb, h.2⟩
  | app i sz es => exact ⟨hb, h.2⟩
  | osl i off len cap => exact ⟨hb, h.2⟩
  | mp i => exact ⟨hb, h.2⟩
  | yld i => exact ⟨hb, h.2⟩
  | d c => exact h
  | pel e off => exact h
  | clo f caps => exact h
  | any => exact h
theorem rels.trim {V : Vu} {w : World} {m : Nat} {xs : List CA} {vs : Array Value} (h : rels V w xs vs) (hb : ∀ x ∈ xs, x.below m) : rels { V with nx := m } w xs vs :=
  ⟨h.1, fun i x hx => let ⟨u, h1, h2⟩ := h.2 i x hx; ⟨u, h1, h2.trim (hb x (List.mem_of_getElem? hx))⟩⟩
theorem AV.rel.trim {V : Vu} {w : World} {m : Nat} {x : AV} {v : Value} (h : x.rel V w v) (hb : x.below m) : x.rel { V with nx := m } w v := by
  cases x with
  | one x => exact CA.rel.trim h hb
  | agg xs => obtain ⟨vs, h1, h2⟩ := h; exact ⟨vs, h1, h2.trim hb⟩
theorem TV.rel.trim {V : Vu} {w : World} {m : Nat} {x : TV} {v : Value} (h : x.rel V w v) (hb : x.below m) : x.rel { V with nx := m } w v := by
  cases x with
  | v x => exact AV.rel.trim h hb
  | tup xs => obtain ⟨vs, h1, h2, h3⟩ := h; exact ⟨vs, h1, h2, fun i x hx => let ⟨u, h4, h5⟩ := h3 i x hx; ⟨u, h4, h5.trim (hb x (List.mem_of_getElem? hx))⟩⟩
  | unk => trivial
structure StLe (E : Env) (st st' : St) : Prop where
  tm : tmLe st.tm st'.tm
  hp : hpLe st.hp st'.hp
  tk : tkLe st.tk st'.tk
  nx : st'.nx ≤ st.nx
  v0 : E.V0.nx ≤ st'.nx
  nt : st.nt = st'.nt
  df : st.df = st'.df
  btm : tmBelow st'.nx st'.tm
  bhp : hpBelow st'.nx st'.hp
  btk : tkBelow st'.nx st'.tk
  bdf : ∀ i ∈ st'.df, i < st'.nx
theorem HRel.forgetLe {E : Env} {V : Vu} {hp hp' : List (Nat × HB)} {tk tk' : List (Nat × Option Tok)} {w : World} (h : HRel E V hp tk w) (hh : hpLe hp hp') (ht : tkLe tk tk') : HRel E V hp' tk' w := by
  refine ⟨h.ext, h.le0, h.sz, h.sub, fun i B hi => ?_, fun i j A B hi hj => ?_, fun i B hi => ?_, fun i T hi => ?_, fun i j T U g hi hj => h.tki i j T U g (ht.get i T hi) (ht.get j U hj)⟩
  · obtain ⟨x, hx, hxy⟩ := hh.get i B hi
    obtain ⟨h1, o, h2, h3⟩ := h.own i x hx
    exact ⟨h1, o, h2, hxy.rel h3⟩
  · obtain ⟨x, hx, -⟩ := hh.get i A hi
    obtain ⟨y, hy, -⟩ := hh.get j B hj
    exact h.inj i j x y hx hy
  · obtain ⟨x, hx, -⟩ := hh.get i B hi
    exact h.new i x hx
  · obtain ⟨h1, h2, xs, h3, h4⟩ := h.tok i T (ht.get i T hi)
    refine ⟨h1, h2, xs, h3, fun g hg => ⟨(h4 g hg).1, (h4 g hg).2.1, fun j B hj => ?_⟩⟩
    obtain ⟨x, hx, -⟩ := hh.get j B hj
    exact (h4 g hg).2.2 j x hx
theorem Rel.less {E : Env} {V : Vu} {st st' : St} {a : Act} {w : World} (h : Rel E V st a w) (hl : StLe E st st') : ∃ V', Rel E V' st' a w := by
  have H := h.h.forgetLe hl.hp hl.tk
  refine ⟨{ V with nx := st'.nx }, ⟨H.ext, ⟨⟨hl.v0, H.le0.ι, H.le0.cu, H.le0.κ, H.le0.S, H.le0.cell⟩, H.le0.tab⟩, H.sz, H.sub, ?_, H.inj, H.new, ?_, ?_⟩, rfl, h.nt.trans hl.nt, (by have := h.df; rw [hl.df] at this; exact this.trim hl.bdf), ?_⟩
  · intro i B hi
    obtain ⟨h1, h2⟩ := hl.bhp.get i B hi
    obtain ⟨-, o, ho, hB⟩ := H.own i B hi
    refine ⟨h1, o, ho, ?_⟩
    cases B with
    | cells T xs => obtain ⟨vs, h3, h4⟩ := hB; exact ⟨vs, h3, h4.trim h2⟩
    | obj o' => exact hB
    | loop s p tm nt ps assign body D => obtain ⟨-, fn, tmps, h3, h4, h5⟩ := hB; exact ⟨h2.1, fn, tmps, h3, h4, fun t x hx => (h5 t x hx).trim (h2.2 t x hx)⟩
    | mp es clock => obtain ⟨ents, h3, h4, h5⟩ := hB; exact ⟨ents, h3, h4, fun i k x b hi => let ⟨v, h6, h7⟩ := h5 i k x b hi; ⟨v, h6, h7.trim (h2 _ (List.mem_of_getElem? hi))⟩⟩
  · intro i T hi
    obtain ⟨h1, hcu, xs, h2, h3⟩ := H.tok i T hi
    exact ⟨hl.btk.get i _ hi, hcu, xs, h2, h3⟩
  · exact H.tki
  · intro t y hy
    obtain ⟨x, hx, hxy⟩ := hl.tm.get t y hy
    exact (hxy.rel (h.tm t x hx)).trim (hl.btm.get t y hy)
section
variable {E : Env} {ro : Option Nat} {n : Nat} {Q : Exit → Act → World → Prop} {st : St}
theorem XC.less {c : Code} {st' : St} (hl : StLe E st st') (h : XC E ro n Q c st') : XC E ro n Q c st := fun V a w hr => by
  obtain ⟨V', hr'⟩ := hr.less hl
  exact h V' a w hr'
theorem XQ.less {e : Exit} {st' : St} (hl : StLe E st st') (h : XQ E Q e st') : XQ E Q e st := fun V a w hr => by
  obtain ⟨V', hr'⟩ := hr.less hl
  exact h V' a w hr'
theorem wpIn_loop_ghost {F : Fence} {P : Program} {a : Act} {w : World} {c : Code} (I : Nat → Act → World → Prop) (n₀ : Nat) (h₀ : I n₀ a w)
    (round : ∀ k a w, I k a w → c.wpIn F n P (Exit.then (fun a' w' => ∃ k', k' < k ∧ I k' a' w') Q) a w) : (Code.loop c).wpIn F n P Q a w := by
  refine wpIn_loop (fun a w => ∃ n, I n a w) (fun a w => leastOf (fun n => I n a w)) ⟨n₀, h₀⟩ ?_
  intro a w hI
  refine wpIn_mono (round _ a w (leastOf_spec hI).1) ?_
  intro e a' w' hq
  cases e with
  | normal =>
    obtain ⟨n', hlt, hI'⟩ := hq
    exact show (∃ n, I n a' w') ∧ leastOf (fun n => I n a' w') < leastOf (fun n => I n a w) from ⟨⟨n', hI'⟩, Nat.lt_of_le_of_lt ((leastOf_spec ⟨n', hI'⟩).2 n' hI') hlt⟩
  | exit id => exact hq
  | goto l => exact hq
  | ret => exact hq
  | panic ch => exact hq
  | outgrown => exact hq
def Next {X : Type} (E : Env) (inv : X → St) (ok : X → Prop) (μ : X → Nat) (k : Nat) (a : Act) (w : World) : Prop := ∃ x' V, μ x' < k ∧ ok x' ∧ Rel E V (inv x') a w
theorem XC.loop {X : Type} {c : Code} (inv : X → St) (ok : X → Prop) (μ : X → Nat) (x0 : X) (h0 : StLe E st (inv x0)) (hok : ok x0)
    (round : ∀ x, ok x → XC E ro n (Exit.then (Next E inv ok μ (μ x)) Q) c (inv x)) : XC E ro n Q (.loop c) st := by
  intro V a w hr
  obtain ⟨V', hr'⟩ := hr.less h0
  refine wpIn_loop_ghost (fun k a w => ∃ x V, μ x = k ∧ ok x ∧ Rel E V (inv x) a w) (μ x0) ⟨x0, V', rfl, hok, hr'⟩ ?_
  rintro k a w ⟨x, V, rfl, hx, hr⟩
  refine wpIn_mono (round x hx V a w hr) ?_
  intro e a' w' hq
  cases e with
  | normal =>
    obtain ⟨x', V', h1, h2, h3⟩ := hq
    exact ⟨μ x', h1, x', V', rfl, h2, h3⟩
  | exit id => exact hq
  | goto l => exact hq
  | ret => exact hq
  | panic ch => exact hq
  | outgrown => exact hq
theorem XQ.next {X : Type} {inv : X → St} {ok : X → Prop} {μ : X → Nat} {k : Nat} (x' : X) (hl : StLe E st (inv x')) (hok : ok x') (hμ : μ x' < k) : XQ E (Exit.then (Next E inv ok μ k) Q) .normal st := fun V a w hr => by
  obtain ⟨V', hr'⟩ := hr.less hl
  exact ⟨x', V', hμ, hok, hr'⟩
end
end Go.Proofs.YtcapifnaceegmaaGreatDoor
namespace Go.Proofs.YtcapifnaceegmaaGreatDoor
section
open Go.RowKit
set_option linter.unusedSimpArgs false
set_option linter.unusedVariables false
set_option linter.unusedSectionVars false
section
variable {P : Program} {ops : Array Oper} {w : World} {ro : Option Nat} {n : Nat} {md : Region.Mode}
theorem wpIn_of_still {o : Oper} {a : Act} {K : Act → Prop} {K' : Act → World → Prop} {Q' : Exit → Act → World → Prop} (h : ∀ a, K a → K' a w) (hh : o.still P a w K) : o.wpIn (FR ro) n P a w K' Q' := by
  have hnd : ∀ c, o.op ≠ .defer c := by
    intro c hc
    unfold Oper.still at hh
    simp only [execOp, hc] at hh
    cases hr : (resolve a.eval c o.type).run P w <;> simp [hr, Oper.stillUpon] at hh
  refine ⟨fun _ _ => trivial, ?_⟩
  rw [Oper.semAt_eq _ _ _ hnd]
  unfold Oper.still at hh
  generalize (execOp a.eval o).run P w = r at *
  cases r with
  | ok x w' =>
    cases x <;> simp only [Oper.stillUpon] at hh <;> simp only [Oper.uponIn]
    case enter f args =>
      obtain ⟨rfl, v, hc, hn⟩ := hh
      refine ⟨(by intro h; cases h), ?_⟩
      have hc' : CallsIn Fence.wide (n - 1) P f args w' _ := callsIn_wide.2 hc
      refine CallsIn.mono (F := FR ro) hc' ?_
      rintro e w'' ⟨rfl, rfl⟩
      exact h _ hn
    all_goals (obtain ⟨rfl, h2⟩ := hh; exact h _ h2)
  | halt x w' => simp only [Oper.stillUpon] at hh
theorem wpOpIn_of_stOp {i : Nat} {a : Act} {K : Act → Prop} {K' : Act → World → Prop} {Q' : Exit → Act → World → Prop} (h : ∀ a, K a → K' a w) (hh : stOp P ops w i K a) : wpOpIn (FR ro) n P ops Q' i K' a w := by
  unfold stOp at hh
  unfold wpOpIn
  split
  · rename_i ho; simp only [ho] at hh; exact h _ hh
  · rename_i o ho
    simp only [ho] at hh
    split
    · rename_i hw; simp only [hw, if_true] at hh; exact wpIn_of_still h hh
    · rename_i hw; simp only [hw] at hh; exact ⟨fun _ _ => trivial, h _ hh⟩
theorem wpAnyIn_of_still {Q : Act → Prop} {Q' : Exit → Act → World → Prop} (hQ : ∀ a, Q a → Q' .normal a w) : ∀ (fuel : Nat) (listed : Array Bool) (a : Act),
    wpAnyS P md ops w Q fuel listed a → wpAnyIn (FR ro) n P md ops Q' fuel listed a w
  | 0, _, _, h => ⟨h.1, hQ _ h.2⟩
  | fuel + 1, _, _, h => ⟨fun h0 => hQ _ (h.1 h0), fun i hi => wpOpIn_of_stOp (fun a' => wpAnyIn_of_still hQ fuel _ a') (h.2 i hi)⟩
theorem wpIn_region_still {id : Nat} {Q : Exit → Act → World → Prop} {a : Act} {w : World} {l : List Oper} (hm : P.follows .mixedOrders = true) (hB : Region.lexB .any l.toArray = true)
    (h : wpStill P l.toArray { w with drawn := w.drawn + 1 } (fun a' => Q .normal a' { w with drawn := w.drawn + 1 }) l a) : (Code.region id l.toArray true).wpIn (FR ro) n P Q a w := by
  simp only [Region.lexB, Bool.and_eq_true] at hB
  refine wpIn_region_any hm (wpAnyIn_of_still (Q := fun a' => Q .normal a' { w with drawn := w.drawn + 1 }) (fun _ h => h) _ _ _ ?_)
  have := wpAnyS_lex (md := .any) hB.1 l 0 (Array.replicate l.toArray.size false) a (by simp) (by simpa using hB.2) h
  simpa using this
end
section
variable {E : Env} {ro : Option Nat} {n : Nat} {ops : Array Oper} {Q : Exit → Act → World → Prop} {Qs : World → Act → Prop} {rest : List Oper} {st : St} {o : Oper}
def XS (E : Env) (ops : Array Oper) (Qs : World → Act → Prop) (rest : List Oper) (st : St) : Prop := ∀ V a w, Rel E V st a w → wpStill E.P ops w (Qs w) rest a
theorem still_of_ro {V : Vu} {a : Act} {w : World} {d : Nat} {x : TV} (hdst : o.dst = some d) (hd : d < st.nt) (h : RO E o st x) (hr : Rel E V st a w) {K : Act → Prop} (hK : ∀ a', Rel E V (ST.put st d x) a' w → K a') : o.still E.P a w K := by
  obtain ⟨v, hrun, hx⟩ := h.2 V a w hr
  unfold Oper.still
  rw [hrun]
  refine ⟨rfl, ?_⟩
  rw [hdst]
  exact hK _ (hr.put hd hx)
theorem XS.op {d : Nat} {x : TV} (hg : o.guard = none) (hdst : o.dst = some d) (hd : d < st.nt) (h : RO E o st x) (k : XS E ops Qs rest (ST.put st d x)) : XS E ops Qs (o :: rest) st := by
  intro V a w hr
  unfold wpStill
  rw [if_pos (by simp [Region.wanted, hg])]
  exact still_of_ro hdst hd h hr (fun a' hr' => k V a' w hr')
theorem XS.on {j d t : Nat} {b : Bool} {x : TV} (hg : o.guard = some (j, b)) (hj : (ops[j]?).bind (·.dst) = some d) (hb : lk st.tm d = some (TB b)) (hdst : o.dst = some t) (hd : t < st.nt) (h : RO E o st x) (k : XS E ops Qs rest (ST.put st t x)) : XS E ops Qs (o :: rest) st := by
  intro V a w hr
  unfold wpStill
  rw [if_pos (by simp [Region.wanted, hg, yielded_of hr hj hb])]
  exact still_of_ro hdst hd h hr (fun a' hr' => k V a' w hr')
theorem XS.offB {j d t : Nat} {b : Bool} (hg : o.guard = some (j, b)) (hj : (ops[j]?).bind (·.dst) = some d) (hb : lk st.tm d = some (TB (!b))) (hdst : o.dst = some t) (k : XS E ops Qs rest (ST.put st t (.tup []))) : XS E ops Qs (o :: rest) st := by
  intro V a w h
  unfold wpStill
  rw [if_neg (by simp [Region.wanted, hg, yielded_of h hj hb])]
  rw [hdst]
  exact k V _ w (h.und t)
theorem XS.offU {j d t : Nat} {b : Bool} (hg : o.guard = some (j, b)) (hj : (ops[j]?).bind (·.dst) = some d) (hb : lk st.tm d = some (.tup [])) (hdst : o.dst = some t) (k : XS E ops Qs rest (ST.put st t (.tup []))) : XS E ops Qs (o :: rest) st := by
  intro V a w h
  unfold wpStill
  rw [if_neg (by simp [Region.wanted, hg, yielded_und h hj hb])]
  rw [hdst]
  exact k V _ w (h.und t)
theorem XS.case {d : Nat} {c : Bool} (hb : lk st.tm d = some (TB c)) (ht : c = true → XS E ops Qs rest (ST.put st d (TB true))) (hf : c = false → XS E ops Qs rest (ST.put st d (TB false))) : XS E ops Qs rest st := by
  intro V a w h
  have key : ∀ b, c = b → Rel E V (ST.put st d (TB b)) a w := fun b e => by
    subst e
    refine ⟨h.h, h.nx, h.nt, h.df, fun t y hy => ?_⟩
    simp only [ST.put, lk_cons] at hy
    split at hy
    · rename_i e; subst e; cases hy; exact h.tm _ _ hb
    · exact h.tm t y hy
  cases hc : c with
  | true => exact ht hc V a w (key true hc)
  | false => exact hf hc V a w (key false hc)
theorem Rel.drew {V : Vu} {a : Act} {w : World} (h : Rel E V st a w) : Rel E V st a { w with drawn := w.drawn + 1 } :=
  h.later (V' := V) ⟨rfl, rfl, rfl, Nat.le_refl _, fun _ _ _ => rfl⟩ ⟨Nat.le_refl _, fun _ _ => rfl, fun _ _ => rfl, fun _ _ _ _ => rfl, fun _ _ h => h, fun _ _ h => .inl h, h.h.sz⟩ rfl
theorem XS.nil (k : XQ E Q .normal st) : XS E ops (fun w a => Q .normal a w) [] st := fun V a w hr => k V a w hr
theorem XC.draw {id : Nat} {l : List Oper} (hm : E.P.follows .mixedOrders = true) (hB : Region.lexB .any l.toArray = true) (h : XS E l.toArray (fun w a => Q .normal a w) l st) : XC E ro n Q (.region id l.toArray true) st :=
  fun V a _ hr => wpIn_region_still hm hB (h V a _ hr.drew)
end
end
section
open Go.RowKit
set_option linter.unusedSimpArgs false
set_option linter.unusedVariables false
set_option linter.unusedSectionVars false
inductive BCaps (hp : List (Nat × HB)) : List (Nat × Nat) → List (List C × Nat) → Prop
  | nil : BCaps hp [] []
  | cons {i off : Nat} {T : TypeId} {xs : List CA} {e : List C} {l : List (Nat × Nat)} {l' : List (List C × Nat)} (hi : lk hp i = some (.cells T xs)) (hs : CSubs xs e) (t : BCaps hp l l') : BCaps hp ((i, off) :: l) ((e, off) :: l')
inductive BSub (hp : List (Nat × HB)) : AV → AV → Prop
  | ptr {i off : Nat} {T : TypeId} {xs : List CA} {e : List C} (hi : lk hp i = some (.cells T xs)) (hs : CSubs xs e) : BSub hp (.one (.ptr i off)) (.one (.pel e off))
  | fn {f : FuncId} {l : List (Nat × Nat)} {l' : List (List C × Nat)} (h : BCaps hp l l') : BSub hp (.one (.fn f l)) (.one (.clo f l'))
  | pel {e : List C} {off : Nat} : BSub hp (.one (.pel e off)) (.one (.pel e off))
  | clo {f : FuncId} {l : List (List C × Nat)} : BSub hp (.one (.clo f l)) (.one (.clo f l))
  | sub {x y : AV} (h : ASub x y) : BSub hp x y
def borrow (V : Vu) (hp : List (Nat × HB)) (b o : Nat) : Prop := V.S b o ∨ ∃ i B, lk hp i = some B ∧ b = V.ι i
section
variable {E : Env} {st : St} {d : Nat} {ty : TypeId} {pos : String} {af : Array Edge} {g : Option (Nat × Bool)} {V : Vu} {a : Act} {w : World}
theorem pelRel_of_own (h : HRel E V st.hp st.tk w) {i off : Nat} {T : TypeId} {xs : List CA} {e : List C} (hi : lk st.hp i = some (.cells T xs)) (hs : CSubs xs e) : pelRel (borrow V st.hp) w e off (.pointer (some ⟨V.ι i, off, none⟩)) := by
  obtain ⟨-, o, ho, vs, rfl, hvs⟩ := h.own i _ hi
  refine ⟨V.ι i, 0, fun j => vs.getD j undef, by simp, fun j c hj => ?_⟩
  obtain ⟨x, hx, hxc⟩ := hs.get j c hj
  obtain ⟨u, hu, hr⟩ := hvs.2 j x hx
  have hg : vs.getD j undef = u := by simp [hu]
  rw [Nat.zero_add]; dsimp only; rw [hg]
  exact ⟨(cell_of_own ho j).trans hu, .inr ⟨i, _, hi, rfl⟩, Reads.mono (fun _ _ h => .inl h) (fun _ _ _ => rfl) (hxc.reads hr)⟩
theorem BCaps.len {hp : List (Nat × HB)} {l : List (Nat × Nat)} {l' : List (List C × Nat)} (h : BCaps hp l l') : l.length = l'.length := by
  induction h with
  | nil => rfl
  | cons _ _ _ ih => simp [ih]
theorem BCaps.get {hp : List (Nat × HB)} {l : List (Nat × Nat)} {l' : List (List C × Nat)} (h : BCaps hp l l') : ∀ (k : Nat) (e : List C) (off : Nat), l'[k]? = some (e, off) → ∃ i T xs, l[k]? = some (i, off) ∧ lk hp i = some (.cells T xs) ∧ CSubs xs e := by
  induction h with
  | nil => intro k e off hk; simp at hk
  | cons hi hs t ih =>
    intro k e off hk
    cases k with
    | zero => simp at hk; obtain ⟨rfl, rfl⟩ := hk; exact ⟨_, _, _, rfl, hi, hs⟩
    | succ k => exact ih k e off (by simpa using hk)
theorem BSub.rel (h : HRel E V st.hp st.tk w) {x y : AV} (hs : BSub st.hp x y) {v : Value} (hv : x.rel V w v) : y.rel (Vu.of (borrow V st.hp)) w v := by
  have hle : (Vu.of V.S).Le (Vu.of (borrow V st.hp)) w w := ⟨Nat.le_refl _, fun _ _ => rfl, fun _ _ => Nat.le_refl _, fun _ _ _ _ => rfl, fun _ _ h => .inl h, fun _ _ _ => rfl⟩
  cases hs with
  | sub hs => exact (hs.rel hv).mono hle
  | ptr hi hs => rw [show v = _ from hv.2]; exact pelRel_of_own h hi hs
  | fn hc =>
    refine ⟨_, hv.2, by rw [List.length_map]; exact hc.len, fun k e off hk => ?_⟩
    obtain ⟨i, T, xs, h1, h2, h3⟩ := hc.get k e off hk
    exact ⟨_, by rw [List.getElem?_map, h1]; rfl, pelRel_of_own h h2 h3⟩
  | pel => exact pelRel.mono (fun _ _ h => .inl h) (fun _ _ _ => rfl) hv
  | clo =>
    obtain ⟨ps, h1, h2, h3⟩ := hv
    exact ⟨ps, h1, h2, fun i e off hi => let ⟨p, h4, h5⟩ := h3 i e off hi; ⟨p, h4, h5.mono (fun _ _ h => .inl h) (fun _ _ _ => rfl)⟩⟩
inductive Plain : TV → Prop
  | v (y : Value) (h : y.oneCell' = true) : Plain (TVv y)
  | tup (ys : List Value) (h : ∀ y ∈ ys, y.oneCell' = true) : Plain (.tup (ys.map fun y => .one (.d (.v y))))
theorem Plain.rel {res : TV} (h : Plain res) {V V' : Vu} {w w' : World} {v : Value} (hv : res.rel V w v) : res.rel V' w' v := by
  cases h with
  | v y h => rw [val_of hv]; exact rel_of h
  | tup ys h =>
    obtain ⟨vs, h1, h2, h3⟩ := hv
    refine ⟨vs, h1, h2, fun i x hx => ?_⟩
    obtain ⟨u, hu, hr⟩ := h3 i x hx
    refine ⟨u, hu, ?_⟩
    rw [List.getElem?_map] at hx
    cases hy : ys[i]? with
    | none => rw [hy] at hx; cases hx
    | some y =>
      rw [hy] at hx; cases hx
      have : u = y := by cases hr; rfl
      subst this
      exact Reads.v _ (h _ (List.mem_of_getElem? hy))
def Leads (st : St) (c : Callee) (f : FuncId) (more : List AV) : Prop :=
  (c = .value (.func f) ∧ more = []) ∨ ∃ o caps, c = .value o ∧ ev st.tm o = some (.v (.one (.clo f caps))) ∧ more = caps.map fun p => .one (.pel p.1 p.2)
theorem XO.callB {f : FuncId} {args more : List AV} {res : TV} {ars : Array Operand} {ats : Array TypeId} {c : Callee} (hc : Leads st c f more) (hF : Fun E.P f (args ++ more) res) (hp : Plain res) (hn : ars.size = args.length)
    (ha : ∀ (i : Nat) (y : AV), args[i]? = some y → ∃ o x, ars[i]? = some o ∧ ev st.tm o = some (.v x) ∧ BSub st.hp x y) (hd : d < st.nt) :
    XO E ⟨some d, .call { callee := c, args := ars, argTypes := ats }, ty, pos, af, g⟩ st (ST.put st d res) := by
  intro V a w hr ro n K Q hK
  refine ⟨fun _ _ => trivial, ?_⟩
  rw [Oper.semAt_eq _ _ _ (by intro c h; cases h)]
  obtain ⟨ms, hms, hrun⟩ : ∃ ms : Array Value, argsRel (Vu.of (borrow V st.hp)) w more ms ∧ (execOp a.eval ⟨some d, .call { callee := c, args := ars, argTypes := ats }, ty, pos, af, g⟩).run E.P w = .ok (.enter f (ars.map a.eval ++ ms)) w := by
    rcases hc with ⟨rfl, rfl⟩ | ⟨o, caps, rfl, ho, rfl⟩
    · refine ⟨#[], ⟨rfl, fun i x hx => by simp at hx⟩, ?_⟩
      have := hF.1 (ars.map a.eval) w
      simp [execOp, resolve, Act.eval, Deferred.ofValue, invoke]
      simpa using this
    · obtain ⟨ps, h1, h2, h3⟩ := hr.ev ho
      refine ⟨ps.toArray, ⟨by simpa using h2, fun i x hx => ?_⟩, ?_⟩
      · rw [List.getElem?_map] at hx
        cases hi : caps[i]? with
        | none => rw [hi] at hx; cases hx
        | some p =>
          rw [hi] at hx; cases hx
          obtain ⟨q, h4, h5⟩ := h3 i p.1 p.2 hi
          exact ⟨q, by simpa using h4, pelRel.mono (fun _ _ h => .inl h) (fun _ _ _ => rfl) h5⟩
      · have := hF.1 (ars.map a.eval ++ ps.toArray) w
        simp [execOp, resolve, h1, Deferred.ofValue, invoke]
        simpa using this
  rw [hrun]
  refine ⟨(by intro h; cases h), ?_⟩
  have hc := hF.2 (borrow V st.hp) w (ars.map a.eval ++ ms) (fun b o h => by
    rcases h with h | ⟨i, B, hi, rfl⟩
    · exact hr.h.sz b o h
    · obtain ⟨-, o', ho', -⟩ := hr.h.own i B hi; exact heap_lt ho') (hr.h.tabs.mono (fun _ _ h => .inl h) (fun _ _ _ => rfl)) ⟨by rw [Array.size_append, Array.size_map, List.length_append, hms.1, hn], fun i y hy => by
    by_cases hi : i < args.length
    · rw [List.getElem?_append_left hi] at hy
      obtain ⟨o, x, h1, h2, h3⟩ := ha i y hy
      exact ⟨a.eval o, by rw [Array.getElem?_append_left (by simp; omega)]; simp [h1], BSub.rel hr.h h3 (hr.ev h2)⟩
    · rw [List.getElem?_append_right (by omega)] at hy
      obtain ⟨u, h1, h2⟩ := hms.2 _ y hy
      exact ⟨u, by rw [Array.getElem?_append_right (by simp; omega)]; simpa [hn] using h1, h2⟩⟩
  have hc' : CallsIn Fence.wide (n - 1) E.P f (ars.map a.eval ++ ms) w _ := callsIn_wide.2 hc
  refine CallsIn.mono (F := FR ro) hc' ?_
  rintro e w' ⟨v, S', rfl, hx, hS, hS', hv⟩
  have hg : V.Grow V w w' := ⟨Nat.le_refl _, fun _ _ => rfl, fun _ _ => rfl, fun _ _ _ _ => rfl, fun _ _ h => h, fun b o h => .inl h, fun b o h => Nat.lt_of_lt_of_le (hr.h.sz b o h) hx.size⟩
  exact hK V _ w' ((hr.later hx hg rfl).put hd (hp.rel hv))
theorem XO.callB1 {f : FuncId} {y1 : AV} {more : List AV} {res : TV} {o1 : Operand} {x1 : AV} {ats : Array TypeId} {c : Callee} (hc : Leads st c f more) (hF : Fun E.P f ([y1] ++ more) res) (hp : Plain res) (h1 : ev st.tm o1 = some (.v x1)) (s1 : BSub st.hp x1 y1) (hd : d < st.nt) :
    XO E ⟨some d, .call { callee := c, args := #[o1], argTypes := ats }, ty, pos, af, g⟩ st (ST.put st d res) :=
  XO.callB hc hF hp rfl (fun i y hy => by
    match i, hy with
    | 0, hy => cases hy; exact ⟨o1, x1, rfl, h1, s1⟩) hd
theorem XO.callB2 {f : FuncId} {y1 y2 : AV} {more : List AV} {res : TV} {o1 o2 : Operand} {x1 x2 : AV} {ats : Array TypeId} {c : Callee} (hc : Leads st c f more) (hF : Fun E.P f ([y1, y2] ++ more) res) (hp : Plain res) (h1 : ev st.tm o1 = some (.v x1)) (s1 : BSub st.hp x1 y1) (h2 : ev st.tm o2 = some (.v x2)) (s2 : BSub st.hp x2 y2) (hd : d < st.nt) :
    XO E ⟨some d, .call { callee := c, args := #[o1, o2], argTypes := ats }, ty, pos, af, g⟩ st (ST.put st d res) :=
  XO.callB hc hF hp rfl (fun i y hy => by
    match i, hy with
    | 0, hy => cases hy; exact ⟨o1, x1, rfl, h1, s1⟩
    | 1, hy => cases hy; exact ⟨o2, x2, rfl, h2, s2⟩) hd
theorem RO.makeFunc {f : FuncId} {cs : Array Operand} {caps : List (Nat × Nat)} {dd : Option Tmp} (hn : cs.size = caps.length) (h : ∀ (k : Nat) (p : Nat × Nat), caps[k]? = some p → ∃ o, cs[k]? = some o ∧ ev st.tm o = some (.v (.one (.ptr p.1 p.2)))) :
    RO E ⟨dd, .makeFunc (.func f) #[] cs, ty, pos, af, g⟩ st (.v (.one (.fn f caps))) := by
  refine ⟨(fun _ h => nomatch h), fun V a w hr => ⟨.func (.func f) #[] (cs.map a.eval), by simp [execOp, Instr.makeFunc], fun p hp => ?_, ?_⟩⟩
  · obtain ⟨k, hk⟩ := List.getElem?_of_mem hp
    obtain ⟨o, -, h2⟩ := h k p hk
    exact (hr.ev h2).1
  · congr 1
    apply Array.ext
    · simp [hn]
    · intro k h1 h2
      have hk : k < caps.length := by simpa using h2
      obtain ⟨o, h3, h4⟩ := h k _ (List.getElem?_eq_getElem hk)
      have h5 := (hr.ev h4).2
      have h6 : cs[k]'(by simpa using h1) = o := by
        have := Array.getElem?_eq_getElem (xs := cs) (i := k) (by simpa using h1)
        rw [h3] at this; exact (Option.some.inj this).symm
      simp [h6, h5]
theorem RO.makeFunc1 {f : FuncId} {o1 : Operand} {i1 k1 : Nat} {dd : Option Tmp} (h1 : ev st.tm o1 = some (.v (.one (.ptr i1 k1)))) : RO E ⟨dd, .makeFunc (.func f) #[] #[o1], ty, pos, af, g⟩ st (.v (.one (.fn f [(i1, k1)]))) :=
  RO.makeFunc rfl (fun k p hk => by
    match k, hk with
    | 0, hk => cases hk; exact ⟨o1, rfl, h1⟩)
end
end
section
open Go.RowKit
set_option linter.unusedSimpArgs false
set_option linter.unusedVariables false
set_option linter.unusedSectionVars false
def tyPlaces (P : Program) (t : TypeId) : Option (List (Nat × Nat)) :=
  match P.underlying t with
  | some (.struct fs) => fs.toList.mapM fun f => (P.info? f.type).map fun i => (f.offset, i.size)
  | _ => none
def IsStruct (P : Program) (t : TypeId) (pl : List (Nat × Nat)) (zs : List Value) : Prop := tyPlaces P t = some pl ∧ tyZero P t = some zs
theorem run_places {P : Program} (w : World) : ∀ (fs : List Field) (pl : List (Nat × Nat)), (fs.mapM fun f => (P.info? f.type).map fun i => (f.offset, i.size)) = some pl →
    (fs.mapM fun f => (do pure (f.offset, ← sizeOf f.type) : Sem (Nat × Nat))).run P w = .ok pl w
  | [], pl, h => by simp at h; subst h; simp
  | f :: fs, pl, h => by
    simp only [List.mapM_cons] at h
    cases hi : P.info? f.type with
    | none => simp [hi] at h
    | some i =>
      cases hr : (fs.mapM fun f => (P.info? f.type).map fun i => (f.offset, i.size)) with
      | none => rw [hr] at h; simp [hi] at h
      | some pl' =>
        rw [hr] at h
        simp [hi] at h
        subst h
        have ih := run_places (P := P) w fs pl' hr
        simp [List.mapM_cons, sizeOf, typeInfo, hi] at ih ⊢
        simp [ih]
theorem rels.setL {V : Vu} {w : World} : ∀ (ys : List CA) (us : List Value) (k off : Nat) (xs : List CA) (vs : Array Value), rels V w xs vs → us.length = ys.length → (∀ (j : Nat) (y : CA), ys[j]? = some y → ∃ u, us[j]? = some u ∧ y.rel V w u) →
    rels V w (setL xs (off + k) ys) ((us.zipIdx k).foldl (fun cs (p : Value × Nat) => cs.setIfInBounds (off + p.2) p.1) vs)
  | [], us, k, off, xs, vs, h, hu, _ => by
    have : us = [] := List.eq_nil_of_length_eq_zero (by simpa using hu)
    subst this
    simpa [Proofs.YtcapifnaceegmaaGreatDoor.setL] using h
  | y :: ys, us, k, off, xs, vs, h, hu, hr => by
    match us, hu with
    | u :: us, hu =>
      obtain ⟨u', h1, h2⟩ := hr 0 y rfl
      simp at h1; subst h1
      simp only [Proofs.YtcapifnaceegmaaGreatDoor.setL, List.zipIdx_cons, List.foldl_cons]
      rw [show off + k + 1 = off + (k + 1) by omega]
      exact rels.setL ys us (k + 1) off _ _ (h.set h2) (by simpa using hu) (fun j z hz => by have := hr (j + 1) z (by simpa using hz); simpa using this)
def fillL (pl : List (Nat × Nat)) : List CA → List (Nat × AV) → Option (List CA)
  | xs, [] => some xs
  | xs, (i, x) :: r => match pl[i]? with
    | none => none
    | some (off, size) => cond (Nat.beq x.cells.length size && Nat.ble (off + size) xs.length) (fillL pl (setL xs off x.cells) r) none
theorem fill_rel {V : Vu} {w : World} {place : Nat → Option (Nat × Nat)} {pl : List (Nat × Nat)} (hp : ∀ i p, pl[i]? = some p → place i = some p) : ∀ (parts : List (Nat × AV)) (vals : List (Nat × Value)) (xs ys : List CA) (vs : Array Value), rels V w xs vs → vals.length = parts.length →
    (∀ (j i : Nat) (x : AV), parts[j]? = some (i, x) → ∃ v, vals[j]? = some (i, v) ∧ x.rel V w v) → fillL pl xs parts = some ys → ∃ us, Instr.fill place vs vals = some us ∧ rels V w ys us
  | [], vals, xs, ys, vs, h, hl, _, hf => by
    have : vals = [] := List.eq_nil_of_length_eq_zero (by simpa using hl)
    subst this
    cases hf
    exact ⟨vs, by simp [Instr.fill], h⟩
  | (i, x) :: parts, vals, xs, ys, vs, h, hl, hr, hf => by
    match vals, hl with
    | (i', v) :: vals, hl =>
      obtain ⟨v', h1, h2⟩ := hr 0 i x rfl
      simp at h1
      obtain ⟨rfl, rfl⟩ := h1
      simp only [fillL] at hf
      split at hf
      · cases hf
      · rename_i off size hpl
        cases hc : (Nat.beq x.cells.length size && Nat.ble (off + size) xs.length) with
        | false => rw [hc] at hf; cases hf
        | true =>
          rw [hc] at hf
          simp only [Bool.and_eq_true] at hc
          have e1 : x.cells.length = size := Nat.eq_of_beq_eq_true hc.1
          have e2 : off + size ≤ xs.length := Nat.le_of_ble_eq_true hc.2
          have hcells := h2.cells
          have hset := rels.setL x.cells v.cells.toList 0 off xs vs h (by simpa using hcells.1) (fun j y hy => by
            obtain ⟨u, hu, hy'⟩ := hcells.2 j y hy
            exact ⟨u, by simpa using hu, hy'⟩)
          obtain ⟨us, h3, h4⟩ := fill_rel hp parts vals _ ys _ hset (by simpa using hl) (fun j i' x' hx' => by have := hr (j + 1) i' x' (by simpa using hx'); simpa using this) (by simpa using hf)
          refine ⟨us, ?_, h4⟩
          have e3 : v.cells.size = size := by rw [hcells.1, e1]
          have e4 : ¬ (off + size > vs.size) := by rw [h.1]; omega
          simp only [Instr.fill, hp _ _ hpl, e3, e4, ne_eq, not_true_eq_false, decide_false, Bool.or_self, Bool.false_eq_true, if_false]
          rw [← h3]
          congr 1
          rw [← Array.foldl_toList]
          simp [Array.toList_zipIdx]
theorem zeros_rel {V : Vu} {w : World} {zs : List Value} (h1 : zs.all (·.oneCell') = true) : rels V w (zs.map fun z => .d (.v z)) zs.toArray := by
  refine ⟨by simp, fun i x hx => ?_⟩
  rw [List.getElem?_map] at hx
  cases hi : zs[i]? with
  | none => rw [hi] at hx; cases hx
  | some z' =>
    rw [hi] at hx; cases hx
    exact ⟨z', by simp [hi], Reads.v z' (List.all_eq_true.1 h1 z' (List.mem_of_getElem? hi))⟩
section
variable {E : Env} {st : St} {ty : TypeId} {pos : String} {af : Array Edge} {g : Option (Nat × Bool)} {dd : Option Tmp}
theorem RO.build {t : TypeId} {pl : List (Nat × Nat)} {zs : List Value} {parts : Array (Nat × Operand)} {avs : List (Nat × AV)} {ys : List CA} (ht : IsStruct E.P t pl zs) (hz : zs.all (·.oneCell') = true) (hn : parts.toList.length = avs.length)
    (hp : ∀ (j i : Nat) (x : AV), avs[j]? = some (i, x) → ∃ o, parts.toList[j]? = some (i, o) ∧ ev st.tm o = some (.v x)) (hf : fillL pl (zs.map fun z => .d (.v z)) avs = some ys) :
    RO E ⟨dd, .build t parts, ty, pos, af, g⟩ st (.v (.agg ys)) := by
  refine ⟨(fun _ h => nomatch h), fun V a w hr => ?_⟩
  obtain ⟨hpl, hzz⟩ := ht
  obtain ⟨z, hz1, hz2⟩ := tyZero_spec hzz
  unfold tyPlaces at hpl
  split at hpl
  · rename_i fs hfs
    have h1 := run_places (P := E.P) w fs.toList pl hpl
    obtain ⟨us, h2, h3⟩ := fill_rel (place := fun i => pl[i]?) (fun _ _ h => h) avs (parts.toList.map fun p => (p.1, a.eval p.2)) _ ys _ (zeros_rel hz (V := V) (w := w)) (by simpa using hn) (fun j i x hx => by
      obtain ⟨o, h4, h5⟩ := hp j i x hx
      exact ⟨a.eval o, by rw [List.getElem?_map, h4]; rfl, hr.ev h5⟩) hf
    refine ⟨.agg us, ?_, us, rfl, h3⟩
    have h6 : (fs.mapM fun f => (do pure (f.offset, ← sizeOf f.type) : Sem (Nat × Nat))).run E.P w = .ok pl.toArray w := by
      rw [Array.mapM_eq_mapM_toList]
      show ((fs.toList.mapM fun f => (do pure (f.offset, ← sizeOf f.type) : Sem (Nat × Nat))) >>= fun x => pure x.toArray : Sem _).run E.P w = _
      rw [Sem.run_bind, h1]; rfl
    simp only [execOp, Instr.build, Sem.run_bind, hz1, Result.andThen_ok, run_underlying hfs, h6, hz2, Array.toList_map]
    simp [h2]
  · cases hpl
theorem RO.build0 {t : TypeId} {pl : List (Nat × Nat)} {zs : List Value} (ht : IsStruct E.P t pl zs) (hz : zs.all (·.oneCell') = true) : RO E ⟨dd, .build t #[], ty, pos, af, g⟩ st (.v (.agg (zs.map fun z => .d (.v z)))) :=
  RO.build (avs := []) ht hz rfl (fun j i x hx => by simp at hx) rfl
theorem RO.build1 {t i1 : Nat} {pl : List (Nat × Nat)} {zs : List Value} {o1 : Operand} {x1 : AV} {ys : List CA} (ht : IsStruct E.P t pl zs) (hz : zs.all (·.oneCell') = true) (h1 : ev st.tm o1 = some (.v x1)) (hf : fillL pl (zs.map fun z => .d (.v z)) [(i1, x1)] = some ys) : RO E ⟨dd, .build t #[(i1, o1)], ty, pos, af, g⟩ st (.v (.agg ys)) :=
  RO.build (avs := [(i1, x1)]) ht hz rfl (fun j i x hx => by
    match j, hx with
    | 0, hx => cases hx; exact ⟨o1, rfl, h1⟩) hf
theorem RO.build2 {t i1 i2 : Nat} {pl : List (Nat × Nat)} {zs : List Value} {o1 o2 : Operand} {x1 x2 : AV} {ys : List CA} (ht : IsStruct E.P t pl zs) (hz : zs.all (·.oneCell') = true) (h1 : ev st.tm o1 = some (.v x1)) (h2 : ev st.tm o2 = some (.v x2)) (hf : fillL pl (zs.map fun z => .d (.v z)) [(i1, x1), (i2, x2)] = some ys) : RO E ⟨dd, .build t #[(i1, o1), (i2, o2)], ty, pos, af, g⟩ st (.v (.agg ys)) :=
  RO.build (avs := [(i1, x1), (i2, x2)]) ht hz rfl (fun j i x hx => by
    match j, hx with
    | 0, hx => cases hx; exact ⟨o1, rfl, h1⟩
    | 1, hx => cases hx; exact ⟨o2, rfl, h2⟩) hf
end
end
end Go.Proofs.YtcapifnaceegmaaGreatDoor
namespace Go.Proofs.YtcapifnaceegmaaGreatDoor
open Go.RowKit
set_option linter.unusedSimpArgs false
set_option linter.unusedVariables false
set_option linter.unusedSectionVars false
theorem flat_get {α : Type} {sz : Nat} : ∀ (es : List (List α)), (∀ e ∈ es, e.length = sz) → ∀ (i j : Nat) (e : List α), es[i]? = some e → j < sz → es.flatten[i * sz + j]? = e[j]?
  | [], _, i, j, e, h, _ => by simp at h
  | e0 :: es, hl, 0, j, e, h, hj => by
    simp at h; subst h
    rw [List.flatten_cons, Nat.zero_mul, Nat.zero_add, List.getElem?_append_left (by rw [hl e0 (by simp)]; exact hj)]
  | e0 :: es, hl, i + 1, j, e, h, hj => by
    have h0 := hl e0 (by simp)
    rw [List.flatten_cons, List.getElem?_append_right (by rw [h0, Nat.succ_mul]; omega), h0]
    rw [show (i + 1) * sz + j - sz = i * sz + j by rw [Nat.succ_mul]; omega]
    exact flat_get es (fun e he => hl e (by simp [he])) i j e (by simpa using h) hj
theorem flat_len {α : Type} {sz : Nat} : ∀ (es : List (List α)), (∀ e ∈ es, e.length = sz) → es.flatten.length = es.length * sz
  | [], _ => by simp
  | e :: es, hl => by rw [List.flatten_cons, List.length_append, hl e (by simp), flat_len es (fun e he => hl e (by simp [he])), List.length_cons, Nat.succ_mul, Nat.add_comm]
theorem Reads.row {S : Nat → Nat → Prop} {w : World} {sz : Nat} {es : List (List C)} {v : Value} (h : Reads S w (.sl sz es) v) :
    (∀ e ∈ es, e.length = sz) ∧ ∃ (a : Option Addr) (cap b off : Nat) (us : List Value), v = .slice a es.length cap ∧ es.length ≤ cap ∧ (es ≠ [] → a = some ⟨b, off, none⟩) ∧ us.length = es.length * sz ∧
      ∀ (k : Nat) (c : C), es.flatten[k]? = some c → ∃ u, us[k]? = some u ∧ w.cell? ⟨b, off + k, none⟩ = some u ∧ S b (off + k) ∧ Reads S w c u := by
  cases h with
  | sl _ _ a cap b off f hcap ha hl hc hs hr =>
    have hall : ∀ e ∈ es, e.length = sz := fun e he => by obtain ⟨i, hi⟩ := List.getElem?_of_mem he; exact hl i e hi
    refine ⟨hall, a, cap, b, off, (List.range (es.length * sz)).map (fun k => f (k / sz) (k % sz)), rfl, hcap, ha, by simp, fun k c hk => ?_⟩
    have hlt : k < es.length * sz := by have := (List.getElem?_eq_some_iff.1 hk).1; rwa [flat_len es hall] at this
    have hsz : 0 < sz := by rcases Nat.eq_zero_or_pos sz with h0 | h0; (· subst h0; simp at hlt); exact h0
    have hi : k / sz < es.length := Nat.div_lt_of_lt_mul (by rw [Nat.mul_comm]; exact hlt)
    have he := List.getElem?_eq_getElem hi
    have hj : k % sz < sz := Nat.mod_lt _ hsz
    have hkk : k / sz * sz + k % sz = k := by rw [Nat.mul_comm]; exact Nat.div_add_mod k sz
    have hc' := flat_get es hall (k / sz) (k % sz) _ he hj
    rw [hkk, hk] at hc'
    refine ⟨f (k / sz) (k % sz), by simp [hlt], ?_, ?_, hr _ _ _ c he hc'.symm⟩
    · have := hc _ _ _ c he hc'.symm
      rwa [Nat.add_assoc, hkk] at this
    · have := hs _ _ _ c he hc'.symm
      rwa [Nat.add_assoc, hkk] at this
theorem Reads.of_row {S : Nat → Nat → Prop} {w : World} {sz b off cap : Nat} {es : List (List C)} {us : Nat → Value} (hl : ∀ e ∈ es, e.length = sz) (hcap : es.length ≤ cap)
    (h : ∀ (k : Nat) (c : C), es.flatten[k]? = some c → w.cell? ⟨b, off + k, none⟩ = some (us k) ∧ S b (off + k) ∧ Reads S w c (us k)) : Reads S w (.sl sz es) (.slice (some ⟨b, off, none⟩) es.length cap) := by
  have key : ∀ (i : Nat) (e : List C) (j : Nat) (c : C), es[i]? = some e → e[j]? = some c → es.flatten[i * sz + j]? = some c := fun i e j c hi hj => by
    have hj' : j < sz := by have := (List.getElem?_eq_some_iff.1 hj).1; rwa [hl e (List.mem_of_getElem? hi)] at this
    rw [flat_get es hl i j e hi hj']; exact hj
  exact .sl sz es _ cap b off (fun i j => us (i * sz + j)) hcap (fun _ => rfl) (fun i e hi => hl e (List.mem_of_getElem? hi))
    (fun i e j c hi hj => by rw [Nat.add_assoc]; exact (h _ c (key i e j c hi hj)).1)
    (fun i e j c hi hj => by rw [Nat.add_assoc]; exact (h _ c (key i e j c hi hj)).2.1)
    (fun i e j c hi hj => (h _ c (key i e j c hi hj)).2.2)
def Vu.tok (V : Vu) (i n : Nat) (v : Value) (g m : Nat) : Vu :=
  { nx := max V.nx (i + 1), ι := V.ι, κ := fun j k => if j = i ∧ k = n then v else V.κ j k, cu := fun j => if j = i then n else V.cu j, S := fun b o => V.S b o ∨ (b = g ∧ o < m) }
section
variable {E : Env} {V : Vu} {hp : List (Nat × HB)} {tk : List (Nat × Option Tok)} {w w' : World}
theorem tok_le {i n g m : Nat} {v : Value} (hi : i = V.nx ∨ (i < V.nx ∧ V.cu i < n)) (hcell : ∀ b o, V.S b o → w'.cell? ⟨b, o, none⟩ = w.cell? ⟨b, o, none⟩) : V.Le (V.tok i n v g m) w w' :=
  ⟨Nat.le_max_left _ _, fun _ _ => rfl, fun j hj => by
    show V.cu j ≤ if j = i then n else V.cu j
    split
    · rename_i e; subst e; rcases hi with h | h <;> omega
    · exact Nat.le_refl _, fun j hj k hk => by
    show (if j = i ∧ k = n then v else V.κ j k) = _
    rw [if_neg]
    rintro ⟨rfl, rfl⟩
    rcases hi with h | h <;> omega, fun _ _ h => .inl h, hcell⟩
theorem tok_κ {i n g m : Nat} {v : Value} : (V.tok i n v g m).κ i n = v := by show (if i = i ∧ n = n then v else _) = v; rw [if_pos ⟨rfl, rfl⟩]
theorem tok_cu {i n g m : Nat} {v : Value} : (V.tok i n v g m).cu i = n := by show (if i = i then n else _) = n; rw [if_pos rfl]
theorem tok_κ' {i n g m j k : Nat} {v : Value} (h : j ≠ i) : (V.tok i n v g m).κ j k = V.κ j k := by show (if j = i ∧ k = n then v else _) = _; rw [if_neg (fun h' => h h'.1)]
theorem HRel.tokNew (h : HRel E V hp tk w) {i n g e sz cap : Nat} {cur : Array Value} (hi : i = V.nx ∨ (i < V.nx ∧ V.cu i < n)) (hx : ExtF w w') (hg : w.heap.size ≤ g) (hc : w'.heap[g]? = some (.cells cur e (0, 0))) (hcs : cur.size = cap * sz) (hn : n ≤ cap) (hm : cap ≤ maxLen) :
    HRel E (V.tok i n (.slice (some ⟨g, 0, none⟩) n cap) g (n * sz)) hp ((i, some ⟨e, sz, n⟩) :: tk) w' ∧ V.Le (V.tok i n (.slice (some ⟨g, 0, none⟩) n cap) g (n * sz)) w w' := by
  have hle := tok_le (V := V) (g := g) (m := n * sz) (v := .slice (some ⟨g, 0, none⟩) n cap) (w := w) (w' := w') hi (fun b o hs => hx.cell (h.sz b o hs) (fun h => h))
  refine ⟨⟨?_, h.le0.trans hle, ?_, ?_, ?_, ?_, ?_, ?_, ?_⟩, hle⟩
  · exact h.ext.trans ⟨hx.os, hx.tape, hx.output, hx.size, fun k hk _ => hx.block k hk (fun h => h)⟩
  · rintro b o (hs | ⟨rfl, -⟩)
    · exact Nat.lt_of_lt_of_le (h.sz b o hs) hx.size
    · exact heap_lt hc
  · rintro b o (hs | ⟨rfl, -⟩)
    · exact h.sub b o hs
    · exact .inr (.inl (Nat.le_trans h.ext.size hg))
  · intro j B hj
    obtain ⟨h1, o, ho, hB⟩ := h.own j B hj
    exact ⟨Nat.lt_of_lt_of_le h1 hle.nx, o, (hx.block _ (heap_lt ho) (fun h => h)).trans ho, hB.mono hle⟩
  · exact h.inj
  · intro j B hj
    refine ⟨(h.new j B hj).1, fun o hs => ?_⟩
    rcases hs with hs | ⟨e1, -⟩
    · exact (h.new j B hj).2 o hs
    · obtain ⟨-, o', ho', -⟩ := h.own j B hj
      have := heap_lt ho'
      have e2 : V.ι j = g := e1
      omega
  · intro j T hj
    rw [lk_cons] at hj
    split at hj
    · rename_i e1; subst e1; cases hj
      refine ⟨Nat.lt_of_lt_of_le (Nat.lt_succ_self _) (Nat.le_max_right _ _), tok_cu.symm, cur.toList.take (n * sz), ?_, ?_⟩
      · rw [tok_κ]
        refine ⟨?_, .inr ⟨g, cap, cur, rfl, Nat.zero_le _, hc, hn, hm, hcs, rfl⟩⟩
        rw [List.length_take, Array.length_toList, hcs]
        exact Nat.min_eq_left (Nat.mul_le_mul_right _ hn)
      · intro g' hg'
        rw [tok_κ] at hg'
        obtain rfl : g = g' := Option.some.inj (show some g = some g' from hg')
        refine ⟨.inl (Nat.le_trans h.ext.size hg), fun o hs => ?_, fun k B hk => ?_⟩
        · rcases hs with hs | ⟨-, hs⟩
          · have := h.sz _ _ hs; omega
          · exact hs
        · obtain ⟨-, o', ho', -⟩ := h.own k B hk
          have := heap_lt ho'
          show V.ι k ≠ g
          omega
    · rename_i e1
      have e2 : j ≠ i := fun h => e1 h.symm
      obtain ⟨h1, hcu, xs, hown, hg2⟩ := h.tok j T hj
      rw [tok_κ' e2]
      refine ⟨Nat.lt_of_lt_of_le h1 hle.nx, by rw [hcu]; show _ = if j = i then n else V.cu j; rw [if_neg e2], xs, ?_, fun g' hg' => ?_⟩
      · exact hown.kept (row := none) ⟨hx.os, hx.tape, hx.output, hx.size, fun k hk _ => hx.block k hk (fun h => h)⟩ (by cases (V.κ j T.n).ownBlock <;> simp)
      · obtain ⟨a1, a2, a3⟩ := hg2 g' hg'
        have hgl := (hown.lt g' hg').2
        refine ⟨a1, fun o hs => ?_, a3⟩
        rcases hs with hs | ⟨e3, -⟩
        · exact a2 o hs
        · omega
  · intro j k T U g' hj hk ej ek
    rw [lk_cons] at hj hk
    have key : ∀ j T, lk tk j = some (some T) → j ≠ i → (V.κ j T.n).ownBlock = some g' → g' < w.heap.size := fun j T hj _ e => by
      obtain ⟨-, -, xs, hown, -⟩ := h.tok j T hj
      exact (hown.lt g' e).2
    split at hj <;> split at hk
    · rename_i e1 e2; exact e1.symm.trans e2
    · rename_i e1 e2; subst e1; cases hj
      rw [tok_κ] at ej; obtain rfl : g = g' := Option.some.inj (show some g = some g' from ej)
      rw [tok_κ' (fun h => e2 h.symm)] at ek
      have := key k U hk (fun h => e2 h.symm) ek; omega
    · rename_i e1 e2; subst e2; cases hk
      rw [tok_κ] at ek; obtain rfl : g = g' := Option.some.inj (show some g = some g' from ek)
      rw [tok_κ' (fun h => e1 h.symm)] at ej
      have := key j T hj (fun h => e1 h.symm) ej; omega
    · rename_i e1 e2
      rw [tok_κ' (fun h => e1 h.symm)] at ej
      rw [tok_κ' (fun h => e2 h.symm)] at ek
      exact h.tki j k T U g' hj hk ej ek
theorem HRel.tokRoom (h : HRel E V hp tk w) {i n0 n g e sz cap : Nat} {cur cur' : Array Value} (hi : lk tk i = some (some ⟨e, sz, n0⟩)) (hv : V.κ i n0 = .slice (some ⟨g, 0, none⟩) n0 cap) (hc : w.heap[g]? = some (.cells cur e (0, 0)))
    (hlt : n0 < n) (hn : n ≤ cap) (hm : cap ≤ maxLen) (hcs : cur'.size = cap * sz) (hpre : ∀ o, o < n0 * sz → cur'[o]? = cur[o]?) :
    HRel E (V.tok i n (.slice (some ⟨g, 0, none⟩) n cap) g (n * sz)) hp ((i, some ⟨e, sz, n⟩) :: tk) (w.setRow g cur') ∧ V.Le (V.tok i n (.slice (some ⟨g, 0, none⟩) n cap) g (n * sz)) w (w.setRow g cur') := by
  obtain ⟨h1, hcu, xs, hown, hg2⟩ := h.tok i _ hi
  have hgb : (V.κ i n0).ownBlock = some g := by rw [hv]; rfl
  obtain ⟨a1, a2, a3⟩ := hg2 g hgb
  have hne : ∀ k, k ≠ g → (w.setRow g cur').heap[k]? = w.heap[k]? := fun k hk => setRow_other w g k cur' hk
  have hnew : (w.setRow g cur').heap[g]? = some (.cells cur' e (0, 0)) := setRow_heap w g cur cur' e (0, 0) hc
  have hsz : (w.setRow g cur').heap.size = w.heap.size := by simp [World.setRow]
  have hcell : ∀ b o, V.S b o → (w.setRow g cur').cell? ⟨b, o, none⟩ = w.cell? ⟨b, o, none⟩ := fun b o hs => by
    by_cases hb : b = g
    · subst hb
      rw [cell_of_own hnew, cell_of_own hc]
      exact hpre o (a2 o hs)
    · exact World.cell?_of_block (w := w) (a := ⟨b, o, none⟩) (hne b hb)
  have hle := tok_le (V := V) (g := g) (m := n * sz) (v := .slice (some ⟨g, 0, none⟩) n cap) (w := w) (w' := w.setRow g cur') (.inr ⟨h1, by rw [← hcu]; exact hlt⟩) hcell
  refine ⟨⟨?_, h.le0.trans hle, ?_, ?_, ?_, ?_, ?_, ?_, ?_⟩, hle⟩
  · refine ⟨h.ext.os, h.ext.tape, h.ext.output, by rw [hsz]; exact h.ext.size, fun k hk hM => (hne k fun e1 => ?_).trans (h.ext.block k hk hM)⟩
    rcases a1 with a1 | a1
    · omega
    · rw [← e1] at a1; exact hM a1
  · rintro b o (hs | ⟨rfl, -⟩)
    · rw [hsz]; exact h.sz b o hs
    · exact heap_lt hnew
  · rintro b o (hs | ⟨rfl, -⟩)
    · exact h.sub b o hs
    · exact .inr a1
  · intro j B hj
    obtain ⟨b1, o, ho, hB⟩ := h.own j B hj
    exact ⟨Nat.lt_of_lt_of_le b1 hle.nx, o, (hne _ (a3 j B hj)).trans ho, hB.mono hle⟩
  · exact h.inj
  · intro j B hj
    refine ⟨(h.new j B hj).1, fun o hs => ?_⟩
    rcases hs with hs | ⟨e1, -⟩
    · exact (h.new j B hj).2 o hs
    · exact a3 j B hj e1
  · intro j T hj
    rw [lk_cons] at hj
    split at hj
    · rename_i e1; subst e1; cases hj
      refine ⟨Nat.lt_of_lt_of_le (Nat.lt_succ_self _) (Nat.le_max_right _ _), tok_cu.symm, cur'.toList.take (n * sz), ?_, ?_⟩
      · rw [tok_κ]
        refine ⟨?_, .inr ⟨g, cap, cur', rfl, Nat.zero_le _, hnew, hn, hm, hcs, rfl⟩⟩
        rw [List.length_take, Array.length_toList, hcs]
        exact Nat.min_eq_left (Nat.mul_le_mul_right _ hn)
      · intro g' hg'
        rw [tok_κ] at hg'
        obtain rfl : g = g' := Option.some.inj (show some g = some g' from hg')
        refine ⟨a1, fun o hs => ?_, a3⟩
        rcases hs with hs | ⟨-, hs⟩
        · have := a2 o hs
          exact Nat.lt_of_lt_of_le this (Nat.mul_le_mul_right _ (Nat.le_of_lt hlt))
        · exact hs
    · rename_i e1
      have e2 : j ≠ i := fun h => e1 h.symm
      obtain ⟨b1, bcu, ys, bown, bg2⟩ := h.tok j T hj
      rw [tok_κ' e2]
      refine ⟨Nat.lt_of_lt_of_le b1 hle.nx, by rw [bcu]; show _ = if j = i then n else V.cu j; rw [if_neg e2], ys, ?_, fun g' hg' => ?_⟩
      · refine bown.kept (row := some g) ⟨rfl, rfl, rfl, by rw [hsz]; exact Nat.le_refl _, fun k _ hk => hne k fun e3 => hk (by rw [e3])⟩ ?_
        cases hb : (V.κ j T.n).ownBlock with
        | none => exact .inl rfl
        | some g' =>
          refine .inr fun e3 => e2 ?_
          cases e3
          exact h.tki j i T _ g hj hi hb hgb
      · obtain ⟨c1, c2, c3⟩ := bg2 g' hg'
        refine ⟨c1, fun o hs => ?_, c3⟩
        rcases hs with hs | ⟨e3, -⟩
        · exact c2 o hs
        · subst e3; exact absurd (h.tki j i T _ g' hj hi hg' hgb) e2
  · intro j k T U g' hj hk ej ek
    rw [lk_cons] at hj hk
    split at hj <;> split at hk
    · rename_i e1 e2; exact e1.symm.trans e2
    · rename_i e1 e2; subst e1; cases hj
      rw [tok_κ] at ej; obtain rfl : g = g' := Option.some.inj (show some g = some g' from ej)
      rw [tok_κ' (fun h => e2 h.symm)] at ek
      exact h.tki _ _ _ _ _ hi hk hgb ek
    · rename_i e1 e2; subst e2; cases hk
      rw [tok_κ] at ek; obtain rfl : g = g' := Option.some.inj (show some g = some g' from ek)
      rw [tok_κ' (fun h => e1 h.symm)] at ej
      exact h.tki _ _ _ _ _ hj hi ej hgb
    · rename_i e1 e2
      rw [tok_κ' (fun h => e1 h.symm)] at ej
      rw [tok_κ' (fun h => e2 h.symm)] at ek
      exact h.tki j k T U g' hj hk ej ek
end
end Go.Proofs.YtcapifnaceegmaaGreatDoor
namespace Go.Proofs.YtcapifnaceegmaaGreatDoor
open Go.RowKit
set_option linter.unusedSimpArgs false
set_option linter.unusedVariables false
set_option linter.unusedSectionVars false
def tyElem (P : Program) (e : TypeId) : Option (Nat × Nat) :=
  match P.info? e with
  | some i => match i.zero with
    | some z => if z.cells.size = i.size ∧ 0 < i.size then some (i.size, i.bytes) else none
    | none => none
  | none => none
theorem tyElem_spec {P : Program} {e sz by_ : Nat} (h : tyElem P e = some (sz, by_)) : ∃ i z, P.info? e = some i ∧ i.zero = some z ∧ z.cells.size = sz ∧ 0 < sz ∧ i.size = sz ∧ i.bytes = by_ := by
  unfold tyElem at h
  split at h
  · rename_i i hi
    split at h
    · rename_i z hz
      split at h
      · rename_i hc; cases h; exact ⟨i, z, hi, hz, hc.1, hc.2, rfl, rfl⟩
      · cases h
    · cases h
  · cases h
section
variable {E : Env} {V : Vu} {hp : List (Nat × HB)} {tk : List (Nat × Option Tok)} {w : World}
theorem HRel.tokNil (h : HRel E V hp tk w) (e sz : Nat) : HRel E (V.tok V.nx 0 (.slice none 0 0) 0 0) hp ((V.nx, some ⟨e, sz, 0⟩) :: tk) w ∧ V.Le (V.tok V.nx 0 (.slice none 0 0) 0 0) w w := by
  have hle := tok_le (V := V) (g := 0) (m := 0) (n := 0) (v := .slice none 0 0) (w := w) (w' := w) (.inl rfl) (fun b o hs => rfl)
  have hS : ∀ b o, (V.tok V.nx 0 (.slice none 0 0) 0 0).S b o → V.S b o := fun b o hs => by
    rcases hs with hs | ⟨-, hs⟩
    · exact hs
    · omega
  refine ⟨⟨h.ext, h.le0.trans hle, fun b o hs => h.sz b o (hS b o hs), fun b o hs => h.sub b o (hS b o hs), fun j B hj => ?_, h.inj, fun j B hj => ⟨(h.new j B hj).1, fun o hs => (h.new j B hj).2 o (hS _ _ hs)⟩, ?_, ?_⟩, hle⟩
  · obtain ⟨h1, o, ho, hB⟩ := h.own j B hj
    exact ⟨Nat.lt_of_lt_of_le h1 hle.nx, o, ho, hB.mono hle⟩
  · intro j T hj
    rw [lk_cons] at hj
    split at hj
    · rename_i e1; subst e1; cases hj
      refine ⟨Nat.lt_of_lt_of_le (Nat.lt_succ_self _) (Nat.le_max_right _ _), tok_cu.symm, [], ?_, ?_⟩
      · rw [tok_κ]; exact World.ownsRow_nil _ _ _ _
      · intro g' hg'; rw [tok_κ] at hg'; cases hg'
    · rename_i e1
      have e2 : j ≠ V.nx := fun h => e1 h.symm
      obtain ⟨h1, hcu, xs, hown, hg2⟩ := h.tok j T hj
      rw [tok_κ' e2]
      exact ⟨Nat.lt_of_lt_of_le h1 hle.nx, by rw [hcu]; show _ = if j = V.nx then 0 else V.cu j; rw [if_neg e2], xs, hown, fun g' hg' => ⟨(hg2 g' hg').1, fun o hs => (hg2 g' hg').2.1 o (hS _ _ hs), (hg2 g' hg').2.2⟩⟩
  · intro j k T U g' hj hk ej ek
    rw [lk_cons] at hj hk
    split at hj
    · rename_i e1; subst e1; cases hj; rw [tok_κ] at ej; cases ej
    · split at hk
      · rename_i e1; subst e1; cases hk; rw [tok_κ] at ek; cases ek
      · rename_i e1 e2
        rw [tok_κ' (fun h => e1 h.symm)] at ej
        rw [tok_κ' (fun h => e2 h.symm)] at ek
        exact h.tki j k T U g' hj hk ej ek
theorem app_nil_rel (e sz : Nat) : (CA.app V.nx sz []).rel (V.tok V.nx 0 (.slice none 0 0) 0 0) w (.slice none 0 0) :=
  ⟨Nat.lt_of_lt_of_le (Nat.lt_succ_self _) (Nat.le_max_right _ _), Nat.zero_le _, by rw [List.length_nil, tok_κ],
    .sl sz [] none 0 0 0 (fun _ _ => undef) (Nat.le_refl _) (fun h => absurd rfl h) (fun i e h => by simp at h) (fun i e j c h => by simp at h) (fun i e j c h => by simp at h) (fun i e j c h => by simp at h)⟩
end
section
variable {E : Env} {st : St} {ro : Option Nat} {n : Nat} {Q : Exit → Act → World → Prop} {c : Code}
theorem XC.adoptC {i off : Nat} {T : TypeId} {xs : List CA} (e sz : Nat) (hi : lk st.hp i = some (.cells T xs)) (hx : xs[off]? = some (.d (.v (.slice none 0 0)))) (k : XC E ro n Q c ⟨st.tm, (i, .cells T (xs.set off (.app st.nx sz []))) :: st.hp, (st.nx, some ⟨e, sz, 0⟩) :: st.tk, st.nx + 1, st.nt, st.df⟩) : XC E ro n Q c st := by
  intro V a w hr
  obtain ⟨H, L⟩ := hr.h.tokNil e sz
  have hnx : (V.tok V.nx 0 (.slice none 0 0) 0 0).nx = st.nx + 1 := by show max V.nx (V.nx + 1) = _; rw [hr.nx]; omega
  have hl : ∀ (A : HB) j, j ≠ i → lk ((i, A) :: st.hp) j = lk st.hp j := fun A j hj => by rw [lk_cons, if_neg (fun h => hj h.symm)]
  obtain ⟨hb, o, ho, vs, hvo, hvs⟩ := H.own i _ hi
  have hcell : (xs[off]?).isSome := by rw [hx]; rfl
  obtain ⟨u, hu, hur⟩ := hvs.2 off _ hx
  have hu0 : u = .slice none 0 0 := by cases hur; rfl
  refine k _ a w ⟨?_, hnx, hr.nt, hr.df.le L, fun t' x hx => (hr.tm t' x hx).mono L⟩
  have H' := H
  rw [hr.nx] at H'
  refine ⟨H.ext, H.le0, H.sz, H.sub, ?_, ?_, ?_, ?_, ?_⟩
  · intro j B hj
    dsimp only at hj
    by_cases e1 : j = i
    · subst e1
      rw [lk_cons, if_pos rfl] at hj; cases hj
      refine ⟨hb, o, ho, vs, hvo, by rw [List.length_set]; exact hvs.1, fun m y hy => ?_⟩
      rw [List.getElem?_set] at hy
      split at hy
      · rename_i e2; subst e2
        split at hy
        · cases hy; exact ⟨u, hu, by rw [hu0, ← hr.nx]; exact app_nil_rel e sz⟩
        · cases hy
      · exact hvs.2 m y hy
    · rw [hl _ j e1] at hj; exact H.own j B hj
  · intro j m A B hj hm e1
    dsimp only at hj hm
    rw [lk_cons] at hj hm
    split at hj <;> split at hm
    · rename_i a1 a2; exact a1.symm.trans a2
    · rename_i a1 a2; subst a1; exact H.inj _ _ _ _ hi hm e1
    · rename_i a1 a2; subst a2; exact H.inj _ _ _ _ hj hi e1
    · exact H.inj _ _ _ _ hj hm e1
  · intro j B hj
    dsimp only at hj
    rw [lk_cons] at hj
    split at hj
    · rename_i a1; subst a1; exact H.new _ _ hi
    · exact H.new _ _ hj
  · intro j T' hj
    rw [← hr.nx] at hj
    obtain ⟨b1, b2, ys, b3, b4⟩ := H.tok j T' hj
    refine ⟨b1, b2, ys, b3, fun g' hg' => ⟨(b4 g' hg').1, (b4 g' hg').2.1, fun m B hm => ?_⟩⟩
    dsimp only at hm
    rw [lk_cons] at hm
    split at hm
    · rename_i a1; subst a1; exact (b4 g' hg').2.2 _ _ hi
    · exact (b4 g' hg').2.2 _ _ hm
  · intro j m T' U g' hj hm
    rw [← hr.nx] at hj hm
    exact H.tki j m T' U g' hj hm
end
section
variable {E : Env} {st : St} {d : Nat} {ty : TypeId} {pos : String} {af : Array Edge} {g : Option (Nat × Bool)}
def zeroRow (zs : List Value) (len : Nat) : List CA := (List.range (len * zs.length)).map fun k => .d (.v (zs.getD (k % zs.length) undef))
def rowPlaces (sz len : Nat) : List (Nat × Nat) := (List.range len).map fun i => (i * sz, sz)
theorem build_run {t e sz len : Nat} {zs : List Value} {parts : Array (Nat × Operand)} {avs : List (Nat × AV)} {ys : List CA} (es : List (List C)) (ht : tySlice E.P t = some (e, sz)) (hze : tyZero E.P e = some zs) (hzl : zs.length = sz) (hz : zs.all (·.oneCell') = true)
    (hlen : len * sz ≤ 16777216) (hn : parts.toList.length = avs.length)
    (hp : ∀ (j i : Nat) (x : AV), avs[j]? = some (i, x) → ∃ o, parts.toList[j]? = some (i, o) ∧ ev st.tm o = some (.v x)) (hf : fillL (rowPlaces sz len) (zeroRow zs len) avs = some ys)
    (hs : CSubs ys es.flatten) (hel : ∀ x ∈ es, x.length = sz) (hen : es.length = len) {V : Vu} {a : Act} {w : World} (hr : Rel E V st a w) (dd : Option Tmp) :
    ∃ us : Array Value, (execOp a.eval ⟨dd, .buildSlice t len parts, ty, pos, af, g⟩).run E.P w = .ok (.value (.slice (some ⟨w.heap.size, 0, none⟩) len len)) (w.alloc (.cells us e)) ∧ us.size = len * sz ∧ ∀ (k : Nat) (c : C), es.flatten[k]? = some c → ∃ u, us[k]? = some u ∧ Reads V.S w c u := by
  obtain ⟨hu, i0, hi0, hsz⟩ := tySlice_spec ht
  obtain ⟨z, hz1, hz2⟩ := tyZero_spec hze
  have hrel0 : rels V w (zeroRow zs len) ((Array.range (len * sz)).map fun k => zs.toArray[k % zs.toArray.size]!) := by
    refine ⟨by simp [zeroRow, hzl], fun k x hx => ?_⟩
    simp only [zeroRow, List.getElem?_map] at hx
    cases hk : (List.range (len * zs.length))[k]? with
    | none => rw [hk] at hx; cases hx
    | some k' =>
      rw [hk] at hx
      cases hx
      obtain ⟨hlt, rfl⟩ := List.getElem?_eq_some_iff.1 hk
      simp at hlt
      have hpos : 0 < zs.length := by rcases Nat.eq_zero_or_pos zs.length with h0 | h0; (· rw [h0] at hlt; simp at hlt); exact h0
      have hm : k % zs.length < zs.length := Nat.mod_lt _ hpos
      simp only [List.getElem_range]
      refine ⟨zs.getD (k % zs.length) undef, ?_, Reads.v _ ?_⟩
      · rw [← hzl]; simp [hlt, hm]
      · simp [hm]; exact List.all_eq_true.1 hz _ (List.getElem_mem hm)
  obtain ⟨us, h2, h3⟩ := fill_rel (place := fun i => some (i * sz, sz)) (pl := rowPlaces sz len) (fun i p h => by
    simp only [rowPlaces, List.getElem?_map] at h
    cases hk : (List.range len)[i]? with
    | none => rw [hk] at h; cases h
    | some k' => rw [hk] at h; cases h; obtain ⟨_, rfl⟩ := List.getElem?_eq_some_iff.1 hk; simp) avs (parts.toList.map fun p => (p.1, a.eval p.2)) _ ys _ hrel0 (by simpa using hn) (fun j i x hx => by
      obtain ⟨o, h4, h5⟩ := hp j i x hx
      exact ⟨a.eval o, by rw [List.getElem?_map, h4]; rfl, hr.ev h5⟩) hf
  have hrun : (execOp a.eval ⟨dd, .buildSlice t len parts, ty, pos, af, g⟩).run E.P w = .ok (.value (.slice (some ⟨w.heap.size, 0, none⟩) len len)) (w.alloc (.cells us e)) := by
    have hgt : ¬ (len * sz > 2 ^ 24) := by omega
    have e1 : (parts.map fun (x : Nat × Operand) => (x.1, a.eval x.2)).toList = parts.toList.map fun p => (p.1, a.eval p.2) := by simp
    by_cases h0 : len * sz = 0
    · have e0 : ∀ f : Nat → Value, (Array.range 0).map f = #[] := fun f => by apply Array.ext <;> simp
      rw [h0, e0] at h2
      simp only [execOp, Instr.buildSlice, Sem.run_bind, run_underlying hu, Result.andThen_ok, sizeOf, typeInfo, program, Sem.run, hi0, Sem.run_pure, hsz, if_neg hgt, h0, if_true, e0]
      simp [h2, newRow]
    · simp only [execOp, Instr.buildSlice, Sem.run_bind, run_underlying hu, Result.andThen_ok, sizeOf, typeInfo, program, Sem.run, hi0, Sem.run_pure, hsz, if_neg hgt, if_neg h0, hz1, hz2]
      simp at h2
      simp [h2, newRow]
  refine ⟨us, hrun, by rw [h3.1, hs.len, flat_len es hel, hen], fun k c hk => ?_⟩
  obtain ⟨x, hx1, hx2⟩ := hs.get k c hk
  obtain ⟨u, hu1, hu2⟩ := h3.2 k x hx1
  exact ⟨u, hu1, hx2.reads hu2⟩
theorem run_append0 {P : Program} {w : World} {t ty e : TypeId} {i : TypeInfo} (ht : P.underlying t = some (.slice e)) (hi : P.info? e = some i) (a b : Option Addr) (n cap c : Nat) (hn : n ≤ cap) :
    (Builtin.append_ #[t, t] ty #[.slice a n cap, .slice b 0 c]).run P w = .ok (.slice a n cap) w := by
  cases a <;> cases b <;> simp [Builtin.append_, run_underlying ht, sizeOf, typeInfo, hi, Builtin.lenOf, Builtin.firstCells, loadCells, loadCellsFrom, storeCells, hn]
theorem append_run {V : Vu} {hp : List (Nat × HB)} {tk : List (Nat × Option Tok)} {w : World} (h : HRel E V hp tk w) {t ty e sz by_ i : Nat} {v x : Value} {es es2 : List (List C)} (ht : tySlice E.P t = some (e, sz)) (hte : tyElem E.P e = some (sz, by_))
    (hi : (lk tk i = some (some ⟨e, sz, es.length⟩) ∧ v = V.κ i es.length) ∨ (i = V.nx ∧ es = [] ∧ v = .slice none 0 0)) (hv : Reads V.S w (.sl sz es) v) (hx : Reads V.S w (.sl sz es2) x) (hm : es.length + es2.length ≤ 1000000000) (hb : by_ ≤ 100000) (h2 : es2 ≠ []) :
    ∃ v' w' gb m V', (Builtin.append_ #[t, t] ty #[v, x]).run E.P w = .ok v' w' ∧ V' = V.tok i (es ++ es2).length v' gb m ∧ HRel E V' hp ((i, some ⟨e, sz, (es ++ es2).length⟩) :: tk) w' ∧ V.Le V' w w' ∧ Reads V'.S w' (.sl sz (es ++ es2)) v' := by
  obtain ⟨hu, i1, hi1, hs1⟩ := tySlice_spec ht
  obtain ⟨i0, z, hi0, hz, hzs, hpos, hsz, hby⟩ := tyElem_spec hte
  have : i1 = i0 := Option.some.inj (hi1.symm.trans hi0)
  subst this
  obtain ⟨hl1, a1, cap1, b1, off1, us1, rfl, hc1, ha1, hus1, hk1⟩ := hv.row
  obtain ⟨hl2, a2, cap2, b2, off2, us2, rfl, hc2, ha2, hus2, hk2⟩ := hx.row
  have ha2' := ha2 h2
  subst ha2'
  have hall : ∀ e ∈ es ++ es2, e.length = sz := fun e he => by rcases List.mem_append.1 he with h | h; exact hl1 e h; exact hl2 e h
  have hlen2 : 0 < es2.length := List.length_pos_iff.2 h2
  have hnews : ∀ j u, us2[j]? = some u → w.cell? ((⟨b2, off2, none⟩ : Addr).add j) = some u := fun j u hj => by
    have hlt : j < es2.flatten.length := by rw [flat_len es2 hl2, ← hus2]; exact (List.getElem?_eq_some_iff.1 hj).1
    obtain ⟨u', h3, h4, -⟩ := hk2 j _ (List.getElem?_eq_getElem hlt)
    rw [hj] at h3; cases h3
    rw [addr_add]; exact h4
  have hmax : es.length + es2.length ≤ maxLen := by unfold maxLen; omega
  have hbytes : (es.length + es2.length) * i1.bytes ≤ 140737488355328 := by
    rw [hby]
    calc (es.length + es2.length) * by_ ≤ 1000000000 * 100000 := Nat.mul_le_mul hm hb
      _ ≤ _ := by omega
  have happ : (es ++ es2).length = es.length + es2.length := List.length_append
  have fin : ∀ (V' : Vu) (w' : World) (g' cap' : Nat) (olds : List Value), V.Le V' w w' → olds.length = es.length * sz → (∀ (k : Nat) (c : C), es.flatten[k]? = some c → ∃ u, olds[k]? = some u ∧ Reads V.S w c u) →
      (∀ (k : Nat) (u : Value), (olds ++ us2)[k]? = some u → w'.cell? ⟨g', k, none⟩ = some u) → (∀ o, o < (es ++ es2).length * sz → V'.S g' o) → (es ++ es2).length ≤ cap' →
      Reads V'.S w' (.sl sz (es ++ es2)) (.slice (some ⟨g', 0, none⟩) (es ++ es2).length cap') := by
    intro V' w' g' cap' olds hL hlo ho hcell hS' hcap
    refine Reads.of_row (us := fun k => (olds ++ us2).getD k undef) hall hcap (fun k c hk => ?_)
    have hklt : k < (es ++ es2).length * sz := by have := (List.getElem?_eq_some_iff.1 hk).1; rwa [flat_len _ hall] at this
    have hget : ∃ u, (olds ++ us2)[k]? = some u ∧ Reads V.S w c u := by
      rw [List.flatten_append] at hk
      by_cases hlt : k < es.flatten.length
      · rw [List.getElem?_append_left hlt] at hk
        obtain ⟨u, h3, h4⟩ := ho k c hk
        exact ⟨u, by rw [List.getElem?_append_left (by rw [hlo, ← flat_len es hl1]; exact hlt)]; exact h3, h4⟩
      · rw [List.getElem?_append_right (by omega)] at hk
        obtain ⟨u, h3, -, -, h4⟩ := hk2 _ c hk
        refine ⟨u, ?_, h4⟩
        rw [List.getElem?_append_right (by rw [hlo, ← flat_len es hl1]; omega), hlo, ← flat_len es hl1]
        exact h3
    obtain ⟨u, h3, h4⟩ := hget
    have e1 : (olds ++ us2).getD k undef = u := by rw [List.getD_eq_getElem?_getD, h3]; rfl
    rw [e1, Nat.zero_add]
    exact ⟨hcell k u h3, hS' k hklt, h4.mono hL.S hL.cell⟩
  have anew : ∀ (olds : List Value) (old : Nat) (hi' : i = V.nx ∨ (i < V.nx ∧ V.cu i < (es ++ es2).length)), olds.length = es.length * sz → (∀ (k : Nat) (c : C), es.flatten[k]? = some c → ∃ u, olds[k]? = some u ∧ Reads V.S w c u) →
      (Builtin.append_ #[t, t] ty #[.slice a1 es.length cap1, .slice (some ⟨b2, off2, none⟩) es2.length cap2]).run E.P w = .ok (.slice (some ⟨w.heap.size, 0, none⟩) (es.length + es2.length) (grownCap w (es.length + es2.length) old e)) (w.drew.alloc (.cells (olds.toArray ++ us2.toArray ++ Builtin.zeroCells z.cells (grownCap w (es.length + es2.length) old e - (es.length + es2.length))) e)) →
      ∃ v' w' gb m V', (Builtin.append_ #[t, t] ty #[.slice a1 es.length cap1, .slice (some ⟨b2, off2, none⟩) es2.length cap2]).run E.P w = .ok v' w' ∧ V' = V.tok i (es ++ es2).length v' gb m ∧ HRel E V' hp ((i, some ⟨e, sz, (es ++ es2).length⟩) :: tk) w' ∧ V.Le V' w w' ∧ Reads V'.S w' (.sl sz (es ++ es2)) v' := by
    intro olds old hi' hlo ho hrun
    have hge := grownCap_ge w (es.length + es2.length) old e
    have hcm := grownCap_le_maxLen w (es.length + es2.length) old e hmax
    rw [← happ] at hrun hge hcm
    generalize grownCap w (es ++ es2).length old e = cap' at hrun hge hcm
    have hx' : ExtF w (w.drew.alloc (.cells (olds.toArray ++ us2.toArray ++ Builtin.zeroCells z.cells (cap' - (es ++ es2).length)) e)) := ⟨rfl, rfl, rfl, by simp, fun k hk _ => Below.heap_alloc w.drew _ k hk⟩
    have hnew : (w.drew.alloc (.cells (olds.toArray ++ us2.toArray ++ Builtin.zeroCells z.cells (cap' - (es ++ es2).length)) e)).heap[w.heap.size]? = some (.cells (olds.toArray ++ us2.toArray ++ Builtin.zeroCells z.cells (cap' - (es ++ es2).length)) e (0, 0)) := heap_alloc_new w.drew _
    have hcs : (olds.toArray ++ us2.toArray ++ Builtin.zeroCells z.cells (cap' - (es ++ es2).length)).size = cap' * sz := by
      simp only [Array.size_append, List.size_toArray, size_zeroCells, hzs, hlo, hus2, ← Nat.add_mul]
      rw [happ] at hge ⊢
      congr 1; omega
    obtain ⟨H, L⟩ := h.tokNew (i := i) (n := (es ++ es2).length) (g := w.heap.size) (e := e) (sz := sz) (cap := cap') hi' hx' (Nat.le_refl _) hnew hcs hge hcm
    refine ⟨_, _, w.heap.size, (es ++ es2).length * sz, _, hrun, rfl, H, L, ?_⟩
    refine fin _ _ _ _ olds L hlo ho (fun k u hk => ?_) (fun o ho' => .inr ⟨rfl, ho'⟩) hge
    rw [cell_of_own hnew]
    rw [← Array.getElem?_toList, Array.toList_append, Array.toList_append, List.getElem?_append_left (by have := (List.getElem?_eq_some_iff.1 hk).1; simpa using this)]
    simpa using hk
  have nilcase : ∀ (hi' : i = V.nx ∨ (i < V.nx ∧ V.cu i < (es ++ es2).length)), es = [] → a1 = none → cap1 = 0 → ∃ v' w' gb m V', (Builtin.append_ #[t, t] ty #[.slice a1 es.length cap1, .slice (some ⟨b2, off2, none⟩) es2.length cap2]).run E.P w = .ok v' w' ∧ V' = V.tok i (es ++ es2).length v' gb m ∧ HRel E V' hp ((i, some ⟨e, sz, (es ++ es2).length⟩) :: tk) w' ∧ V.Le V' w w' ∧ Reads V'.S w' (.sl sz (es ++ es2)) v' := by
    intro hi' he ha hc
    refine anew [] 0 hi' (by rw [he]; simp) (fun k c hk => by rw [he] at hk; simp at hk) ?_
    subst he; subst ha; subst hc
    have hr := run_append_nil (P := E.P) w t ty e i1 z hu hi1 hz ⟨b2, off2, none⟩ es2.length cap2 us2 (by rw [hsz]; exact hus2) hnews hlen2 (by simp at hm; omega) (by have := hbytes; simp at this; omega)
    simpa using hr
  rcases hi with ⟨hi, hvk⟩ | ⟨hi, he, hvk⟩
  · obtain ⟨h1, hcu, xs, hown, hg2⟩ := h.tok i _ hi
    dsimp only at hcu hown hg2
    rw [← hvk] at hown
    have hi' : i = V.nx ∨ (i < V.nx ∧ V.cu i < (es ++ es2).length) := .inr ⟨h1, by rw [← hcu, happ]; omega⟩
    rcases hown.2 with ⟨hv0, hn0⟩ | ⟨gg, cap, cur, hvv, -, hcells, hncap, hcm, hcs, htake⟩
    · have he : es = [] := List.eq_nil_of_length_eq_zero hn0
      subst he
      injection hv0 with e1 e2 e3
      exact nilcase hi' rfl e1 e3
    · injection hvv with e1 e2 e3
      subst e1; subst e3
      have hpre : ∀ (k : Nat) (c : C), es.flatten[k]? = some c → ∃ u, xs[k]? = some u ∧ Reads V.S w c u := fun k c hk => by
        obtain ⟨u, h3, h4, -, h5⟩ := hk1 k c hk
        have hne : es ≠ [] := fun e' => by subst e'; simp at hk
        have := ha1 hne
        injection this with this
        injection this with e4 e5
        subst e4
        rw [← e5, Nat.zero_add, cell_of_own hcells] at h4
        have hlt : k < es.length * sz := by have := (List.getElem?_eq_some_iff.1 hk).1; rwa [flat_len _ hl1] at this
        refine ⟨u, ?_, h5⟩
        rw [← htake, List.getElem?_take_of_lt hlt]; simpa using h4
      by_cases hroom : es.length + es2.length ≤ cap1
      · have hfit : es.length * i1.size + us2.length ≤ cur.size := by rw [hus2, hcs, hsz, ← Nat.add_mul]; exact Nat.mul_le_mul_right _ hroom
        have h1c : ∀ u ∈ us2, u.oneCell' = true := fun u hu' => by
          obtain ⟨k, hk⟩ := List.getElem?_of_mem hu'
          have hlt : k < es2.flatten.length := by rw [flat_len es2 hl2, ← hus2]; exact (List.getElem?_eq_some_iff.1 hk).1
          obtain ⟨u', h3, -, -, h4⟩ := hk2 k _ (List.getElem?_eq_getElem hlt)
          rw [hk] at h3; cases h3
          exact h4.one
        have hr := run_append_room (P := E.P) w t ty e i1 hu hi1 gg es.length cap1 cur hcells ⟨b2, off2, none⟩ es2.length cap2 us2 (by rw [hsz]; exact hus2) hnews h1c hroom hfit
        rw [hsz] at hr hfit
        have hcs' : (cur.toList.take (es.length * sz) ++ us2 ++ cur.toList.drop (es.length * sz + us2.length)).toArray.size = cap1 * sz := by
          simp only [List.size_toArray, List.length_append, List.length_take, List.length_drop, Array.length_toList]; omega
        have hxl : xs.length = es.length * sz := hown.1
        obtain ⟨H, L⟩ := h.tokRoom (n := (es ++ es2).length) (cur' := (cur.toList.take (es.length * sz) ++ us2 ++ cur.toList.drop (es.length * sz + us2.length)).toArray) hi hvk.symm hcells (by rw [happ]; omega) (by rw [happ]; exact hroom) hcm hcs' (fun o ho => by
          have ho' : o < es.length * sz := ho
          rw [List.append_assoc, List.getElem?_toArray, List.getElem?_append_left (by rw [List.length_take]; have e8 : cur.toList.length = cur.size := Array.length_toList; omega), List.getElem?_take_of_lt ho]; simp)
        rw [← happ] at hr
        refine ⟨_, _, gg, (es ++ es2).length * sz, _, hr, rfl, H, L, ?_⟩
        refine fin _ _ _ _ xs L hxl hpre (fun k u hk => ?_) (fun o ho' => .inr ⟨rfl, ho'⟩) (by rw [happ]; exact hroom)
        rw [cell_of_own (setRow_heap w gg cur _ e (0, 0) hcells), htake]
        rw [List.getElem?_toArray, List.getElem?_append_left (List.getElem?_eq_some_iff.1 hk).1]
        exact hk
      · have holds : ∀ j u, xs[j]? = some u → w.cell? ((⟨gg, 0, none⟩ : Addr).add j) = some u := hown.cells (g := gg) rfl
        have hr := run_append_grow (P := E.P) w t ty e i1 z hu hi1 hz ⟨gg, 0, none⟩ es.length cap1 xs (by rw [hsz]; exact hown.1) holds ⟨b2, off2, none⟩ es2.length cap2 us2 (by rw [hsz]; exact hus2) hnews (by omega) (by omega) (growslice_fits (by omega) hbytes)
        exact anew xs cap1 hi' hown.1 hpre hr
  · subst he
    injection hvk with e1 e2 e3
    exact nilcase (.inl hi) rfl e1 e3
end
end Go.Proofs.YtcapifnaceegmaaGreatDoor
namespace Go.Proofs.YtcapifnaceegmaaGreatDoor
open Go.RowKit
set_option linter.unusedSimpArgs false
set_option linter.unusedVariables false
set_option linter.unusedSectionVars false
def HOp (E : Env) (ops : Array Oper) (o : Oper) (st : St) (x : TV) : Prop := ∀ V a w, Rel E V st a w → ∀ (ro : Option Nat) (n : Nat) (K : Act → World → Prop) (Q : Exit → Act → World → Prop),
  (∀ V' w' v, ExtF w w' → V.Grow V' w w' → V'.nx = V.nx → x.rel V' w' v → K (a.put o.dst v) w') →
  if Region.wanted o (yielded ops a.tmps) then o.wpIn (FR ro) n E.P a w K Q else K (a.put o.dst undef) w
section
variable {E : Env} {ops : Array Oper} {o : Oper} {st : St} {x : TV}
theorem wpIn_of_ro (h : RO E o st x) {V : Vu} {a : Act} {w : World} (hr : Rel E V st a w) {ro : Option Nat} {n : Nat} {K : Act → World → Prop} {Q : Exit → Act → World → Prop} (hK : ∀ v, x.rel V w v → K (a.put o.dst v) w) : o.wpIn (FR ro) n E.P a w K Q := by
  obtain ⟨v, hrun, hx⟩ := h.2 V a w hr
  refine ⟨fun _ _ => trivial, ?_⟩
  rw [Oper.semAt_eq _ _ _ h.1, hrun]
  exact hK v hx
theorem und_rel {V : Vu} {w : World} : (TV.tup []).rel V w undef := ⟨#[], rfl, rfl, fun i x hx => by simp at hx⟩
end
section
variable (ops : Array Oper)
def dstOf (i : Nat) : Option Tmp := (ops[i]?).bind (·.dst)
def depsOf (hd : List Nat) (i : Nat) : List Nat := match ops[i]? with
  | some o => (o.after.toList.filter (Region.binds .any ·)).map (·.on) |>.filter (hd.contains ·)
  | none => []
def dropTm (ds : List Nat) (tm : List (Nat × TV)) : List (Nat × TV) := tm.filter fun p => !(ds.contains p.1)
def hdDsts (hd : List Nat) : List Nat := hd.filterMap (dstOf ops)
def factsOf (fx : List (Nat × TV)) (js : List Nat) : List (Nat × TV) := js.filterMap fun j => match dstOf ops j, lk fx j with
  | some d, some x => some (d, x)
  | _, _ => none
def stB (hd : List Nat) (st : St) : St := { st with tm := dropTm (hdDsts ops hd) st.tm }
def stOf (hd : List Nat) (st : St) (fx : List (Nat × TV)) (js : List Nat) : St := { st with tm := factsOf ops fx js ++ dropTm (hdDsts ops hd) st.tm }
end
inductive HF (E : Env) (ops : Array Oper) (hd : List Nat) (st : St) (T : List (Nat × TV) → Prop) : List (Nat × TV) → List Nat → Prop
  | nil {fx : List (Nat × TV)} (k : T fx) : HF E ops hd st T fx []
  | cons {fx : List (Nat × TV)} {i : Nat} {rest : List Nat} {o : Oper} {x : TV} (ho : ops[i]? = some o) (h : HOp E ops o (stOf ops hd st fx (depsOf ops hd i)) x) (k : HF E ops hd st T ((i, x) :: fx) rest) : HF E ops hd st T fx (i :: rest)
theorem lk_append {α : Type} : ∀ (l m : List (Nat × α)) (i : Nat), lk (l ++ m) i = match lk l i with | some x => some x | none => lk m i
  | [], m, i => rfl
  | (k, v) :: l, m, i => by
    rw [List.cons_append, lk_cons, lk_cons]
    split
    · rfl
    · exact lk_append l m i
theorem lk_drop {ds : List Nat} : ∀ (tm : List (Nat × TV)) (t : Nat) (x : TV), lk (dropTm ds tm) t = some x → lk tm t = some x ∧ t ∉ ds
  | [], t, x, h => by cases h
  | (k, v) :: r, t, x, h => by
    simp only [dropTm, List.filter_cons] at h
    split at h
    · rename_i hk
      rw [lk_cons] at h ⊢
      split at h
      · rename_i e; subst e; exact ⟨by rw [if_pos rfl]; exact h, by simpa using hk⟩
      · rename_i e; rw [if_neg e]; exact lk_drop r t x h
    · rename_i hk
      have ih := lk_drop r t x h
      refine ⟨?_, ih.2⟩
      rw [lk_cons, if_neg (fun e => ?_)]
      · exact ih.1
      · subst e; exact ih.2 (by simpa using hk)
theorem lk_facts {ops : Array Oper} {fx : List (Nat × TV)} : ∀ (js : List Nat) (t : Nat) (x : TV), lk (factsOf ops fx js) t = some x → ∃ j ∈ js, dstOf ops j = some t ∧ lk fx j = some x
  | [], t, x, h => by cases h
  | j :: js, t, x, h => by
    simp only [factsOf, List.filterMap_cons] at h
    split at h
    · obtain ⟨j', h1, h2⟩ := lk_facts js t x h
      exact ⟨j', List.mem_cons_of_mem _ h1, h2⟩
    · rename_i p hp
      split at hp
      · rename_i d y hd hy
        cases hp
        rw [lk_cons] at h
        split at h
        · rename_i e; subst e; cases h; exact ⟨j, List.mem_cons_self, hd, hy⟩
        · obtain ⟨j', h1, h2⟩ := lk_facts js t x h
          exact ⟨j', List.mem_cons_of_mem _ h1, h2⟩
      · cases hp
structure Know (E : Env) (ops : Array Oper) (hd : List Nat) (st : St) (fx : List (Nat × TV)) (listed : Array Bool) (V : Vu) (a : Act) (w : World) : Prop where
  base : Rel E V (stB ops hd st) a w
  hd : ∀ j ∈ hd, listed.getD j false = true → ∀ d x, dstOf ops j = some d → lk fx j = some x → x.rel V w (a.tmps.getD d undef)
def edgesOf (ops : Array Oper) (i : Nat) : List Nat := match ops[i]? with
  | some o => (o.after.toList.filter (Region.binds .any ·)).map (·.on)
  | none => []
structure AInv (ops : Array Oper) (fl tl : List Nat) (listed : Array Bool) : Prop where
  size : listed.size = ops.size
  fls : ∀ i ∈ fl, i < ops.size → listed.getD i false = true
  tls : ∀ i ∈ tl, listed.getD i false = false
  closed : ∀ j oj, ops[j]? = some oj → listed.getD j false = true → ∀ e ∈ oj.after, Region.binds .any e = true → listed.getD e.on false = true
section
variable {ops : Array Oper} {fl hd tl : List Nat} {listed : Array Bool}
theorem mem_edges {i : Nat} {o : Oper} (ho : ops[i]? = some o) {k : Nat} : k ∈ edgesOf ops i ↔ ∃ e ∈ o.after, Region.binds .any e = true ∧ e.on = k := by
  simp only [edgesOf, ho, List.mem_map, List.mem_filter, Array.mem_toList_iff]
  constructor
  · rintro ⟨e, ⟨h1, h2⟩, h3⟩; exact ⟨e, h1, h2, h3⟩
  · rintro ⟨e, h1, h2, h3⟩; exact ⟨e, ⟨h1, h2⟩, h3⟩
end
end Go.Proofs.YtcapifnaceegmaaGreatDoor
namespace Go.Proofs.YtcapifnaceegmaaGreatDoor
open Go.RowKit
set_option linter.unusedSimpArgs false
set_option linter.unusedVariables false
set_option linter.unusedSectionVars false
theorem lb {a b : Nat} (h : Nat.ble a b = true) : a ≤ b := Nat.le_of_ble_eq_true h
class Prs (p : Prop) (q : outParam Prop) : Prop where
  prs : p → q
theorem prs {p q : Prop} [h : Prs p q] : p → q := h.prs
instance (priority := low) {p : Prop} : Prs p p := ⟨id⟩
instance {p q : Prop} [Decidable p] [h : Prs p q] : Prs (decide p = true) q := ⟨fun e => h.prs (of_decide_eq_true e)⟩
instance {p q : Prop} [Decidable p] [h : Prs (¬ p) q] : Prs (decide p = false) q := ⟨fun e => h.prs (of_decide_eq_false e)⟩
instance {b : Bool} {q : Prop} [h : Prs (b = false) q] : Prs ((!b) = true) q := ⟨fun e => h.prs (by cases b <;> simp_all)⟩
instance {b : Bool} {q : Prop} [h : Prs (b = true) q] : Prs ((!b) = false) q := ⟨fun e => h.prs (by cases b <;> simp_all)⟩
instance {α : Type} [BEq α] [LawfulBEq α] {a b : α} : Prs ((a == b) = true) (a = b) := ⟨fun e => eq_of_beq e⟩
instance {α : Type} [BEq α] [LawfulBEq α] {a b : α} : Prs ((a == b) = false) (¬ a = b) := ⟨fun e h => by subst h; simp at e⟩
instance {α : Type} [BEq α] [LawfulBEq α] {a b : α} : Prs ((a != b) = true) (¬ a = b) := ⟨fun e h => by subst h; simp at e⟩
instance {α : Type} [BEq α] [LawfulBEq α] {a b : α} : Prs ((a != b) = false) (a = b) := ⟨fun e => by simpa using e⟩
instance {a b : Int} : Prs (¬ a < b) (b ≤ a) := ⟨Int.not_lt.1⟩
instance {a b : Int} : Prs (¬ a ≤ b) (b < a) := ⟨Int.not_le.1⟩
section
variable {E : Env} {ro : Option Nat} {n : Nat} {ops : Array Oper} {Q : Exit → Act → World → Prop} {rest : List Oper} {st : St} {o : Oper} {x : TV} {ty : TypeId} {pos : String} {af : Array Edge} {t : Nat}
theorem oR (hg : o.guard = none) (hdst : o.dst = some t) (hd : Nat.ble (t + 1) st.nt = true) (h : RO E o st x) (k : XL E ro n ops Q rest (ST.put st t x)) : XL E ro n ops Q (o :: rest) st := XL.op hg (XO.of_ro hdst (lb hd) h) k
theorem nR {j d : Nat} {b : Bool} (hg : o.guard = some (j, b)) (hj : (ops[j]?).bind (·.dst) = some d) (hb : lk st.tm d = some (TB b)) (hdst : o.dst = some t) (hd : Nat.ble (t + 1) st.nt = true) (h : RO E o st x) (k : XL E ro n ops Q rest (ST.put st t x)) : XL E ro n ops Q (o :: rest) st := XL.on hg hj hb (XO.of_ro hdst (lb hd) h) k
theorem oM {y : Operand} (hd : Nat.ble (t + 1) st.nt = true) (h : ev st.tm y = some x) (k : XL E ro n ops Q rest (ST.put st t x)) : XL E ro n ops Q (⟨some t, .move y, ty, pos, af, none⟩ :: rest) st := oR rfl rfl hd (RO.move h) k
theorem oA {y : Operand} (hd : Nat.ble (t + 1) st.nt = true) (h : ev st.tm y = some x) (k : XL E ro n ops Q rest (ST.put st t x)) : XL E ro n ops Q (⟨some t, .assign y, ty, pos, af, none⟩ :: rest) st := oR rfl rfl hd (RO.assign h) k
end
def isBoolTy (P : Program) (t : TypeId) : Bool := match P.underlying t with
  | some .bool => true
  | _ => false
theorem isBoolTy_spec {P : Program} {t : TypeId} (h : isBoolTy P t = true) : P.underlying t = some .bool := by
  unfold isBoolTy at h
  split at h
  · assumption
  · cases h
def isPairTy (P : Program) (t : TypeId) : Bool := match P.underlying t with
  | some (.struct fs) => match fs.toList with
    | [f0, f1] => f0.name != "_" && f1.name != "_" && f0.offset == 0 && f1.offset == 1 && (match P.underlying f0.type, P.underlying f1.type with
      | some (.int .i64), some (.int .i64) => true
      | _, _ => false) && !(P.stoodInHeld t) && !(P.eqGuardType P.depth t)
    | _ => false
  | _ => false
section
variable {E : Env} {st : St} {d : Option Tmp} {ty : TypeId} {pos : String} {af : Array Edge} {g : Option (Nat × Bool)}
theorem RO.eqBool {t t' : TypeId} {x y : Operand} {a b : Bool} (ht : isBoolTy E.P t = true) (hx : ev st.tm x = some (TB a)) (hy : ev st.tm y = some (TB b)) : RO E ⟨d, .binOp .eql t x y t', ty, pos, af, g⟩ st (TB (a == b)) := by
  refine ⟨(fun _ h => nomatch h), fun V ac w hr => ⟨.bool (a == b), ?_, rel_of rfl⟩⟩
  have e0 : ∀ dp, (Op.equalIn (dp + 1) t (.bool a) (.bool b)).run E.P w = .ok (a == b) w := fun dp => by
    simp [Op.equalIn, run_underlying (isBoolTy_spec ht)]
  have e : (Op.equalIn Op.maxDepth t (.bool a) (.bool b)).run E.P w = .ok (a == b) w := e0 9999
  simp only [execOp, val_of (hr.ev hx), val_of (hr.ev hy), eqGuard, binOp, Op.equal, Sem.run_bind]
  simp [e]
theorem pair_run {P : Program} {w : World} {t : TypeId} (ht : isPairTy P t = true) (a0 a1 b0 b1 : Int) : (Op.equalIn Op.maxDepth t (.agg #[.int .i64 a0, .int .i64 a1]) (.agg #[.int .i64 b0, .int .i64 b1])).run P w = .ok ((a0 == b0) && (a1 == b1)) w ∧ P.eqGuardType P.depth t = false := by
  unfold isPairTy at ht
  split at ht
  · rename_i fs hu
    split at ht
    case h_2 => cases ht
    rename_i f0 f1 hfs
    simp only [Bool.and_eq_true, bne_iff_ne, ne_eq, beq_iff_eq, Bool.not_eq_true'] at ht
    obtain ⟨⟨⟨⟨⟨⟨h1, h2⟩, h3⟩, h4⟩, h5⟩, h6⟩, h7⟩ := ht
    refine ⟨?_, h7⟩
    split at h5
    · rename_i hu0 hu1
      have hf : P.fieldsOf t = fs := by simp [Program.fieldsOf, hu]
      have hrun := run_equalIn_struct w 9999 t #[.int .i64 a0, .int .i64 a1] #[.int .i64 b0, .int .i64 b1] (by rw [hf]; exact hu) h6
      refine (show _ = _ from hrun).trans ?_
      rw [hf, hfs]
      have q0' : ∀ (dp : Nat) (a b : Int), (Op.equalIn (dp + 1) f0.type (.int .i64 a) (.int .i64 b)).run P w = .ok (a == b) w := fun dp a b => by
        simp [Op.equalIn, run_underlying hu0]
      have q1' : ∀ (dp : Nat) (a b : Int), (Op.equalIn (dp + 1) f1.type (.int .i64 a) (.int .i64 b)).run P w = .ok (a == b) w := fun dp a b => by
        simp [Op.equalIn, run_underlying hu1]
      have q0 : ∀ (a b : Int), (Op.equalIn 9999 f0.type (.int .i64 a) (.int .i64 b)).run P w = .ok (a == b) w := q0' 9998
      have q1 : ∀ (a b : Int), (Op.equalIn 9999 f1.type (.int .i64 a) (.int .i64 b)).run P w = .ok (a == b) w := q1' 9998
      have i0 : (isAgg f0.type).run P w = .ok false w := by simp [isAgg, run_underlying hu0]
      have i1 : (isAgg f1.type).run P w = .ok false w := by simp [isAgg, run_underlying hu1]
      simp only [Op.eqFields, h1, h2, if_true, ne_eq, not_false_eq_true, part, h3, h4, Sem.run_bind, i0, i1, Result.andThen_ok, Bool.false_eq_true, if_false]
      by_cases e0 : a0 = b0 <;> by_cases e1 : a1 = b1 <;> simp [q0, q1, i0, i1, e0, e1]
    · cases h5
  · cases ht
theorem RO.neqPair {t t' : TypeId} {x y : Operand} {a0 a1 b0 b1 : Int} (ht : isPairTy E.P t = true) (hx : ev st.tm x = some (.v (.agg [.d (.v (.int .i64 a0)), .d (.v (.int .i64 a1))]))) (hy : ev st.tm y = some (.v (.agg [.d (.v (.int .i64 b0)), .d (.v (.int .i64 b1))]))) : RO E ⟨d, .binOp .neq t x y t', ty, pos, af, g⟩ st (TB (!((a0 == b0) && (a1 == b1)))) := by
  refine ⟨(fun _ h => nomatch h), fun V ac w hr => ⟨.bool (!((a0 == b0) && (a1 == b1))), ?_, rel_of rfl⟩⟩
  have ex : ∀ (o : Operand) (p q : Int), ev st.tm o = some (.v (.agg [.d (.v (.int .i64 p)), .d (.v (.int .i64 q))])) → ac.eval o = .agg #[.int .i64 p, .int .i64 q] := fun o p q h => by
    obtain ⟨vs, h1, h2, h3⟩ := hr.ev h
    obtain ⟨u0, a1, a2⟩ := h3 0 _ rfl
    obtain ⟨u1, b1, b2⟩ := h3 1 _ rfl
    cases a2; cases b2
    rw [h1]
    congr 1
    apply Array.ext
    · simpa using h2
    · intro i hi1 hi2
      simp at hi2
      match i, hi2 with
      | 0, _ => rw [Array.getElem?_eq_getElem (by omega)] at a1; exact Option.some.inj a1
      | 1, _ => rw [Array.getElem?_eq_getElem (by omega)] at b1; exact Option.some.inj b1
  obtain ⟨e, hgt⟩ := pair_run (w := w) ht a0 a1 b0 b1
  simp only [execOp, ex x _ _ hx, ex y _ _ hy, eqGuard, binOp, Op.equal, Sem.run_bind]
  simp [e, hgt]
end
end Go.Proofs.YtcapifnaceegmaaGreatDoor
namespace Go.Proofs.YtcapifnaceegmaaGreatDoor
set_option linter.unusedSimpArgs false
set_option linter.unusedVariables false
set_option linter.unusedSectionVars false
abbrev LV := Int × Int
structure Lvl where
  c : Int
  vs : List LV
structure Bnd where
  lo : Lvl
  hi : Lvl
def idxOf {α : Type} (p : α → Bool) : List α → Int
  | [] => -1
  | x :: r => if p x then 0 else if idxOf p r < 0 then -1 else idxOf p r + 1
theorem idxOf_neg {α : Type} (p : α → Bool) (l : List α) : idxOf p l < 0 ↔ l.any p = false := by
  induction l with
  | nil => simp [idxOf]
  | cons x r ih =>
    simp only [idxOf, List.any_cons]
    by_cases h : p x = true
    · simp [h]
    · by_cases h2 : idxOf p r < 0
      · simp [h, h2, ih.1 h2]
      · have : ¬ r.any p = false := fun e => h2 (ih.2 e)
        simp [h, h2]
        constructor
        · intro; omega
        · intro h3; exact absurd (by simpa using h3) this
theorem idxOf_pos {α : Type} (p : α → Bool) (l : List α) : decide (0 ≤ idxOf p l) = l.any p := by
  have := idxOf_neg p l
  by_cases h : 0 ≤ idxOf p l
  · have h2 : ¬ l.any p = false := fun e => by have := this.2 e; omega
    simp [h]; simpa using h2
  · simp [h, this.1 (by omega)]
theorem idxOf_at {α : Type} (p : α → Bool) (l : List α) (k : Nat) (x : α) (h : l[k]? = some x) (hp : p x = true) (hb : ∀ (i : Nat) (y : α), i < k → l[i]? = some y → p y = false) : idxOf p l = k := by
  induction l generalizing k with
  | nil => simp at h
  | cons z r ih =>
    cases k with
    | zero => simp at h; subst h; simp [idxOf, hp]
    | succ k =>
      have hz := hb 0 z (by omega) rfl
      have := ih k (by simpa using h) (fun i y hi hy => hb (i + 1) y (by omega) (by simpa using hy))
      simp only [idxOf, hz, this]
      have h3 : ¬ ((k : Int) < 0) := by omega
      simp [h3]
theorem idxOf_none {α : Type} (p : α → Bool) (l : List α) (hb : ∀ (i : Nat) (y : α), l[i]? = some y → p y = false) : idxOf p l = -1 := by
  induction l with
  | nil => rfl
  | cons z r ih =>
    have hz := hb 0 z rfl
    have := ih (fun i y hy => hb (i + 1) y (by simpa using hy))
    simp [idxOf, hz, this]
def okVar (x : LV) : Bool := decide (-65536 ≤ x.1) && decide (x.1 ≤ 7) && decide (0 ≤ x.2) && decide (x.2 ≤ 100)
def ascB : List LV → Bool
  | x :: y :: r => decide (x.1 < y.1) && ascB (y :: r)
  | _ => true
def covB (c : Int) (vs : List LV) : Bool := vs.any fun x => decide (c ≤ x.2)
def validB (L : Lvl) : Bool := decide (0 ≤ L.c) && decide (L.c ≤ 100) && !(decide (0 < L.c) && covB L.c L.vs) && L.vs.all okVar && ascB L.vs
def okAt (vs : List LV) (k : Nat) : Prop := ∀ x, vs[k]? = some x → okVar x = true ∧ (∀ y, 0 < k → vs[k - 1]? = some y → y.1 < x.1)
theorem asc_iff (vs : List LV) : ascB vs = true ↔ ∀ (k : Nat) (x y : LV), vs[k]? = some x → vs[k + 1]? = some y → x.1 < y.1 := by
  induction vs with
  | nil => simp [ascB]
  | cons a r ih =>
    cases r with
    | nil => simp [ascB]
    | cons b r =>
      simp only [ascB, Bool.and_eq_true, decide_eq_true_eq, ih]
      constructor
      · rintro ⟨h1, h2⟩ k x y hx hy
        cases k with
        | zero => simp at hx hy; subst hx hy; exact h1
        | succ k => exact h2 k x y (by simpa using hx) (by simpa using hy)
      · intro h
        exact ⟨h 0 a b rfl rfl, fun k x y hx hy => h (k + 1) x y (by simpa using hx) (by simpa using hy)⟩
theorem valid_parts (L : Lvl) : validB L = true ↔ (0 ≤ L.c ∧ L.c ≤ 100 ∧ (0 < L.c → covB L.c L.vs = false) ∧ ∀ k, k < L.vs.length → okAt L.vs k) := by
  simp only [validB, Bool.and_eq_true, decide_eq_true_eq, Bool.not_eq_true', Bool.and_eq_false_iff, decide_eq_false_iff_not, asc_iff, List.all_eq_true]
  constructor
  · rintro ⟨⟨⟨⟨h1, h2⟩, h3⟩, h4⟩, h5⟩
    refine ⟨h1, h2, fun h => h3.resolve_left (by simpa using h), fun k hk x hx => ⟨h4 x (List.mem_of_getElem? hx), fun y h0 hy => ?_⟩⟩
    exact h5 (k - 1) y x hy (by rw [Nat.sub_add_cancel h0]; exact hx)
  · rintro ⟨h1, h2, h3, h4⟩
    refine ⟨⟨⟨⟨h1, h2⟩, ?_⟩, fun x hx => ?_⟩, fun k x y hx hy => ?_⟩
    · by_cases h : 0 < L.c
      · exact .inr (h3 h)
      · exact .inl h
    · obtain ⟨k, hk⟩ := List.getElem?_of_mem hx
      exact (h4 k (List.getElem?_eq_some_iff.1 hk).1 x hk).1
    · exact (h4 (k + 1) (List.getElem?_eq_some_iff.1 hy).1 y hy).2 x (by omega) hx
theorem valid_true {L : Lvl} (h1 : 0 ≤ L.c) (h2 : L.c ≤ 100) (h3 : 0 < L.c → covB L.c L.vs = false) (h4 : ∀ k, k < L.vs.length → okAt L.vs k) : validB L = true := (valid_parts L).2 ⟨h1, h2, h3, h4⟩
theorem valid_false {L : Lvl} {k : Nat} (hk : k < L.vs.length) (h : ¬ okAt L.vs k) : validB L = false := by
  cases hv : validB L
  · rfl
  · exact absurd (((valid_parts L).1 hv).2.2.2 k hk) h
theorem valid_false_c {L : Lvl} (h : L.c < 0 ∨ 100 < L.c ∨ (0 < L.c ∧ covB L.c L.vs = true)) : validB L = false := by
  cases hv : validB L
  · rfl
  · obtain ⟨h1, h2, h3, _⟩ := (valid_parts L).1 hv
    rcases h with h | h | ⟨h, h'⟩
    · omega
    · omega
    · rw [h3 h] at h'; cases h'
theorem not_okAt {vs : List LV} {k : Nat} {x1 x2 : Int} (hx : vs[k]? = some (x1, x2)) (h : x1 < -65536 ∨ 7 < x1 ∨ x2 < 0 ∨ 100 < x2) : ¬ okAt vs k := by
  intro ho
  have := (ho _ hx).1
  simp only [okVar, Bool.and_eq_true, decide_eq_true_eq] at this
  omega
theorem not_okAt' {vs : List LV} {k : Nat} {x y : LV} (hx : vs[k]? = some x) (hy : vs[k - 1]? = some y) (hk : 0 < k) (h : x.1 ≤ y.1) : ¬ okAt vs k := by
  intro ho
  have := (ho _ hx).2 y hk hy
  omega
theorem is_okAt {vs : List LV} {k : Nat} {x1 x2 : Int} (hx : vs[k]? = some (x1, x2)) (h1 : -65536 ≤ x1) (h2 : x1 ≤ 7) (h3 : 0 ≤ x2) (h4 : x2 ≤ 100) (h : ∀ y1 y2, 0 < k → vs[k - 1]? = some (y1, y2) → y1 < x1) : okAt vs k := by
  intro x' hx'
  rw [hx] at hx'
  cases hx'
  refine ⟨by simp [okVar, *], fun y hk hy => h y.1 y.2 hk hy⟩
def bigB (L : Lvl) : Bool := L.vs.any (fun x => decide (100 < x.2)) || decide (100 < L.c)
def trimL (L : Lvl) : Lvl := if covB L.c L.vs then ⟨0, L.vs⟩ else L
theorem big_at {L : Lvl} {k : Nat} {x1 x2 : Int} (hx : L.vs[k]? = some (x1, x2)) (h : 100 < x2) : bigB L = true := by
  simp only [bigB, Bool.or_eq_true, List.any_eq_true, decide_eq_true_eq]
  exact .inl ⟨_, List.mem_of_getElem? hx, h⟩
theorem big_c {L : Lvl} (h : 100 < L.c) : bigB L = true := by simp [bigB, h]
theorem big_no {L : Lvl} (h : ∀ (j : Nat) (x : LV), j < L.vs.length → L.vs[j]? = some x → x.2 ≤ 100) (hc : L.c ≤ 100) : bigB L = false := by
  simp only [bigB, Bool.or_eq_false_iff, List.any_eq_false, decide_eq_true_eq, decide_eq_false_iff_not]
  refine ⟨fun x hx => ?_, by omega⟩
  obtain ⟨j, hj⟩ := List.getElem?_of_mem hx
  have := h j x (List.getElem?_eq_some_iff.1 hj).1 hj
  omega
def topOf (c : Int) (vs : List LV) : Int := vs.foldl (fun m x => max m x.2) c
theorem cov_of {c : Int} {vs : List LV} (h : ∀ (j : Nat) (x : LV), j < vs.length → vs[j]? = some x → 0 < c → x.2 < c) : 0 < c → covB c vs = false := by
  intro hc
  simp only [covB, List.any_eq_false, decide_eq_true_eq]
  intro x hx
  obtain ⟨j, hj⟩ := List.getElem?_of_mem hx
  have := h j x (List.getElem?_eq_some_iff.1 hj).1 hj hc
  omega
theorem cov_at {c : Int} {vs : List LV} {k : Nat} {x1 x2 : Int} (hx : vs[k]? = some (x1, x2)) (h : c ≤ x2) : covB c vs = true := by
  simp only [covB, List.any_eq_true, decide_eq_true_eq]
  exact ⟨_, List.mem_of_getElem? hx, h⟩
def limL (L : Lvl) : Lvl × Int := if bigB L then (⟨0, []⟩, 15) else (trimL L, 0)
theorem limL_big {L : Lvl} (h : bigB L = true) : limL L = (⟨0, []⟩, 15) := by simp [limL, h]
theorem limL_cov {L : Lvl} (h : bigB L = false) (hc : covB L.c L.vs = true) : limL L = (⟨0, L.vs⟩, 0) := by simp [limL, h, trimL, hc]
theorem limL_no {L : Lvl} (h : bigB L = false) (hc : covB L.c L.vs = false) : limL L = (L, 0) := by simp [limL, h, trimL, hc]
def upV (n : Int) (l : List LV) : List LV := l.map fun x => (x.1, x.2 + n)
theorem valid_okVar {L : Lvl} {i : Nat} {x : LV} (h : validB L = true) (hx : L.vs[i]? = some x) : -65536 ≤ x.1 ∧ x.1 ≤ 7 ∧ 0 ≤ x.2 ∧ x.2 ≤ 100 := by
  have := (((valid_parts _).1 h).2.2.2 i (List.getElem?_eq_some_iff.1 hx).1 _ hx).1
  simp [okVar] at this
  omega
theorem valid_c {L : Lvl} (h : validB L = true) : 0 ≤ L.c ∧ L.c ≤ 100 := by have := (valid_parts _).1 h; omega
def mergeV : List LV → List LV → List LV
  | [], b => b
  | x :: a, [] => x :: a
  | x :: a, y :: b => if x.1 < y.1 then x :: mergeV a (y :: b) else if y.1 < x.1 then y :: mergeV (x :: a) b else (x.1, max x.2 y.2) :: mergeV a b
termination_by a b => a.length + b.length
theorem mergeV_nil_r (a : List LV) : mergeV a [] = a := by cases a <;> simp [mergeV]
theorem mergeV_nil_l (b : List LV) : mergeV [] b = b := by simp [mergeV]
def joinL (A B : Lvl) : Lvl := if mergeV A.vs B.vs ≠ [] ∧ max A.c B.c ≤ topOf 0 (mergeV A.vs B.vs) then ⟨0, mergeV A.vs B.vs⟩ else ⟨max A.c B.c, mergeV A.vs B.vs⟩
theorem asc_pair {l : List LV} : ascB l = true ↔ l.Pairwise (fun a b => a.1 < b.1) := by
  induction l with
  | nil => simp [ascB]
  | cons a r ih =>
    cases r with
    | nil => simp [ascB]
    | cons b r =>
      simp only [ascB, Bool.and_eq_true, decide_eq_true_eq, ih]
      constructor
      · rintro ⟨h1, h2⟩
        refine List.pairwise_cons.2 ⟨fun c hc => ?_, h2⟩
        rcases List.mem_cons.1 hc with rfl | hc
        · exact h1
        · exact Int.lt_trans h1 ((List.pairwise_cons.1 h2).1 c hc)
      · intro h
        exact ⟨(List.pairwise_cons.1 h).1 b List.mem_cons_self, (List.pairwise_cons.1 h).2⟩
def WF (l : List LV) : Prop := l.Pairwise (fun a b => a.1 < b.1) ∧ ∀ x ∈ l, -65536 ≤ x.1 ∧ x.1 ≤ 7
theorem wf_valid {L : Lvl} (h : validB L = true) : WF L.vs := by
  refine ⟨asc_pair.1 (by simp only [validB, Bool.and_eq_true] at h; exact h.2), fun x hx => ?_⟩
  obtain ⟨k, hk⟩ := List.getElem?_of_mem hx
  have := valid_okVar h hk; omega
theorem pw_len : ∀ (l : List LV) (lo : Int), l.Pairwise (fun a b => a.1 < b.1) → (∀ x ∈ l, lo ≤ x.1 ∧ x.1 ≤ 7) → lo ≤ 8 → (l.length : Int) ≤ 8 - lo
  | [], lo, _, _, h => by simp; omega
  | a :: r, lo, hp, hb, h => by
    have ha := hb a List.mem_cons_self
    have := pw_len r (a.1 + 1) (List.pairwise_cons.1 hp).2 (fun x hx => ⟨by have := (List.pairwise_cons.1 hp).1 x hx; omega, (hb x (List.mem_cons_of_mem _ hx)).2⟩) (by omega)
    simp only [List.length_cons]; omega
theorem WF.len {l : List LV} (h : WF l) : l.length ≤ 100000 := by have := pw_len l (-65536) h.1 h.2 (by omega); omega
theorem wf_nil : WF [] := ⟨List.Pairwise.nil, fun x hx => by cases hx⟩
theorem wf_one {x : LV} (h : -65536 ≤ x.1 ∧ x.1 ≤ 7) : WF [x] := ⟨List.pairwise_singleton _ _, fun y hy => by simp at hy; subst hy; exact h⟩
theorem mem_merge : ∀ (a b : List LV) (z : LV), z ∈ mergeV a b → (∃ x ∈ a, z.1 = x.1) ∨ (∃ y ∈ b, z.1 = y.1)
  | [], b, z, h => by rw [mergeV_nil_l] at h; exact .inr ⟨z, h, rfl⟩
  | x :: a, [], z, h => by rw [mergeV_nil_r] at h; exact .inl ⟨z, h, rfl⟩
  | x :: a, y :: b, z, h => by
    rw [mergeV] at h
    split at h
    · rcases List.mem_cons.1 h with rfl | h
      · exact .inl ⟨z, List.mem_cons_self, rfl⟩
      · rcases mem_merge a (y :: b) z h with ⟨w, hw, e⟩ | hr
        · exact .inl ⟨w, List.mem_cons_of_mem _ hw, e⟩
        · exact .inr hr
    · split at h
      · rcases List.mem_cons.1 h with rfl | h
        · exact .inr ⟨z, List.mem_cons_self, rfl⟩
        · rcases mem_merge (x :: a) b z h with hr | ⟨w, hw, e⟩
          · exact .inl hr
          · exact .inr ⟨w, List.mem_cons_of_mem _ hw, e⟩
      · rcases List.mem_cons.1 h with rfl | h
        · exact .inl ⟨x, List.mem_cons_self, rfl⟩
        · rcases mem_merge a b z h with ⟨w, hw, e⟩ | ⟨w, hw, e⟩
          · exact .inl ⟨w, List.mem_cons_of_mem _ hw, e⟩
          · exact .inr ⟨w, List.mem_cons_of_mem _ hw, e⟩
termination_by a b => a.length + b.length
theorem wf_merge : ∀ (a b : List LV), WF a → WF b → WF (mergeV a b)
  | [], b, _, hb => by rw [mergeV_nil_l]; exact hb
  | x :: a, [], ha, _ => by rw [mergeV_nil_r]; exact ha
  | x :: a, y :: b, ha, hb => by
    have ha' : WF a := ⟨(List.pairwise_cons.1 ha.1).2, fun z hz => ha.2 z (List.mem_cons_of_mem _ hz)⟩
    have hb' : WF b := ⟨(List.pairwise_cons.1 hb.1).2, fun z hz => hb.2 z (List.mem_cons_of_mem _ hz)⟩
    have xa := (List.pairwise_cons.1 ha.1).1
    have yb := (List.pairwise_cons.1 hb.1).1
    rw [mergeV]
    split
    · rename_i h1
      have ih := wf_merge a (y :: b) ha' hb
      refine ⟨List.pairwise_cons.2 ⟨fun z hz => ?_, ih.1⟩, fun z hz => ?_⟩
      · rcases mem_merge _ _ _ hz with ⟨w, hw, e⟩ | ⟨w, hw, e⟩
        · have := xa w hw; omega
        · rcases List.mem_cons.1 hw with rfl | hw
          · omega
          · have := yb w hw; omega
      · rcases List.mem_cons.1 hz with rfl | hz
        · exact ha.2 _ List.mem_cons_self
        · exact ih.2 z hz
    · split
      · rename_i h1 h2
        have ih := wf_merge (x :: a) b ha hb'
        refine ⟨List.pairwise_cons.2 ⟨fun z hz => ?_, ih.1⟩, fun z hz => ?_⟩
        · rcases mem_merge _ _ _ hz with ⟨w, hw, e⟩ | ⟨w, hw, e⟩
          · rcases List.mem_cons.1 hw with rfl | hw
            · omega
            · have := xa w hw; omega
          · have := yb w hw; omega
        · rcases List.mem_cons.1 hz with rfl | hz
          · exact hb.2 _ List.mem_cons_self
          · exact ih.2 z hz
      · rename_i h1 h2
        have ih := wf_merge a b ha' hb'
        refine ⟨List.pairwise_cons.2 ⟨fun z hz => ?_, ih.1⟩, fun z hz => ?_⟩
        · rcases mem_merge _ _ _ hz with ⟨w, hw, e⟩ | ⟨w, hw, e⟩
          · have := xa w hw; dsimp only; omega
          · have := yb w hw; dsimp only; omega
        · rcases List.mem_cons.1 hz with rfl | hz
          · exact ha.2 x List.mem_cons_self
          · exact ih.2 z hz
termination_by a b => a.length + b.length
end Go.Proofs.YtcapifnaceegmaaGreatDoor
namespace Go.Proofs.YtcapifnaceegmaaGreatDoor
open Go.RowKit
set_option linter.unusedSimpArgs false
set_option linter.unusedVariables false
set_option linter.unusedSectionVars false
def lvC (x : LV) : List C := [.v (.int .i64 x.1), .v (.int .i64 x.2)]
def vsC (l : List LV) : C := .sl 2 (l.map lvC)
def lvlC (L : Lvl) : List C := [.v (.int .i64 L.c), vsC L.vs]
def bndC (B : Bnd) : List C := [.v (.int .i64 B.lo.c), vsC B.lo.vs, .v (.int .i64 B.hi.c), vsC B.hi.vs]
def intC (n : Int) : List C := [.v (.int .i64 n)]
def lvA (x : LV) : AV := .agg [.d (.v (.int .i64 x.1)), .d (.v (.int .i64 x.2))]
def lvlA (L : Lvl) : AV := .agg [.d (.v (.int .i64 L.c)), .d (vsC L.vs)]
def resLE (r : Lvl × Int) : TV := .tup [lvlA r.1, .one (.d (.v (.int .i64 r.2)))]
theorem map_get {α β : Type} {f : α → β} {l : List α} {k : Nat} {x : α} (h : l[k]? = some x) : (l.map f)[k]? = some (f x) := by simp [h]
end Go.Proofs.YtcapifnaceegmaaGreatDoor
namespace Go.Proofs.YtcapifnaceegmaaGreatDoor
open Go.RowKit Go.Shelf
set_option linter.unusedSimpArgs false
set_option linter.unusedVariables false
theorem fo_24_0 : fieldOff Tryz.prog 24 0 = some 0 := by kernel_rfl
theorem fo_24_1 : fieldOff Tryz.prog 24 1 = some 1 := by kernel_rfl
theorem fo_69_0 : fieldOff Tryz.prog 69 0 = some 0 := by kernel_rfl
theorem fo_69_1 : fieldOff Tryz.prog 69 1 = some 1 := by kernel_rfl
theorem ag_3 : tyAgg Tryz.prog 3 = some (false, 1) := by kernel_rfl
theorem ag_22 : tyAgg Tryz.prog 22 = some (false, 1) := by kernel_rfl
theorem ag_24 : tyAgg Tryz.prog 24 = some (true, 2) := by kernel_rfl
theorem ag_69 : tyAgg Tryz.prog 69 = some (true, 2) := by kernel_rfl
theorem sl_22 : tySlice Tryz.prog 22 = some (69, 2) := by kernel_rfl
theorem sl_46 : tySlice Tryz.prog 46 = some (3, 1) := by kernel_rfl
theorem sl_55 : tySlice Tryz.prog 55 = some (24, 2) := by kernel_rfl
theorem z_24 : tyZero Tryz.prog 24 = some [.int .i64 0, .slice none 0 0] := by kernel_rfl
theorem z_69 : tyZero Tryz.prog 69 = some [.int .i64 0, .int .i64 0] := by kernel_rfl
theorem bd_24 : IsStruct Tryz.prog 24 [(0, 1), (1, 1)] [.int .i64 0, .slice none 0 0] := ⟨by kernel_rfl, by kernel_rfl⟩
theorem bd_69 : IsStruct Tryz.prog 69 [(0, 1), (1, 1)] [.int .i64 0, .int .i64 0] := ⟨by kernel_rfl, by kernel_rfl⟩
theorem el_69 : tyElem Tryz.prog 69 = some (2, 16) := by kernel_rfl
theorem en_19 : Enters Tryz.prog 19 := enters_of Tryz.func19 (by kernel_rfl) rfl
theorem en_20 : Enters Tryz.prog 20 := enters_of Tryz.func20 (by kernel_rfl) rfl
theorem en_45 : Enters Tryz.prog 45 := enters_of Tryz.func45 (by kernel_rfl) rfl
theorem en_48 : Enters Tryz.prog 48 := enters_of Tryz.func48 (by kernel_rfl) rfl
theorem en_49 : Enters Tryz.prog 49 := enters_of Tryz.func49 (by kernel_rfl) rfl
theorem en_60 : Enters Tryz.prog 60 := enters_of Tryz.func60 (by kernel_rfl) rfl
theorem en_76 : Enters Tryz.prog 76 := enters_of Tryz.func76 (by kernel_rfl) rfl
theorem en_77 : Enters Tryz.prog 77 := enters_of Tryz.func77 (by kernel_rfl) rfl
theorem en_86 : Enters Tryz.prog 86 := enters_of Tryz.func86 (by kernel_rfl) rfl
theorem mixed : Tryz.prog.follows .mixedOrders = true := by kernel_rfl
end Go.Proofs.YtcapifnaceegmaaGreatDoor
namespace Go.Proofs.YtcapifnaceegmaaGreatDoor
open Go.RowKit
set_option linter.unusedSimpArgs false
set_option linter.unusedVariables false
set_option maxRecDepth 100000 in
theorem indexLV (l : List LV) (p : LV → Bool) (f : FuncId) (caps : List (List C × Nat)) (hlen : l.length ≤ 100000) (hf : ∀ x ∈ l, Fun Tryz.prog f ([lvA x] ++ caps.map fun q => .one (.pel q.1 q.2)) (TB (p x))) : Fun Tryz.prog 86 [.one (.d (.sl 2 (l.map lvC))), .one (.clo f caps)] (TI (idxOf p l)) := by
  refine Fun.of_body 9 19 Tryz.func86 rfl en_86 rfl (lb rfl) (fun S w => ?_)
  simp only [entry]
  refine XC.seq <| XC.region <| oA rfl rfl <| XL.nil <| XQ.seq <| XC.seq <| XC.seq <| XC.region <| oM rfl rfl ?_
  refine XL.op rfl (XO.of_ro rfl (lb rfl) (RO.len sl_22 rfl (by repeat' constructor))) ?_
  refine oM rfl rfl <| XL.nil <| XQ.seq <| XC.block ?_
  refine XC.loop (X := Nat) (fun k => ⟨[(0, .v (.one (.d (.sl 2 (l.map lvC))))), (1, .v (.one (.clo f caps))), (7, TI (l.map lvC).length), (8, TI k)], [], [], 0, 19, []⟩) (fun k => k ≤ l.length ∧ ∀ (i : Nat) (x : LV), i < k → l[i]? = some x → p x = false) (fun k => l.length - k) 0 ⟨(by repeat' constructor), (by repeat' constructor), (by repeat (first | exact trivial | refine ⟨(by intro T h; first | (cases h; rfl) | cases h), ?_⟩)), (lb rfl), Nat.zero_le _, rfl, rfl, (by simp [tmBelow, TV.below, AV.below, CA.below]), (by simp [hpBelow, HB.below, CA.below]), (by simp [tkBelow]), (by simp)⟩ ⟨Nat.zero_le _, fun i e h => absurd h (Nat.not_lt_zero i)⟩ ?_
  rintro k ⟨hk, hn⟩
  try dsimp only
  refine XC.seq <| XC.region <| oR rfl rfl rfl (RO.cmp rfl rfl rfl) <| XL.nil <| XQ.seq <| XC.seq ?_
  refine XC.cond rfl (fun c1 => ?_) (fun c1 => ?_)
  ·
    replace c1 := prs c1
    simp only [List.length_map] at c1
    have hlt : k < l.length := by omega
    obtain ⟨x, hx⟩ : ∃ x, l[k]? = some x := ⟨_, List.getElem?_eq_getElem hlt⟩
    refine XC.skip <| XQ.seq <| XC.seq <| XC.block <| XC.seq <| XC.region <| oM rfl rfl <| oA rfl rfl <| XL.nil <| XQ.seq <| XC.seq <| XC.region <| oM rfl rfl <| oM rfl rfl ?_
    refine oM rfl rfl ?_
    refine XL.op rfl (XO.of_ro rfl (lb rfl) (RO.index sl_22 rfl (by repeat' constructor) rfl rfl (map_get hx))) ?_
    first | refine oR rfl rfl rfl (RO.loadOwnAgg ag_69 rfl rfl rfl rfl) ?_ | refine oR rfl rfl rfl (RO.loadPelAgg ag_69 rfl rfl rfl) ?_
    refine XL.op rfl (XO.callB1 (.inr ⟨_, _, rfl, rfl, rfl⟩) (hf x (List.mem_of_getElem? hx)) (by first | exact Plain.v _ rfl | exact Plain.tup [_, _] (by simp [Value.oneCell'])) rfl (by repeat' constructor) (lb rfl)) ?_
    refine XL.nil <| XQ.seq ?_
    refine XC.cond rfl (fun c2 => ?_) (fun c2 => ?_)
    ·
      replace c2 := prs c2
      refine XC.seq <| XC.region <| oM rfl rfl <| oA rfl rfl <| XL.nil <| XQ.seq <| XC.ret ?_
      refine XQ.ret1 (fun _ _ h => h) rfl (RA.tmp rfl) ?s0 rfl
      case s0 => (rw [idxOf_at p l k x hx c2 hn]); exact (by repeat' constructor)
    ·
      replace c2 := prs c2
      refine XC.skip <| XQ.inBlock <| XQ.seq <| XC.region ?_
      refine XL.op rfl (XO.of_ro rfl (lb rfl) (RO.arith rfl rfl rfl (by omega) (by omega))) ?_
      refine oM rfl rfl <| XL.nil ?_
      refine XQ.next (k + 1) ⟨(by repeat' constructor), (by repeat' constructor), (by repeat (first | exact trivial | refine ⟨(by intro T h; first | (cases h; rfl) | cases h), ?_⟩)), (lb rfl), Nat.zero_le _, rfl, rfl, (by simp [tmBelow, TV.below, AV.below, CA.below]), (by simp [hpBelow, HB.below, CA.below]), (by simp [tkBelow]), (by simp)⟩ ⟨by omega, ?_⟩ (by omega)
      intro i y hi hy
      rcases Nat.lt_or_ge i k with h | h
      · exact hn i y h hy
      · obtain rfl : i = k := by omega
        rw [hx] at hy; cases hy; exact c2
  ·
    replace c1 := prs c1
    refine XC.exit <| XQ.thenE <| XQ.thenE <| XQ.blockX <| XQ.seq <| XC.seq <| XC.region <| oA rfl rfl <| XL.nil <| XQ.seq <| XC.ret ?_
    refine XQ.ret1 (fun _ _ h => h) rfl (RA.tmp rfl) ?s0 rfl
    case s0 => (rw [idxOf_none p l (fun i y hy => hn i y (by have := (List.getElem?_eq_some_iff.1 hy).1; simp only [List.length_map] at c1; omega) hy)]); exact (by repeat' constructor)
set_option maxRecDepth 100000 in
theorem containsLV (l : List LV) (p : LV → Bool) (f : FuncId) (caps : List (List C × Nat)) (hlen : l.length ≤ 100000) (hf : ∀ x ∈ l, Fun Tryz.prog f ([lvA x] ++ caps.map fun q => .one (.pel q.1 q.2)) (TB (p x))) : Fun Tryz.prog 60 [.one (.d (.sl 2 (l.map lvC))), .one (.clo f caps)] (TB (l.any p)) := by
  refine Fun.of_body 9 9 Tryz.func60 rfl en_60 rfl (lb rfl) (fun S w => ?_)
  simp only [entry]
  refine XC.seq <| XC.region <| oA rfl rfl <| XL.nil <| XQ.seq <| XC.seq <| XC.region <| oM rfl rfl <| oM rfl rfl ?_
  refine XL.op rfl (XO.callB2 (.inl ⟨rfl, rfl⟩) (indexLV l p f caps hlen hf) (by first | exact Plain.v _ rfl | exact Plain.tup [_, _] (by simp [Value.oneCell'])) rfl (by repeat' constructor) rfl (by repeat' constructor) (lb rfl)) ?_
  refine oR rfl rfl rfl (RO.cmp rfl rfl rfl) <| oA rfl rfl <| XL.nil <| XQ.seq <| XC.ret ?_
  refine XQ.ret1 (fun _ _ h => h) rfl (RA.tmp rfl) ?s0 rfl
  case s0 => (rw [← idxOf_pos p l]); exact (by repeat' constructor)
set_option maxRecDepth 100000 in
theorem covered1 (x : LV) (L : Lvl) : Fun Tryz.prog 77 [lvA x, .one (.pel (lvlC L) 0)] (TB (decide (L.c ≤ x.2))) := by
  refine Fun.of_body 9 9 Tryz.func77 rfl en_77 rfl (lb rfl) (fun S w => ?_)
  simp only [entry]
  refine XC.seq <| XC.region <| XL.op rfl (XO.box rfl (lb rfl)) <| oA rfl rfl <| XL.nil <| XQ.seq <| XC.seq <| XC.region ?_
  first | refine oR rfl rfl rfl (RO.fieldOwn fo_69_1 rfl) ?_ | refine oR rfl rfl rfl (RO.fieldPel fo_69_1 rfl) ?_
  first | refine oR rfl rfl rfl (RO.loadOwn ag_3 rfl rfl rfl) ?_ | refine oR rfl rfl rfl (RO.loadPel ag_3 rfl rfl) ?_
  first | refine oR rfl rfl rfl (RO.fieldOwn fo_24_0 rfl) ?_ | refine oR rfl rfl rfl (RO.fieldPel fo_24_0 rfl) ?_
  first | refine oR rfl rfl rfl (RO.loadOwn ag_3 rfl rfl rfl) ?_ | refine oR rfl rfl rfl (RO.loadPel ag_3 rfl rfl) ?_
  refine oR rfl rfl rfl (RO.cmp rfl rfl rfl) <| oA rfl rfl <| XL.nil <| XQ.seq <| XC.ret ?_
  refine XQ.ret1 (fun _ _ h => h) rfl (RA.tmp rfl) ?s0 rfl
  case s0 => exact (by repeat' constructor)
set_option maxRecDepth 100000 in
theorem covered_fun (L : Lvl) (hlen : L.vs.length ≤ 100000) : Fun Tryz.prog 48 [lvlA L] (TB (covB L.c L.vs)) := by
  refine Fun.of_body 9 7 Tryz.func48 rfl en_48 rfl (lb rfl) (fun S w => ?_)
  simp only [entry]
  refine XC.seq <| XC.region <| XL.op rfl (XO.box rfl (lb rfl)) <| oA rfl rfl <| XL.nil <| XQ.seq <| XC.seq <| XC.region ?_
  first | refine oR rfl rfl rfl (RO.fieldOwn fo_24_1 rfl) ?_ | refine oR rfl rfl rfl (RO.fieldPel fo_24_1 rfl) ?_
  first | refine oR rfl rfl rfl (RO.loadOwn ag_22 rfl rfl rfl) ?_ | refine oR rfl rfl rfl (RO.loadPel ag_22 rfl rfl) ?_
  refine oR rfl rfl rfl (RO.makeFunc1 rfl) ?_
  refine XL.op rfl (XO.callB2 (.inl ⟨rfl, rfl⟩) (containsLV L.vs (fun x => decide (L.c ≤ x.2)) 77 [(lvlC L, 0)] hlen (fun x _ => covered1 x L)) (by first | exact Plain.v _ rfl | exact Plain.tup [_, _] (by simp [Value.oneCell'])) rfl (by repeat' constructor) rfl (by repeat' constructor) (lb rfl)) ?_
  refine oA rfl rfl <| XL.nil <| XQ.seq <| XC.ret ?_
  refine XQ.ret1 (fun _ _ h => h) rfl (RA.tmp rfl) ?s0 rfl
  case s0 => exact (by repeat' constructor)
end Go.Proofs.YtcapifnaceegmaaGreatDoor
namespace Go.Proofs.YtcapifnaceegmaaGreatDoor
open Go.RowKit
set_option linter.unusedSimpArgs false
set_option linter.unusedVariables false
set_option maxRecDepth 100000 in
set_option maxHeartbeats 1000000 in
theorem valid_fun (L : Lvl) (hlen : L.vs.length ≤ 100000) : Fun Tryz.prog 19 [lvlA L] (TB (validB L)) := by
  refine Fun.of_body 9 65 Tryz.func19 rfl en_19 rfl (lb rfl) (fun S w => ?_)
  simp only [entry]
  refine XC.seq <| XC.region <| XL.op rfl (XO.box rfl (lb rfl)) <| oA rfl rfl <| XL.nil <| XQ.seq <| XC.seq <| XC.seq <| XC.region ?_
  first | refine oR rfl rfl rfl (RO.fieldOwn fo_24_0 rfl) ?_ | refine oR rfl rfl rfl (RO.fieldPel fo_24_0 rfl) ?_
  first | refine oR rfl rfl rfl (RO.loadOwn ag_3 rfl rfl rfl) ?_ | refine oR rfl rfl rfl (RO.loadPel ag_3 rfl rfl) ?_
  refine oR rfl rfl rfl (RO.cmp rfl rfl rfl) <| oM rfl rfl ?_
  refine XL.case (d := 8) rfl (fun c1 => ?_) (fun c1 => ?_)
  ·
    replace c1 := prs c1
    refine XL.offB rfl rfl rfl rfl <| XL.offB rfl rfl rfl rfl <| XL.offB rfl rfl rfl rfl <| oR rfl rfl rfl (RO.pickT rfl rfl) <| oM rfl rfl <| XL.offB rfl rfl rfl rfl <| XL.offB rfl rfl rfl rfl <| XL.offB rfl rfl rfl rfl <| XL.offB rfl rfl rfl rfl <| XL.offU rfl rfl rfl rfl <| XL.offU rfl rfl rfl rfl <| XL.offB rfl rfl rfl rfl <| oR rfl rfl rfl (RO.pickT rfl rfl) <| XL.nil ?_
    refine XQ.seq ?_
    refine XC.cond rfl (fun _ => ?_) (fun h => nomatch h)
    refine XC.seq <| XC.region <| oA rfl rfl <| XL.nil <| XQ.seq <| XC.ret ?_
    refine XQ.ret1 (fun _ _ h => h) rfl (RA.tmp rfl) ?s0 rfl
    case s0 => (first | rw [valid_false_c (L := L) (.inl (by omega))] | rw [valid_false_c (L := L) (.inr (.inl (by omega)))] | rw [valid_false_c (L := L) (.inr (.inr ⟨by omega, by assumption⟩))] | rw [valid_false (L := L) hlt (not_okAt hx (by omega))] | rw [valid_false (L := L) hlt (not_okAt' hx hy (by omega) (by dsimp only; omega))] | rw [valid_true (L := L) h0 h1 hcov (fun j hj => hn j (by simp only [List.length_map] at *; omega))]); exact (by repeat' constructor)
  ·
    replace c1 := prs c1
    first | refine nR rfl rfl rfl rfl rfl (RO.fieldOwn fo_24_0 rfl) ?_ | refine nR rfl rfl rfl rfl rfl (RO.fieldPel fo_24_0 rfl) ?_
    first | refine nR rfl rfl rfl rfl rfl (RO.loadOwn ag_3 rfl rfl rfl) ?_ | refine nR rfl rfl rfl rfl rfl (RO.loadPel ag_3 rfl rfl) ?_
    refine nR rfl rfl rfl rfl rfl (RO.cmp rfl rfl rfl) <| oR rfl rfl rfl (RO.pickF rfl rfl) <| oM rfl rfl ?_
    refine XL.case (d := 13) rfl (fun c2 => ?_) (fun c2 => ?_)
    ·
      replace c2 := prs c2
      refine XL.offB rfl rfl rfl rfl <| XL.offB rfl rfl rfl rfl <| XL.offB rfl rfl rfl rfl <| XL.offB rfl rfl rfl rfl <| XL.offU rfl rfl rfl rfl <| XL.offU rfl rfl rfl rfl <| XL.offB rfl rfl rfl rfl <| oR rfl rfl rfl (RO.pickT rfl rfl) <| XL.nil <| XQ.seq ?_
      refine XC.cond rfl (fun _ => ?_) (fun h => nomatch h)
      refine XC.seq <| XC.region <| oA rfl rfl <| XL.nil <| XQ.seq <| XC.ret ?_
      refine XQ.ret1 (fun _ _ h => h) rfl (RA.tmp rfl) ?s0 rfl
      case s0 => (first | rw [valid_false_c (L := L) (.inl (by omega))] | rw [valid_false_c (L := L) (.inr (.inl (by omega)))] | rw [valid_false_c (L := L) (.inr (.inr ⟨by omega, by assumption⟩))] | rw [valid_false (L := L) hlt (not_okAt hx (by omega))] | rw [valid_false (L := L) hlt (not_okAt' hx hy (by omega) (by dsimp only; omega))] | rw [valid_true (L := L) h0 h1 hcov (fun j hj => hn j (by simp only [List.length_map] at *; omega))]); exact (by repeat' constructor)
    ·
      replace c2 := prs c2
      first | refine nR rfl rfl rfl rfl rfl (RO.fieldOwn fo_24_0 rfl) ?_ | refine nR rfl rfl rfl rfl rfl (RO.fieldPel fo_24_0 rfl) ?_
      first | refine nR rfl rfl rfl rfl rfl (RO.loadOwn ag_3 rfl rfl rfl) ?_ | refine nR rfl rfl rfl rfl rfl (RO.loadPel ag_3 rfl rfl) ?_
      refine nR rfl rfl rfl rfl rfl (RO.cmp rfl rfl rfl) <| nR rfl rfl rfl rfl rfl (RO.move rfl) ?_
      refine XL.case (d := 17) rfl (fun c3 => ?_) (fun c3 => ?_)
      ·
        replace c3 := prs c3
        first | refine nR rfl rfl rfl rfl rfl (RO.loadOwnAgg ag_24 rfl rfl rfl rfl) ?_ | refine nR rfl rfl rfl rfl rfl (RO.loadPelAgg ag_24 rfl rfl rfl) ?_
        refine XL.on rfl rfl rfl (XO.call1 (covered_fun L hlen) rfl (by repeat' constructor) (lb rfl)) ?_
        refine nR rfl rfl rfl rfl rfl (RO.pickT rfl rfl) <| oR rfl rfl rfl (RO.pickF rfl rfl) <| XL.nil <| XQ.seq ?_
        refine XC.cond rfl (fun c4 => ?_) (fun c4 => ?_)
        ·
          replace c4 := prs c4
          refine XC.seq <| XC.region <| oA rfl rfl <| XL.nil <| XQ.seq <| XC.ret ?_
          refine XQ.ret1 (fun _ _ h => h) rfl (RA.tmp rfl) ?s0 rfl
          case s0 => (first | rw [valid_false_c (L := L) (.inl (by omega))] | rw [valid_false_c (L := L) (.inr (.inl (by omega)))] | rw [valid_false_c (L := L) (.inr (.inr ⟨by omega, by assumption⟩))] | rw [valid_false (L := L) hlt (not_okAt hx (by omega))] | rw [valid_false (L := L) hlt (not_okAt' hx hy (by omega) (by dsimp only; omega))] | rw [valid_true (L := L) h0 h1 hcov (fun j hj => hn j (by simp only [List.length_map] at *; omega))]); exact (by repeat' constructor)
        ·
          replace c4 := prs c4
          refine XC.skip <| XQ.seq <| XC.seq <| XC.seq ?_
          have h0 : 0 ≤ L.c := by omega
          have h1 : L.c ≤ 100 := by omega
          have hcov : 0 < L.c → covB L.c L.vs = false := by first | (intro _; assumption) | (intro h; exfalso; omega)
          refine XC.region ?_
          first | refine oR rfl rfl rfl (RO.fieldOwn fo_24_1 rfl) ?_ | refine oR rfl rfl rfl (RO.fieldPel fo_24_1 rfl) ?_
          first | refine oR rfl rfl rfl (RO.loadOwn ag_22 rfl rfl rfl) ?_ | refine oR rfl rfl rfl (RO.loadPel ag_22 rfl rfl) ?_
          refine XL.op rfl (XO.of_ro rfl (lb rfl) (RO.len sl_22 rfl (by repeat' constructor))) ?_
          refine oM rfl rfl <| XL.nil <| XQ.seq <| XC.block ?_
          refine XC.loop (X := Nat) (fun k => ⟨[(1, .v (.one (.ptr 0 0))), (23, .v (.one (.d (vsC L.vs)))), (24, TI (L.vs.map lvC).length), (25, TI k)], [(0, .cells 24 [.d (.v (.int .i64 L.c)), .d (vsC L.vs)])], [], 1, 65, []⟩) (fun k => k ≤ L.vs.length ∧ ∀ j, j < k → okAt L.vs j) (fun k => L.vs.length - k) 0 ⟨(by repeat' constructor), (by repeat' constructor), (by repeat (first | exact trivial | refine ⟨(by intro T h; first | (cases h; rfl) | cases h), ?_⟩)), (lb rfl), Nat.zero_le _, rfl, rfl, (by simp [tmBelow, TV.below, AV.below, CA.below]), (by simp [hpBelow, HB.below, CA.below]), (by simp [tkBelow]), (by simp)⟩ ⟨Nat.zero_le _, fun j h => absurd h (Nat.not_lt_zero j)⟩ ?_
          rintro k ⟨hk, hn⟩
          try dsimp only
          refine XC.seq <| XC.region <| oR rfl rfl rfl (RO.cmp rfl rfl rfl) <| XL.nil <| XQ.seq <| XC.seq ?_
          refine XC.cond rfl (fun c5 => ?_) (fun c5 => ?_)
          ·
            replace c5 := prs c5
            simp only [List.length_map] at c5
            have hlt : k < L.vs.length := by omega
            obtain ⟨⟨x1, x2⟩, hx⟩ : ∃ x, L.vs[k]? = some x := ⟨_, List.getElem?_eq_getElem hlt⟩
            refine XC.skip <| XQ.seq <| XC.seq <| XC.block <| XC.seq <| XC.region <| oM rfl rfl ?_
            refine XL.op rfl (XO.of_ro rfl (lb rfl) (RO.index sl_22 rfl (by repeat' constructor) rfl rfl (map_get hx))) ?_
            first | refine oR rfl rfl rfl (RO.loadOwnAgg ag_69 rfl rfl rfl rfl) ?_ | refine oR rfl rfl rfl (RO.loadPelAgg ag_69 rfl rfl rfl) ?_
            refine XL.op rfl (XO.alloc z_69 rfl (lb rfl)) <| oA rfl rfl <| XL.op rfl (XO.store ag_69 rfl rfl rfl rfl (lb rfl) rfl) <| XL.nil <| XQ.seq <| XC.seq ?_
            refine XC.draw mixed (by kernel_rfl) ?_
            first | refine XS.op rfl rfl (lb rfl) (RO.fieldOwn fo_69_0 rfl) ?_ | refine XS.op rfl rfl (lb rfl) (RO.fieldPel fo_69_0 rfl) ?_
            first | refine XS.op rfl rfl (lb rfl) (RO.loadOwn ag_3 rfl rfl rfl) ?_ | refine XS.op rfl rfl (lb rfl) (RO.loadPel ag_3 rfl rfl) ?_
            refine XS.op rfl rfl (lb rfl) (RO.cmp rfl rfl rfl) <| XS.op rfl rfl (lb rfl) (RO.move rfl) ?_
            refine XS.case (d := 33) rfl (fun c6 => ?_) (fun c6 => ?_)
            ·
              replace c6 := prs c6
              refine XS.offB rfl rfl rfl rfl <| XS.offB rfl rfl rfl rfl <| XS.offB rfl rfl rfl rfl <| XS.op rfl rfl (lb rfl) (RO.pickT rfl rfl) <| XS.op rfl rfl (lb rfl) (RO.move rfl) <| XS.offB rfl rfl rfl rfl <| XS.offB rfl rfl rfl rfl <| XS.offB rfl rfl rfl rfl <| XS.op rfl rfl (lb rfl) (RO.pickT rfl rfl) <| XS.op rfl rfl (lb rfl) (RO.move rfl) <| XS.offB rfl rfl rfl rfl <| XS.offB rfl rfl rfl rfl <| XS.offB rfl rfl rfl rfl <| XS.op rfl rfl (lb rfl) (RO.pickT rfl rfl) ?_
              refine XS.op rfl rfl (lb rfl) (RO.move rfl) <| XS.offB rfl rfl rfl rfl <| XS.offB rfl rfl rfl rfl <| XS.offB rfl rfl rfl rfl <| XS.offU rfl rfl rfl rfl <| XS.offU rfl rfl rfl rfl <| XS.offU rfl rfl rfl rfl <| XS.offU rfl rfl rfl rfl <| XS.offU rfl rfl rfl rfl <| XS.offU rfl rfl rfl rfl <| XS.offU rfl rfl rfl rfl <| XS.offU rfl rfl rfl rfl <| XS.offU rfl rfl rfl rfl <| XS.offU rfl rfl rfl rfl ?_
              refine XS.offB rfl rfl rfl rfl <| XS.op rfl rfl (lb rfl) (RO.pickT rfl rfl) <| XS.nil <| XQ.seq ?_
              refine XC.cond rfl (fun _ => ?_) (fun h => nomatch h)
              refine XC.seq <| XC.region <| oA rfl rfl <| XL.nil <| XQ.seq <| XC.ret ?_
              refine XQ.ret1 (fun _ _ h => h) rfl (RA.tmp rfl) ?s0 rfl
              case s0 => (first | rw [valid_false_c (L := L) (.inl (by omega))] | rw [valid_false_c (L := L) (.inr (.inl (by omega)))] | rw [valid_false_c (L := L) (.inr (.inr ⟨by omega, by assumption⟩))] | rw [valid_false (L := L) hlt (not_okAt hx (by omega))] | rw [valid_false (L := L) hlt (not_okAt' hx hy (by omega) (by dsimp only; omega))] | rw [valid_true (L := L) h0 h1 hcov (fun j hj => hn j (by simp only [List.length_map] at *; omega))]); exact (by repeat' constructor)
            ·
              replace c6 := prs c6
              first | refine XS.on rfl rfl rfl rfl (lb rfl) (RO.fieldOwn fo_69_0 rfl) ?_ | refine XS.on rfl rfl rfl rfl (lb rfl) (RO.fieldPel fo_69_0 rfl) ?_
              first | refine XS.on rfl rfl rfl rfl (lb rfl) (RO.loadOwn ag_3 rfl rfl rfl) ?_ | refine XS.on rfl rfl rfl rfl (lb rfl) (RO.loadPel ag_3 rfl rfl) ?_
              refine XS.on rfl rfl rfl rfl (lb rfl) (RO.cmp rfl rfl rfl) <| XS.op rfl rfl (lb rfl) (RO.pickF rfl rfl) <| XS.op rfl rfl (lb rfl) (RO.move rfl) ?_
              refine XS.case (d := 38) rfl (fun c7 => ?_) (fun c7 => ?_)
              ·
                replace c7 := prs c7
                refine XS.offB rfl rfl rfl rfl <| XS.offB rfl rfl rfl rfl <| XS.offB rfl rfl rfl rfl <| XS.op rfl rfl (lb rfl) (RO.pickT rfl rfl) <| XS.op rfl rfl (lb rfl) (RO.move rfl) <| XS.offB rfl rfl rfl rfl <| XS.offB rfl rfl rfl rfl <| XS.offB rfl rfl rfl rfl <| XS.op rfl rfl (lb rfl) (RO.pickT rfl rfl) <| XS.op rfl rfl (lb rfl) (RO.move rfl) <| XS.offB rfl rfl rfl rfl <| XS.offB rfl rfl rfl rfl <| XS.offB rfl rfl rfl rfl <| XS.offU rfl rfl rfl rfl ?_
                refine XS.offU rfl rfl rfl rfl <| XS.offU rfl rfl rfl rfl <| XS.offU rfl rfl rfl rfl <| XS.offU rfl rfl rfl rfl <| XS.offU rfl rfl rfl rfl <| XS.offU rfl rfl rfl rfl <| XS.offU rfl rfl rfl rfl <| XS.offU rfl rfl rfl rfl <| XS.offU rfl rfl rfl rfl <| XS.offB rfl rfl rfl rfl <| XS.op rfl rfl (lb rfl) (RO.pickT rfl rfl) <| XS.nil <| XQ.seq ?_
                refine XC.cond rfl (fun _ => ?_) (fun h => nomatch h)
                refine XC.seq <| XC.region <| oA rfl rfl <| XL.nil <| XQ.seq <| XC.ret ?_
                refine XQ.ret1 (fun _ _ h => h) rfl (RA.tmp rfl) ?s0 rfl
                case s0 => (first | rw [valid_false_c (L := L) (.inl (by omega))] | rw [valid_false_c (L := L) (.inr (.inl (by omega)))] | rw [valid_false_c (L := L) (.inr (.inr ⟨by omega, by assumption⟩))] | rw [valid_false (L := L) hlt (not_okAt hx (by omega))] | rw [valid_false (L := L) hlt (not_okAt' hx hy (by omega) (by dsimp only; omega))] | rw [valid_true (L := L) h0 h1 hcov (fun j hj => hn j (by simp only [List.length_map] at *; omega))]); exact (by repeat' constructor)
              ·
                replace c7 := prs c7
                first | refine XS.on rfl rfl rfl rfl (lb rfl) (RO.fieldOwn fo_69_1 rfl) ?_ | refine XS.on rfl rfl rfl rfl (lb rfl) (RO.fieldPel fo_69_1 rfl) ?_
                first | refine XS.on rfl rfl rfl rfl (lb rfl) (RO.loadOwn ag_3 rfl rfl rfl) ?_ | refine XS.on rfl rfl rfl rfl (lb rfl) (RO.loadPel ag_3 rfl rfl) ?_
                refine XS.on rfl rfl rfl rfl (lb rfl) (RO.cmp rfl rfl rfl) <| XS.op rfl rfl (lb rfl) (RO.pickF rfl rfl) <| XS.op rfl rfl (lb rfl) (RO.move rfl) ?_
                refine XS.case (d := 43) rfl (fun c8 => ?_) (fun c8 => ?_)
                ·
                  replace c8 := prs c8
                  refine XS.offB rfl rfl rfl rfl <| XS.offB rfl rfl rfl rfl <| XS.offB rfl rfl rfl rfl <| XS.op rfl rfl (lb rfl) (RO.pickT rfl rfl) <| XS.op rfl rfl (lb rfl) (RO.move rfl) <| XS.offB rfl rfl rfl rfl <| XS.offB rfl rfl rfl rfl <| XS.offB rfl rfl rfl rfl <| XS.offU rfl rfl rfl rfl <| XS.offU rfl rfl rfl rfl <| XS.offU rfl rfl rfl rfl <| XS.offU rfl rfl rfl rfl <| XS.offU rfl rfl rfl rfl <| XS.offU rfl rfl rfl rfl ?_
                  refine XS.offU rfl rfl rfl rfl <| XS.offU rfl rfl rfl rfl <| XS.offU rfl rfl rfl rfl <| XS.offU rfl rfl rfl rfl <| XS.offB rfl rfl rfl rfl <| XS.op rfl rfl (lb rfl) (RO.pickT rfl rfl) <| XS.nil <| XQ.seq ?_
                  refine XC.cond rfl (fun _ => ?_) (fun h => nomatch h)
                  refine XC.seq <| XC.region <| oA rfl rfl <| XL.nil <| XQ.seq <| XC.ret ?_
                  refine XQ.ret1 (fun _ _ h => h) rfl (RA.tmp rfl) ?s0 rfl
                  case s0 => (first | rw [valid_false_c (L := L) (.inl (by omega))] | rw [valid_false_c (L := L) (.inr (.inl (by omega)))] | rw [valid_false_c (L := L) (.inr (.inr ⟨by omega, by assumption⟩))] | rw [valid_false (L := L) hlt (not_okAt hx (by omega))] | rw [valid_false (L := L) hlt (not_okAt' hx hy (by omega) (by dsimp only; omega))] | rw [valid_true (L := L) h0 h1 hcov (fun j hj => hn j (by simp only [List.length_map] at *; omega))]); exact (by repeat' constructor)
                ·
                  replace c8 := prs c8
                  first | refine XS.on rfl rfl rfl rfl (lb rfl) (RO.fieldOwn fo_69_1 rfl) ?_ | refine XS.on rfl rfl rfl rfl (lb rfl) (RO.fieldPel fo_69_1 rfl) ?_
                  first | refine XS.on rfl rfl rfl rfl (lb rfl) (RO.loadOwn ag_3 rfl rfl rfl) ?_ | refine XS.on rfl rfl rfl rfl (lb rfl) (RO.loadPel ag_3 rfl rfl) ?_
                  refine XS.on rfl rfl rfl rfl (lb rfl) (RO.cmp rfl rfl rfl) <| XS.op rfl rfl (lb rfl) (RO.pickF rfl rfl) <| XS.op rfl rfl (lb rfl) (RO.move rfl) ?_
                  refine XS.case (d := 48) rfl (fun c9 => ?_) (fun c9 => ?_)
                  ·
                    replace c9 := prs c9
                    refine XS.offB rfl rfl rfl rfl <| XS.offB rfl rfl rfl rfl <| XS.offB rfl rfl rfl rfl <| XS.offU rfl rfl rfl rfl <| XS.offU rfl rfl rfl rfl <| XS.offU rfl rfl rfl rfl <| XS.offU rfl rfl rfl rfl <| XS.offU rfl rfl rfl rfl <| XS.offU rfl rfl rfl rfl <| XS.offU rfl rfl rfl rfl <| XS.offU rfl rfl rfl rfl <| XS.offU rfl rfl rfl rfl <| XS.offU rfl rfl rfl rfl <| XS.offB rfl rfl rfl rfl ?_
                    refine XS.op rfl rfl (lb rfl) (RO.pickT rfl rfl) <| XS.nil <| XQ.seq ?_
                    refine XC.cond rfl (fun _ => ?_) (fun h => nomatch h)
                    refine XC.seq <| XC.region <| oA rfl rfl <| XL.nil <| XQ.seq <| XC.ret ?_
                    refine XQ.ret1 (fun _ _ h => h) rfl (RA.tmp rfl) ?s0 rfl
                    case s0 => (first | rw [valid_false_c (L := L) (.inl (by omega))] | rw [valid_false_c (L := L) (.inr (.inl (by omega)))] | rw [valid_false_c (L := L) (.inr (.inr ⟨by omega, by assumption⟩))] | rw [valid_false (L := L) hlt (not_okAt hx (by omega))] | rw [valid_false (L := L) hlt (not_okAt' hx hy (by omega) (by dsimp only; omega))] | rw [valid_true (L := L) h0 h1 hcov (fun j hj => hn j (by simp only [List.length_map] at *; omega))]); exact (by repeat' constructor)
                  ·
                    replace c9 := prs c9
                    refine XS.on rfl rfl rfl rfl (lb rfl) (RO.move rfl) <| XS.on rfl rfl rfl rfl (lb rfl) (RO.cmp rfl rfl rfl) <| XS.on rfl rfl rfl rfl (lb rfl) (RO.move rfl) ?_
                    refine XS.case (d := 51) rfl (fun c10 => ?_) (fun c10 => ?_)
                    ·
                      replace c10 := prs c10
                      first | refine XS.on rfl rfl rfl rfl (lb rfl) (RO.fieldOwn fo_24_1 rfl) ?_ | refine XS.on rfl rfl rfl rfl (lb rfl) (RO.fieldPel fo_24_1 rfl) ?_
                      first | refine XS.on rfl rfl rfl rfl (lb rfl) (RO.loadOwn ag_22 rfl rfl rfl) ?_ | refine XS.on rfl rfl rfl rfl (lb rfl) (RO.loadPel ag_22 rfl rfl) ?_
                      refine XS.on rfl rfl rfl rfl (lb rfl) (RO.move rfl) ?_
                      refine XS.on rfl rfl rfl rfl (lb rfl) (RO.arith rfl rfl rfl (by omega) (by omega)) ?_
                      obtain ⟨⟨y1, y2⟩, hy⟩ : ∃ y, L.vs[k - 1]? = some y := ⟨_, List.getElem?_eq_getElem (by omega)⟩
                      refine XS.on rfl rfl rfl rfl (lb rfl) (RO.index sl_22 rfl (by repeat' constructor) rfl (show (k : Int) - 1 = ((k - 1 : Nat) : Int) by omega) (map_get hy)) ?_
                      first | refine XS.on rfl rfl rfl rfl (lb rfl) (RO.fieldOwn fo_69_0 rfl) ?_ | refine XS.on rfl rfl rfl rfl (lb rfl) (RO.fieldPel fo_69_0 rfl) ?_
                      first | refine XS.on rfl rfl rfl rfl (lb rfl) (RO.loadOwn ag_3 rfl rfl rfl) ?_ | refine XS.on rfl rfl rfl rfl (lb rfl) (RO.loadPel ag_3 rfl rfl) ?_
                      first | refine XS.on rfl rfl rfl rfl (lb rfl) (RO.fieldOwn fo_69_0 rfl) ?_ | refine XS.on rfl rfl rfl rfl (lb rfl) (RO.fieldPel fo_69_0 rfl) ?_
                      first | refine XS.on rfl rfl rfl rfl (lb rfl) (RO.loadOwn ag_3 rfl rfl rfl) ?_ | refine XS.on rfl rfl rfl rfl (lb rfl) (RO.loadPel ag_3 rfl rfl) ?_
                      refine XS.on rfl rfl rfl rfl (lb rfl) (RO.cmp rfl rfl rfl) <| XS.on rfl rfl rfl rfl (lb rfl) (RO.pickT rfl rfl) <| XS.op rfl rfl (lb rfl) (RO.pickF rfl rfl) <| XS.nil <| XQ.seq ?_
                      refine XC.cond rfl (fun c11 => ?_) (fun c11 => ?_)
                      ·
                        replace c11 := prs c11
                        refine XC.seq <| XC.region <| oA rfl rfl <| XL.nil <| XQ.seq <| XC.ret ?_
                        refine XQ.ret1 (fun _ _ h => h) rfl (RA.tmp rfl) ?s0 rfl
                        case s0 => (first | rw [valid_false_c (L := L) (.inl (by omega))] | rw [valid_false_c (L := L) (.inr (.inl (by omega)))] | rw [valid_false_c (L := L) (.inr (.inr ⟨by omega, by assumption⟩))] | rw [valid_false (L := L) hlt (not_okAt hx (by omega))] | rw [valid_false (L := L) hlt (not_okAt' hx hy (by omega) (by dsimp only; omega))] | rw [valid_true (L := L) h0 h1 hcov (fun j hj => hn j (by simp only [List.length_map] at *; omega))]); exact (by repeat' constructor)
                      ·
                        replace c11 := prs c11
                        refine XC.skip <| XQ.inBlock <| XQ.seq <| XC.region ?_
                        refine XL.op rfl (XO.of_ro rfl (lb rfl) (RO.arith rfl rfl rfl (by omega) (by omega))) ?_
                        refine oM rfl rfl <| XL.nil ?_
                        refine XQ.next (k + 1) ⟨(by repeat' constructor), (by repeat' constructor), (by repeat (first | exact trivial | refine ⟨(by intro T h; first | (cases h; rfl) | cases h), ?_⟩)), (lb rfl), Nat.zero_le _, rfl, rfl, (by simp [tmBelow, TV.below, AV.below, CA.below]), (by simp [hpBelow, HB.below, CA.below]), (by simp [tkBelow]), (by simp)⟩ ⟨by omega, ?_⟩ (by omega)
                        intro j hj
                        rcases Nat.lt_or_ge j k with h | h
                        · exact hn j h
                        · obtain rfl : j = k := by omega
                          first | exact is_okAt hx (by omega) (by omega) (by omega) (by omega) (fun y1 y2 h0 h => by omega) | exact is_okAt hx (by omega) (by omega) (by omega) (by omega) (fun y1 y2 _ h => by rw [hy] at h; cases h; omega)
                    ·
                      replace c10 := prs c10
                      refine XS.offB rfl rfl rfl rfl <| XS.offB rfl rfl rfl rfl <| XS.offB rfl rfl rfl rfl <| XS.offB rfl rfl rfl rfl <| XS.offB rfl rfl rfl rfl <| XS.offB rfl rfl rfl rfl <| XS.offB rfl rfl rfl rfl <| XS.offB rfl rfl rfl rfl <| XS.offB rfl rfl rfl rfl <| XS.offB rfl rfl rfl rfl <| XS.on rfl rfl rfl rfl (lb rfl) (RO.pickF rfl rfl) <| XS.op rfl rfl (lb rfl) (RO.pickF rfl rfl) <| XS.nil <| XQ.seq ?_
                      refine XC.cond rfl (fun h => nomatch h) (fun _ => ?_)
                      refine XC.skip <| XQ.inBlock <| XQ.seq <| XC.region ?_
                      refine XL.op rfl (XO.of_ro rfl (lb rfl) (RO.arith rfl rfl rfl (by omega) (by omega))) ?_
                      refine oM rfl rfl <| XL.nil ?_
                      refine XQ.next (k + 1) ⟨(by repeat' constructor), (by repeat' constructor), (by repeat (first | exact trivial | refine ⟨(by intro T h; first | (cases h; rfl) | cases h), ?_⟩)), (lb rfl), Nat.zero_le _, rfl, rfl, (by simp [tmBelow, TV.below, AV.below, CA.below]), (by simp [hpBelow, HB.below, CA.below]), (by simp [tkBelow]), (by simp)⟩ ⟨by omega, ?_⟩ (by omega)
                      intro j hj
                      rcases Nat.lt_or_ge j k with h | h
                      · exact hn j h
                      · obtain rfl : j = k := by omega
                        first | exact is_okAt hx (by omega) (by omega) (by omega) (by omega) (fun y1 y2 h0 h => by omega) | exact is_okAt hx (by omega) (by omega) (by omega) (by omega) (fun y1 y2 _ h => by rw [hy] at h; cases h; omega)
          ·
            replace c5 := prs c5
            refine XC.exit <| XQ.thenE <| XQ.thenE <| XQ.blockX <| XQ.seq <| XC.seq <| XC.region <| oA rfl rfl <| XL.nil <| XQ.seq <| XC.ret ?_
            refine XQ.ret1 (fun _ _ h => h) rfl (RA.tmp rfl) ?s0 rfl
            case s0 => (first | rw [valid_false_c (L := L) (.inl (by omega))] | rw [valid_false_c (L := L) (.inr (.inl (by omega)))] | rw [valid_false_c (L := L) (.inr (.inr ⟨by omega, by assumption⟩))] | rw [valid_false (L := L) hlt (not_okAt hx (by omega))] | rw [valid_false (L := L) hlt (not_okAt' hx hy (by omega) (by dsimp only; omega))] | rw [valid_true (L := L) h0 h1 hcov (fun j hj => hn j (by simp only [List.length_map] at *; omega))]); exact (by repeat' constructor)
      ·
        replace c3 := prs c3
        refine XL.offB rfl rfl rfl rfl <| XL.offB rfl rfl rfl rfl <| nR rfl rfl rfl rfl rfl (RO.pickF rfl rfl) <| oR rfl rfl rfl (RO.pickF rfl rfl) <| XL.nil <| XQ.seq ?_
        refine XC.cond rfl (fun h => nomatch h) (fun _ => ?_)
        refine XC.skip <| XQ.seq <| XC.seq <| XC.seq ?_
        have h0 : 0 ≤ L.c := by omega
        have h1 : L.c ≤ 100 := by omega
        have hcov : 0 < L.c → covB L.c L.vs = false := by first | (intro _; assumption) | (intro h; exfalso; omega)
        refine XC.region ?_
        first | refine oR rfl rfl rfl (RO.fieldOwn fo_24_1 rfl) ?_ | refine oR rfl rfl rfl (RO.fieldPel fo_24_1 rfl) ?_
        first | refine oR rfl rfl rfl (RO.loadOwn ag_22 rfl rfl rfl) ?_ | refine oR rfl rfl rfl (RO.loadPel ag_22 rfl rfl) ?_
        refine XL.op rfl (XO.of_ro rfl (lb rfl) (RO.len sl_22 rfl (by repeat' constructor))) ?_
        refine oM rfl rfl <| XL.nil <| XQ.seq <| XC.block ?_
        refine XC.loop (X := Nat) (fun k => ⟨[(1, .v (.one (.ptr 0 0))), (23, .v (.one (.d (vsC L.vs)))), (24, TI (L.vs.map lvC).length), (25, TI k)], [(0, .cells 24 [.d (.v (.int .i64 L.c)), .d (vsC L.vs)])], [], 1, 65, []⟩) (fun k => k ≤ L.vs.length ∧ ∀ j, j < k → okAt L.vs j) (fun k => L.vs.length - k) 0 ⟨(by repeat' constructor), (by repeat' constructor), (by repeat (first | exact trivial | refine ⟨(by intro T h; first | (cases h; rfl) | cases h), ?_⟩)), (lb rfl), Nat.zero_le _, rfl, rfl, (by simp [tmBelow, TV.below, AV.below, CA.below]), (by simp [hpBelow, HB.below, CA.below]), (by simp [tkBelow]), (by simp)⟩ ⟨Nat.zero_le _, fun j h => absurd h (Nat.not_lt_zero j)⟩ ?_
        rintro k ⟨hk, hn⟩
        try dsimp only
        refine XC.seq <| XC.region <| oR rfl rfl rfl (RO.cmp rfl rfl rfl) <| XL.nil <| XQ.seq <| XC.seq ?_
        refine XC.cond rfl (fun c12 => ?_) (fun c12 => ?_)
        ·
          replace c12 := prs c12
          simp only [List.length_map] at c12
          have hlt : k < L.vs.length := by omega
          obtain ⟨⟨x1, x2⟩, hx⟩ : ∃ x, L.vs[k]? = some x := ⟨_, List.getElem?_eq_getElem hlt⟩
          refine XC.skip <| XQ.seq <| XC.seq <| XC.block <| XC.seq <| XC.region <| oM rfl rfl ?_
          refine XL.op rfl (XO.of_ro rfl (lb rfl) (RO.index sl_22 rfl (by repeat' constructor) rfl rfl (map_get hx))) ?_
          first | refine oR rfl rfl rfl (RO.loadOwnAgg ag_69 rfl rfl rfl rfl) ?_ | refine oR rfl rfl rfl (RO.loadPelAgg ag_69 rfl rfl rfl) ?_
          refine XL.op rfl (XO.alloc z_69 rfl (lb rfl)) <| oA rfl rfl <| XL.op rfl (XO.store ag_69 rfl rfl rfl rfl (lb rfl) rfl) <| XL.nil <| XQ.seq <| XC.seq ?_
          refine XC.draw mixed (by kernel_rfl) ?_
          first | refine XS.op rfl rfl (lb rfl) (RO.fieldOwn fo_69_0 rfl) ?_ | refine XS.op rfl rfl (lb rfl) (RO.fieldPel fo_69_0 rfl) ?_
          first | refine XS.op rfl rfl (lb rfl) (RO.loadOwn ag_3 rfl rfl rfl) ?_ | refine XS.op rfl rfl (lb rfl) (RO.loadPel ag_3 rfl rfl) ?_
          refine XS.op rfl rfl (lb rfl) (RO.cmp rfl rfl rfl) <| XS.op rfl rfl (lb rfl) (RO.move rfl) ?_
          refine XS.case (d := 33) rfl (fun c13 => ?_) (fun c13 => ?_)
          ·
            replace c13 := prs c13
            refine XS.offB rfl rfl rfl rfl <| XS.offB rfl rfl rfl rfl <| XS.offB rfl rfl rfl rfl <| XS.op rfl rfl (lb rfl) (RO.pickT rfl rfl) <| XS.op rfl rfl (lb rfl) (RO.move rfl) <| XS.offB rfl rfl rfl rfl <| XS.offB rfl rfl rfl rfl <| XS.offB rfl rfl rfl rfl <| XS.op rfl rfl (lb rfl) (RO.pickT rfl rfl) <| XS.op rfl rfl (lb rfl) (RO.move rfl) <| XS.offB rfl rfl rfl rfl <| XS.offB rfl rfl rfl rfl <| XS.offB rfl rfl rfl rfl <| XS.op rfl rfl (lb rfl) (RO.pickT rfl rfl) ?_
            refine XS.op rfl rfl (lb rfl) (RO.move rfl) <| XS.offB rfl rfl rfl rfl <| XS.offB rfl rfl rfl rfl <| XS.offB rfl rfl rfl rfl <| XS.offU rfl rfl rfl rfl <| XS.offU rfl rfl rfl rfl <| XS.offU rfl rfl rfl rfl <| XS.offU rfl rfl rfl rfl <| XS.offU rfl rfl rfl rfl <| XS.offU rfl rfl rfl rfl <| XS.offU rfl rfl rfl rfl <| XS.offU rfl rfl rfl rfl <| XS.offU rfl rfl rfl rfl <| XS.offU rfl rfl rfl rfl ?_
            refine XS.offB rfl rfl rfl rfl <| XS.op rfl rfl (lb rfl) (RO.pickT rfl rfl) <| XS.nil <| XQ.seq ?_
            refine XC.cond rfl (fun _ => ?_) (fun h => nomatch h)
            refine XC.seq <| XC.region <| oA rfl rfl <| XL.nil <| XQ.seq <| XC.ret ?_
            refine XQ.ret1 (fun _ _ h => h) rfl (RA.tmp rfl) ?s0 rfl
            case s0 => (first | rw [valid_false_c (L := L) (.inl (by omega))] | rw [valid_false_c (L := L) (.inr (.inl (by omega)))] | rw [valid_false_c (L := L) (.inr (.inr ⟨by omega, by assumption⟩))] | rw [valid_false (L := L) hlt (not_okAt hx (by omega))] | rw [valid_false (L := L) hlt (not_okAt' hx hy (by omega) (by dsimp only; omega))] | rw [valid_true (L := L) h0 h1 hcov (fun j hj => hn j (by simp only [List.length_map] at *; omega))]); exact (by repeat' constructor)
          ·
            replace c13 := prs c13
            first | refine XS.on rfl rfl rfl rfl (lb rfl) (RO.fieldOwn fo_69_0 rfl) ?_ | refine XS.on rfl rfl rfl rfl (lb rfl) (RO.fieldPel fo_69_0 rfl) ?_
            first | refine XS.on rfl rfl rfl rfl (lb rfl) (RO.loadOwn ag_3 rfl rfl rfl) ?_ | refine XS.on rfl rfl rfl rfl (lb rfl) (RO.loadPel ag_3 rfl rfl) ?_
            refine XS.on rfl rfl rfl rfl (lb rfl) (RO.cmp rfl rfl rfl) <| XS.op rfl rfl (lb rfl) (RO.pickF rfl rfl) <| XS.op rfl rfl (lb rfl) (RO.move rfl) ?_
            refine XS.case (d := 38) rfl (fun c14 => ?_) (fun c14 => ?_)
            ·
              replace c14 := prs c14
              refine XS.offB rfl rfl rfl rfl <| XS.offB rfl rfl rfl rfl <| XS.offB rfl rfl rfl rfl <| XS.op rfl rfl (lb rfl) (RO.pickT rfl rfl) <| XS.op rfl rfl (lb rfl) (RO.move rfl) <| XS.offB rfl rfl rfl rfl <| XS.offB rfl rfl rfl rfl <| XS.offB rfl rfl rfl rfl <| XS.op rfl rfl (lb rfl) (RO.pickT rfl rfl) <| XS.op rfl rfl (lb rfl) (RO.move rfl) <| XS.offB rfl rfl rfl rfl <| XS.offB rfl rfl rfl rfl <| XS.offB rfl rfl rfl rfl <| XS.offU rfl rfl rfl rfl ?_
              refine XS.offU rfl rfl rfl rfl <| XS.offU rfl rfl rfl rfl <| XS.offU rfl rfl rfl rfl <| XS.offU rfl rfl rfl rfl <| XS.offU rfl rfl rfl rfl <| XS.offU rfl rfl rfl rfl <| XS.offU rfl rfl rfl rfl <| XS.offU rfl rfl rfl rfl <| XS.offU rfl rfl rfl rfl <| XS.offB rfl rfl rfl rfl <| XS.op rfl rfl (lb rfl) (RO.pickT rfl rfl) <| XS.nil <| XQ.seq ?_
              refine XC.cond rfl (fun _ => ?_) (fun h => nomatch h)
              refine XC.seq <| XC.region <| oA rfl rfl <| XL.nil <| XQ.seq <| XC.ret ?_
              refine XQ.ret1 (fun _ _ h => h) rfl (RA.tmp rfl) ?s0 rfl
              case s0 => (first | rw [valid_false_c (L := L) (.inl (by omega))] | rw [valid_false_c (L := L) (.inr (.inl (by omega)))] | rw [valid_false_c (L := L) (.inr (.inr ⟨by omega, by assumption⟩))] | rw [valid_false (L := L) hlt (not_okAt hx (by omega))] | rw [valid_false (L := L) hlt (not_okAt' hx hy (by omega) (by dsimp only; omega))] | rw [valid_true (L := L) h0 h1 hcov (fun j hj => hn j (by simp only [List.length_map] at *; omega))]); exact (by repeat' constructor)
            ·
              replace c14 := prs c14
              first | refine XS.on rfl rfl rfl rfl (lb rfl) (RO.fieldOwn fo_69_1 rfl) ?_ | refine XS.on rfl rfl rfl rfl (lb rfl) (RO.fieldPel fo_69_1 rfl) ?_
              first | refine XS.on rfl rfl rfl rfl (lb rfl) (RO.loadOwn ag_3 rfl rfl rfl) ?_ | refine XS.on rfl rfl rfl rfl (lb rfl) (RO.loadPel ag_3 rfl rfl) ?_
              refine XS.on rfl rfl rfl rfl (lb rfl) (RO.cmp rfl rfl rfl) <| XS.op rfl rfl (lb rfl) (RO.pickF rfl rfl) <| XS.op rfl rfl (lb rfl) (RO.move rfl) ?_
              refine XS.case (d := 43) rfl (fun c15 => ?_) (fun c15 => ?_)
              ·
                replace c15 := prs c15
                refine XS.offB rfl rfl rfl rfl <| XS.offB rfl rfl rfl rfl <| XS.offB rfl rfl rfl rfl <| XS.op rfl rfl (lb rfl) (RO.pickT rfl rfl) <| XS.op rfl rfl (lb rfl) (RO.move rfl) <| XS.offB rfl rfl rfl rfl <| XS.offB rfl rfl rfl rfl <| XS.offB rfl rfl rfl rfl <| XS.offU rfl rfl rfl rfl <| XS.offU rfl rfl rfl rfl <| XS.offU rfl rfl rfl rfl <| XS.offU rfl rfl rfl rfl <| XS.offU rfl rfl rfl rfl <| XS.offU rfl rfl rfl rfl ?_
                refine XS.offU rfl rfl rfl rfl <| XS.offU rfl rfl rfl rfl <| XS.offU rfl rfl rfl rfl <| XS.offU rfl rfl rfl rfl <| XS.offB rfl rfl rfl rfl <| XS.op rfl rfl (lb rfl) (RO.pickT rfl rfl) <| XS.nil <| XQ.seq ?_
                refine XC.cond rfl (fun _ => ?_) (fun h => nomatch h)
                refine XC.seq <| XC.region <| oA rfl rfl <| XL.nil <| XQ.seq <| XC.ret ?_
                refine XQ.ret1 (fun _ _ h => h) rfl (RA.tmp rfl) ?s0 rfl
                case s0 => (first | rw [valid_false_c (L := L) (.inl (by omega))] | rw [valid_false_c (L := L) (.inr (.inl (by omega)))] | rw [valid_false_c (L := L) (.inr (.inr ⟨by omega, by assumption⟩))] | rw [valid_false (L := L) hlt (not_okAt hx (by omega))] | rw [valid_false (L := L) hlt (not_okAt' hx hy (by omega) (by dsimp only; omega))] | rw [valid_true (L := L) h0 h1 hcov (fun j hj => hn j (by simp only [List.length_map] at *; omega))]); exact (by repeat' constructor)
              ·
                replace c15 := prs c15
                first | refine XS.on rfl rfl rfl rfl (lb rfl) (RO.fieldOwn fo_69_1 rfl) ?_ | refine XS.on rfl rfl rfl rfl (lb rfl) (RO.fieldPel fo_69_1 rfl) ?_
                first | refine XS.on rfl rfl rfl rfl (lb rfl) (RO.loadOwn ag_3 rfl rfl rfl) ?_ | refine XS.on rfl rfl rfl rfl (lb rfl) (RO.loadPel ag_3 rfl rfl) ?_
                refine XS.on rfl rfl rfl rfl (lb rfl) (RO.cmp rfl rfl rfl) <| XS.op rfl rfl (lb rfl) (RO.pickF rfl rfl) <| XS.op rfl rfl (lb rfl) (RO.move rfl) ?_
                refine XS.case (d := 48) rfl (fun c16 => ?_) (fun c16 => ?_)
                ·
                  replace c16 := prs c16
                  refine XS.offB rfl rfl rfl rfl <| XS.offB rfl rfl rfl rfl <| XS.offB rfl rfl rfl rfl <| XS.offU rfl rfl rfl rfl <| XS.offU rfl rfl rfl rfl <| XS.offU rfl rfl rfl rfl <| XS.offU rfl rfl rfl rfl <| XS.offU rfl rfl rfl rfl <| XS.offU rfl rfl rfl rfl <| XS.offU rfl rfl rfl rfl <| XS.offU rfl rfl rfl rfl <| XS.offU rfl rfl rfl rfl <| XS.offU rfl rfl rfl rfl <| XS.offB rfl rfl rfl rfl ?_
                  refine XS.op rfl rfl (lb rfl) (RO.pickT rfl rfl) <| XS.nil <| XQ.seq ?_
                  refine XC.cond rfl (fun _ => ?_) (fun h => nomatch h)
                  refine XC.seq <| XC.region <| oA rfl rfl <| XL.nil <| XQ.seq <| XC.ret ?_
                  refine XQ.ret1 (fun _ _ h => h) rfl (RA.tmp rfl) ?s0 rfl
                  case s0 => (first | rw [valid_false_c (L := L) (.inl (by omega))] | rw [valid_false_c (L := L) (.inr (.inl (by omega)))] | rw [valid_false_c (L := L) (.inr (.inr ⟨by omega, by assumption⟩))] | rw [valid_false (L := L) hlt (not_okAt hx (by omega))] | rw [valid_false (L := L) hlt (not_okAt' hx hy (by omega) (by dsimp only; omega))] | rw [valid_true (L := L) h0 h1 hcov (fun j hj => hn j (by simp only [List.length_map] at *; omega))]); exact (by repeat' constructor)
                ·
                  replace c16 := prs c16
                  refine XS.on rfl rfl rfl rfl (lb rfl) (RO.move rfl) <| XS.on rfl rfl rfl rfl (lb rfl) (RO.cmp rfl rfl rfl) <| XS.on rfl rfl rfl rfl (lb rfl) (RO.move rfl) ?_
                  refine XS.case (d := 51) rfl (fun c17 => ?_) (fun c17 => ?_)
                  ·
                    replace c17 := prs c17
                    first | refine XS.on rfl rfl rfl rfl (lb rfl) (RO.fieldOwn fo_24_1 rfl) ?_ | refine XS.on rfl rfl rfl rfl (lb rfl) (RO.fieldPel fo_24_1 rfl) ?_
                    first | refine XS.on rfl rfl rfl rfl (lb rfl) (RO.loadOwn ag_22 rfl rfl rfl) ?_ | refine XS.on rfl rfl rfl rfl (lb rfl) (RO.loadPel ag_22 rfl rfl) ?_
                    refine XS.on rfl rfl rfl rfl (lb rfl) (RO.move rfl) ?_
                    refine XS.on rfl rfl rfl rfl (lb rfl) (RO.arith rfl rfl rfl (by omega) (by omega)) ?_
                    obtain ⟨⟨y1, y2⟩, hy⟩ : ∃ y, L.vs[k - 1]? = some y := ⟨_, List.getElem?_eq_getElem (by omega)⟩
                    refine XS.on rfl rfl rfl rfl (lb rfl) (RO.index sl_22 rfl (by repeat' constructor) rfl (show (k : Int) - 1 = ((k - 1 : Nat) : Int) by omega) (map_get hy)) ?_
                    first | refine XS.on rfl rfl rfl rfl (lb rfl) (RO.fieldOwn fo_69_0 rfl) ?_ | refine XS.on rfl rfl rfl rfl (lb rfl) (RO.fieldPel fo_69_0 rfl) ?_
                    first | refine XS.on rfl rfl rfl rfl (lb rfl) (RO.loadOwn ag_3 rfl rfl rfl) ?_ | refine XS.on rfl rfl rfl rfl (lb rfl) (RO.loadPel ag_3 rfl rfl) ?_
                    first | refine XS.on rfl rfl rfl rfl (lb rfl) (RO.fieldOwn fo_69_0 rfl) ?_ | refine XS.on rfl rfl rfl rfl (lb rfl) (RO.fieldPel fo_69_0 rfl) ?_
                    first | refine XS.on rfl rfl rfl rfl (lb rfl) (RO.loadOwn ag_3 rfl rfl rfl) ?_ | refine XS.on rfl rfl rfl rfl (lb rfl) (RO.loadPel ag_3 rfl rfl) ?_
                    refine XS.on rfl rfl rfl rfl (lb rfl) (RO.cmp rfl rfl rfl) <| XS.on rfl rfl rfl rfl (lb rfl) (RO.pickT rfl rfl) <| XS.op rfl rfl (lb rfl) (RO.pickF rfl rfl) <| XS.nil <| XQ.seq ?_
                    refine XC.cond rfl (fun c18 => ?_) (fun c18 => ?_)
                    ·
                      replace c18 := prs c18
                      refine XC.seq <| XC.region <| oA rfl rfl <| XL.nil <| XQ.seq <| XC.ret ?_
                      refine XQ.ret1 (fun _ _ h => h) rfl (RA.tmp rfl) ?s0 rfl
                      case s0 => (first | rw [valid_false_c (L := L) (.inl (by omega))] | rw [valid_false_c (L := L) (.inr (.inl (by omega)))] | rw [valid_false_c (L := L) (.inr (.inr ⟨by omega, by assumption⟩))] | rw [valid_false (L := L) hlt (not_okAt hx (by omega))] | rw [valid_false (L := L) hlt (not_okAt' hx hy (by omega) (by dsimp only; omega))] | rw [valid_true (L := L) h0 h1 hcov (fun j hj => hn j (by simp only [List.length_map] at *; omega))]); exact (by repeat' constructor)
                    ·
                      replace c18 := prs c18
                      refine XC.skip <| XQ.inBlock <| XQ.seq <| XC.region ?_
                      refine XL.op rfl (XO.of_ro rfl (lb rfl) (RO.arith rfl rfl rfl (by omega) (by omega))) ?_
                      refine oM rfl rfl <| XL.nil ?_
                      refine XQ.next (k + 1) ⟨(by repeat' constructor), (by repeat' constructor), (by repeat (first | exact trivial | refine ⟨(by intro T h; first | (cases h; rfl) | cases h), ?_⟩)), (lb rfl), Nat.zero_le _, rfl, rfl, (by simp [tmBelow, TV.below, AV.below, CA.below]), (by simp [hpBelow, HB.below, CA.below]), (by simp [tkBelow]), (by simp)⟩ ⟨by omega, ?_⟩ (by omega)
                      intro j hj
                      rcases Nat.lt_or_ge j k with h | h
                      · exact hn j h
                      · obtain rfl : j = k := by omega
                        first | exact is_okAt hx (by omega) (by omega) (by omega) (by omega) (fun y1 y2 h0 h => by omega) | exact is_okAt hx (by omega) (by omega) (by omega) (by omega) (fun y1 y2 _ h => by rw [hy] at h; cases h; omega)
                  ·
                    replace c17 := prs c17
                    refine XS.offB rfl rfl rfl rfl <| XS.offB rfl rfl rfl rfl <| XS.offB rfl rfl rfl rfl <| XS.offB rfl rfl rfl rfl <| XS.offB rfl rfl rfl rfl <| XS.offB rfl rfl rfl rfl <| XS.offB rfl rfl rfl rfl <| XS.offB rfl rfl rfl rfl <| XS.offB rfl rfl rfl rfl <| XS.offB rfl rfl rfl rfl <| XS.on rfl rfl rfl rfl (lb rfl) (RO.pickF rfl rfl) <| XS.op rfl rfl (lb rfl) (RO.pickF rfl rfl) <| XS.nil <| XQ.seq ?_
                    refine XC.cond rfl (fun h => nomatch h) (fun _ => ?_)
                    refine XC.skip <| XQ.inBlock <| XQ.seq <| XC.region ?_
                    refine XL.op rfl (XO.of_ro rfl (lb rfl) (RO.arith rfl rfl rfl (by omega) (by omega))) ?_
                    refine oM rfl rfl <| XL.nil ?_
                    refine XQ.next (k + 1) ⟨(by repeat' constructor), (by repeat' constructor), (by repeat (first | exact trivial | refine ⟨(by intro T h; first | (cases h; rfl) | cases h), ?_⟩)), (lb rfl), Nat.zero_le _, rfl, rfl, (by simp [tmBelow, TV.below, AV.below, CA.below]), (by simp [hpBelow, HB.below, CA.below]), (by simp [tkBelow]), (by simp)⟩ ⟨by omega, ?_⟩ (by omega)
                    intro j hj
                    rcases Nat.lt_or_ge j k with h | h
                    · exact hn j h
                    · obtain rfl : j = k := by omega
                      first | exact is_okAt hx (by omega) (by omega) (by omega) (by omega) (fun y1 y2 h0 h => by omega) | exact is_okAt hx (by omega) (by omega) (by omega) (by omega) (fun y1 y2 _ h => by rw [hy] at h; cases h; omega)
        ·
          replace c12 := prs c12
          refine XC.exit <| XQ.thenE <| XQ.thenE <| XQ.blockX <| XQ.seq <| XC.seq <| XC.region <| oA rfl rfl <| XL.nil <| XQ.seq <| XC.ret ?_
          refine XQ.ret1 (fun _ _ h => h) rfl (RA.tmp rfl) ?s0 rfl
          case s0 => (first | rw [valid_false_c (L := L) (.inl (by omega))] | rw [valid_false_c (L := L) (.inr (.inl (by omega)))] | rw [valid_false_c (L := L) (.inr (.inr ⟨by omega, by assumption⟩))] | rw [valid_false (L := L) hlt (not_okAt hx (by omega))] | rw [valid_false (L := L) hlt (not_okAt' hx hy (by omega) (by dsimp only; omega))] | rw [valid_true (L := L) h0 h1 hcov (fun j hj => hn j (by simp only [List.length_map] at *; omega))]); exact (by repeat' constructor)
set_option maxRecDepth 100000 in
set_option maxHeartbeats 1000000 in
theorem validR_fun (L : Lvl) (hlen : L.vs.length ≤ 100000) : Fun Tryz.prog 20 [lvlA L] (TB (validB L)) := by
  refine Fun.of_body 9 67 Tryz.func20 rfl en_20 rfl (lb rfl) (fun S w => ?_)
  simp only [entry]
  refine XC.seq <| XC.region <| XL.op rfl (XO.box rfl (lb rfl)) <| oA rfl rfl <| XL.nil <| XQ.seq <| XC.seq <| XC.seq <| XC.region ?_
  first | refine oR rfl rfl rfl (RO.fieldOwn fo_24_0 rfl) ?_ | refine oR rfl rfl rfl (RO.fieldPel fo_24_0 rfl) ?_
  first | refine oR rfl rfl rfl (RO.loadOwn ag_3 rfl rfl rfl) ?_ | refine oR rfl rfl rfl (RO.loadPel ag_3 rfl rfl) ?_
  refine oR rfl rfl rfl (RO.cmp rfl rfl rfl) <| oM rfl rfl ?_
  refine XL.case (d := 8) rfl (fun c1 => ?_) (fun c1 => ?_)
  ·
    replace c1 := prs c1
    refine XL.offB rfl rfl rfl rfl <| XL.offB rfl rfl rfl rfl <| XL.offB rfl rfl rfl rfl <| oR rfl rfl rfl (RO.pickT rfl rfl) <| XL.nil <| XQ.seq ?_
    refine XC.cond rfl (fun _ => ?_) (fun h => nomatch h)
    refine XC.seq <| XC.region <| oA rfl rfl <| XL.nil <| XQ.seq <| XC.ret ?_
    refine XQ.ret1 (fun _ _ h => h) rfl (RA.tmp rfl) ?s0 rfl
    case s0 => (first | rw [valid_false_c (L := L) (.inl (by omega))] | rw [valid_false_c (L := L) (.inr (.inl (by omega)))] | rw [valid_false (L := L) hlt (not_okAt hx (by omega))] | rw [valid_false (L := L) hlt (not_okAt' hx hy (by omega) (by dsimp only; omega))] | rw [valid_false_c (L := L) (.inr (.inr ⟨by omega, cov_at hx (by omega)⟩))] | rw [valid_true (L := L) h0 h1 (cov_of (fun j x hj hx hc => (hn j (by simp only [List.length_map] at *; omega)).2 x hx hc)) (fun j hj => (hn j (by simp only [List.length_map] at *; omega)).1)]); exact (by repeat' constructor)
  ·
    replace c1 := prs c1
    first | refine nR rfl rfl rfl rfl rfl (RO.fieldOwn fo_24_0 rfl) ?_ | refine nR rfl rfl rfl rfl rfl (RO.fieldPel fo_24_0 rfl) ?_
    first | refine nR rfl rfl rfl rfl rfl (RO.loadOwn ag_3 rfl rfl rfl) ?_ | refine nR rfl rfl rfl rfl rfl (RO.loadPel ag_3 rfl rfl) ?_
    refine nR rfl rfl rfl rfl rfl (RO.cmp rfl rfl rfl) <| oR rfl rfl rfl (RO.pickF rfl rfl) <| XL.nil <| XQ.seq ?_
    refine XC.cond rfl (fun c2 => ?_) (fun c2 => ?_)
    ·
      replace c2 := prs c2
      refine XC.seq <| XC.region <| oA rfl rfl <| XL.nil <| XQ.seq <| XC.ret ?_
      refine XQ.ret1 (fun _ _ h => h) rfl (RA.tmp rfl) ?s0 rfl
      case s0 => (first | rw [valid_false_c (L := L) (.inl (by omega))] | rw [valid_false_c (L := L) (.inr (.inl (by omega)))] | rw [valid_false (L := L) hlt (not_okAt hx (by omega))] | rw [valid_false (L := L) hlt (not_okAt' hx hy (by omega) (by dsimp only; omega))] | rw [valid_false_c (L := L) (.inr (.inr ⟨by omega, cov_at hx (by omega)⟩))] | rw [valid_true (L := L) h0 h1 (cov_of (fun j x hj hx hc => (hn j (by simp only [List.length_map] at *; omega)).2 x hx hc)) (fun j hj => (hn j (by simp only [List.length_map] at *; omega)).1)]); exact (by repeat' constructor)
    ·
      replace c2 := prs c2
      refine XC.skip <| XQ.seq <| XC.seq <| XC.seq ?_
      have h0 : 0 ≤ L.c := by omega
      have h1 : L.c ≤ 100 := by omega
      refine XC.region <| oA rfl rfl <| XL.nil <| XQ.seq <| XC.block ?_
      refine XC.loop (X := Nat) (fun k => ⟨[(1, .v (.one (.ptr 0 0))), (3, TI k)], [(0, .cells 24 [.d (.v (.int .i64 L.c)), .d (vsC L.vs)])], [], 1, 67, []⟩) (fun k => k ≤ L.vs.length ∧ ∀ (j : Nat), j < k → okAt L.vs j ∧ ∀ x, L.vs[j]? = some x → 0 < L.c → x.2 < L.c) (fun k => L.vs.length - k) 0 ⟨(by repeat' constructor), (by repeat' constructor), (by repeat (first | exact trivial | refine ⟨(by intro T h; first | (cases h; rfl) | cases h), ?_⟩)), (lb rfl), Nat.zero_le _, rfl, rfl, (by simp [tmBelow, TV.below, AV.below, CA.below]), (by simp [hpBelow, HB.below, CA.below]), (by simp [tkBelow]), (by simp)⟩ ⟨Nat.zero_le _, fun j h => absurd h (Nat.not_lt_zero j)⟩ ?_
      rintro k ⟨hk, hn⟩
      try dsimp only
      refine XC.seq <| XC.seq <| XC.region <| oM rfl rfl ?_
      first | refine oR rfl rfl rfl (RO.fieldOwn fo_24_1 rfl) ?_ | refine oR rfl rfl rfl (RO.fieldPel fo_24_1 rfl) ?_
      first | refine oR rfl rfl rfl (RO.loadOwn ag_22 rfl rfl rfl) ?_ | refine oR rfl rfl rfl (RO.loadPel ag_22 rfl rfl) ?_
      refine XL.op rfl (XO.of_ro rfl (lb rfl) (RO.len sl_22 rfl (by repeat' constructor))) ?_
      refine oR rfl rfl rfl (RO.cmp rfl rfl rfl) <| XL.nil <| XQ.seq ?_
      refine XC.cond rfl (fun c3 => ?_) (fun c3 => ?_)
      ·
        replace c3 := prs c3
        simp only [List.length_map] at c3
        have hlt : k < L.vs.length := by omega
        obtain ⟨⟨x1, x2⟩, hx⟩ : ∃ x, L.vs[k]? = some x := ⟨_, List.getElem?_eq_getElem hlt⟩
        refine XC.skip <| XQ.seq <| XC.seq <| XC.block <| XC.seq <| XC.region ?_
        first | refine oR rfl rfl rfl (RO.fieldOwn fo_24_1 rfl) ?_ | refine oR rfl rfl rfl (RO.fieldPel fo_24_1 rfl) ?_
        first | refine oR rfl rfl rfl (RO.loadOwn ag_22 rfl rfl rfl) ?_ | refine oR rfl rfl rfl (RO.loadPel ag_22 rfl rfl) ?_
        refine oM rfl rfl ?_
        refine XL.op rfl (XO.of_ro rfl (lb rfl) (RO.index sl_22 rfl (by repeat' constructor) rfl rfl (map_get hx))) ?_
        first | refine oR rfl rfl rfl (RO.loadOwnAgg ag_69 rfl rfl rfl rfl) ?_ | refine oR rfl rfl rfl (RO.loadPelAgg ag_69 rfl rfl rfl) ?_
        refine XL.op rfl (XO.alloc z_69 rfl (lb rfl)) <| XL.op rfl (XO.store ag_69 rfl rfl rfl rfl (lb rfl) rfl) <| XL.nil <| XQ.seq <| XC.seq <| XC.seq <| XC.region ?_
        first | refine oR rfl rfl rfl (RO.fieldOwn fo_69_0 rfl) ?_ | refine oR rfl rfl rfl (RO.fieldPel fo_69_0 rfl) ?_
        first | refine oR rfl rfl rfl (RO.loadOwn ag_3 rfl rfl rfl) ?_ | refine oR rfl rfl rfl (RO.loadPel ag_3 rfl rfl) ?_
        refine oR rfl rfl rfl (RO.cmp rfl rfl rfl) <| oM rfl rfl ?_
        refine XL.case (d := 28) rfl (fun c4 => ?_) (fun c4 => ?_)
        ·
          replace c4 := prs c4
          refine XL.offB rfl rfl rfl rfl <| XL.offB rfl rfl rfl rfl <| XL.offB rfl rfl rfl rfl <| oR rfl rfl rfl (RO.pickT rfl rfl) <| oM rfl rfl <| XL.offB rfl rfl rfl rfl <| XL.offB rfl rfl rfl rfl <| XL.offB rfl rfl rfl rfl <| oR rfl rfl rfl (RO.pickT rfl rfl) <| oM rfl rfl <| XL.offB rfl rfl rfl rfl <| XL.offB rfl rfl rfl rfl <| XL.offB rfl rfl rfl rfl <| oR rfl rfl rfl (RO.pickT rfl rfl) ?_
          refine XL.nil <| XQ.seq ?_
          refine XC.cond rfl (fun _ => ?_) (fun h => nomatch h)
          refine XC.seq <| XC.region <| oA rfl rfl <| XL.nil <| XQ.seq <| XC.ret ?_
          refine XQ.ret1 (fun _ _ h => h) rfl (RA.tmp rfl) ?s0 rfl
          case s0 => (first | rw [valid_false_c (L := L) (.inl (by omega))] | rw [valid_false_c (L := L) (.inr (.inl (by omega)))] | rw [valid_false (L := L) hlt (not_okAt hx (by omega))] | rw [valid_false (L := L) hlt (not_okAt' hx hy (by omega) (by dsimp only; omega))] | rw [valid_false_c (L := L) (.inr (.inr ⟨by omega, cov_at hx (by omega)⟩))] | rw [valid_true (L := L) h0 h1 (cov_of (fun j x hj hx hc => (hn j (by simp only [List.length_map] at *; omega)).2 x hx hc)) (fun j hj => (hn j (by simp only [List.length_map] at *; omega)).1)]); exact (by repeat' constructor)
        ·
          replace c4 := prs c4
          first | refine nR rfl rfl rfl rfl rfl (RO.fieldOwn fo_69_0 rfl) ?_ | refine nR rfl rfl rfl rfl rfl (RO.fieldPel fo_69_0 rfl) ?_
          first | refine nR rfl rfl rfl rfl rfl (RO.loadOwn ag_3 rfl rfl rfl) ?_ | refine nR rfl rfl rfl rfl rfl (RO.loadPel ag_3 rfl rfl) ?_
          refine nR rfl rfl rfl rfl rfl (RO.cmp rfl rfl rfl) <| oR rfl rfl rfl (RO.pickF rfl rfl) <| oM rfl rfl ?_
          refine XL.case (d := 33) rfl (fun c5 => ?_) (fun c5 => ?_)
          ·
            replace c5 := prs c5
            refine XL.offB rfl rfl rfl rfl <| XL.offB rfl rfl rfl rfl <| XL.offB rfl rfl rfl rfl <| oR rfl rfl rfl (RO.pickT rfl rfl) <| oM rfl rfl <| XL.offB rfl rfl rfl rfl <| XL.offB rfl rfl rfl rfl <| XL.offB rfl rfl rfl rfl <| oR rfl rfl rfl (RO.pickT rfl rfl) <| XL.nil <| XQ.seq ?_
            refine XC.cond rfl (fun _ => ?_) (fun h => nomatch h)
            refine XC.seq <| XC.region <| oA rfl rfl <| XL.nil <| XQ.seq <| XC.ret ?_
            refine XQ.ret1 (fun _ _ h => h) rfl (RA.tmp rfl) ?s0 rfl
            case s0 => (first | rw [valid_false_c (L := L) (.inl (by omega))] | rw [valid_false_c (L := L) (.inr (.inl (by omega)))] | rw [valid_false (L := L) hlt (not_okAt hx (by omega))] | rw [valid_false (L := L) hlt (not_okAt' hx hy (by omega) (by dsimp only; omega))] | rw [valid_false_c (L := L) (.inr (.inr ⟨by omega, cov_at hx (by omega)⟩))] | rw [valid_true (L := L) h0 h1 (cov_of (fun j x hj hx hc => (hn j (by simp only [List.length_map] at *; omega)).2 x hx hc)) (fun j hj => (hn j (by simp only [List.length_map] at *; omega)).1)]); exact (by repeat' constructor)
          ·
            replace c5 := prs c5
            first | refine nR rfl rfl rfl rfl rfl (RO.fieldOwn fo_69_1 rfl) ?_ | refine nR rfl rfl rfl rfl rfl (RO.fieldPel fo_69_1 rfl) ?_
            first | refine nR rfl rfl rfl rfl rfl (RO.loadOwn ag_3 rfl rfl rfl) ?_ | refine nR rfl rfl rfl rfl rfl (RO.loadPel ag_3 rfl rfl) ?_
            refine nR rfl rfl rfl rfl rfl (RO.cmp rfl rfl rfl) <| oR rfl rfl rfl (RO.pickF rfl rfl) <| oM rfl rfl ?_
            refine XL.case (d := 38) rfl (fun c6 => ?_) (fun c6 => ?_)
            ·
              replace c6 := prs c6
              refine XL.offB rfl rfl rfl rfl <| XL.offB rfl rfl rfl rfl <| XL.offB rfl rfl rfl rfl <| oR rfl rfl rfl (RO.pickT rfl rfl) <| XL.nil <| XQ.seq ?_
              refine XC.cond rfl (fun _ => ?_) (fun h => nomatch h)
              refine XC.seq <| XC.region <| oA rfl rfl <| XL.nil <| XQ.seq <| XC.ret ?_
              refine XQ.ret1 (fun _ _ h => h) rfl (RA.tmp rfl) ?s0 rfl
              case s0 => (first | rw [valid_false_c (L := L) (.inl (by omega))] | rw [valid_false_c (L := L) (.inr (.inl (by omega)))] | rw [valid_false (L := L) hlt (not_okAt hx (by omega))] | rw [valid_false (L := L) hlt (not_okAt' hx hy (by omega) (by dsimp only; omega))] | rw [valid_false_c (L := L) (.inr (.inr ⟨by omega, cov_at hx (by omega)⟩))] | rw [valid_true (L := L) h0 h1 (cov_of (fun j x hj hx hc => (hn j (by simp only [List.length_map] at *; omega)).2 x hx hc)) (fun j hj => (hn j (by simp only [List.length_map] at *; omega)).1)]); exact (by repeat' constructor)
            ·
              replace c6 := prs c6
              first | refine nR rfl rfl rfl rfl rfl (RO.fieldOwn fo_69_1 rfl) ?_ | refine nR rfl rfl rfl rfl rfl (RO.fieldPel fo_69_1 rfl) ?_
              first | refine nR rfl rfl rfl rfl rfl (RO.loadOwn ag_3 rfl rfl rfl) ?_ | refine nR rfl rfl rfl rfl rfl (RO.loadPel ag_3 rfl rfl) ?_
              refine nR rfl rfl rfl rfl rfl (RO.cmp rfl rfl rfl) <| oR rfl rfl rfl (RO.pickF rfl rfl) <| XL.nil <| XQ.seq ?_
              refine XC.cond rfl (fun c7 => ?_) (fun c7 => ?_)
              ·
                replace c7 := prs c7
                refine XC.seq <| XC.region <| oA rfl rfl <| XL.nil <| XQ.seq <| XC.ret ?_
                refine XQ.ret1 (fun _ _ h => h) rfl (RA.tmp rfl) ?s0 rfl
                case s0 => (first | rw [valid_false_c (L := L) (.inl (by omega))] | rw [valid_false_c (L := L) (.inr (.inl (by omega)))] | rw [valid_false (L := L) hlt (not_okAt hx (by omega))] | rw [valid_false (L := L) hlt (not_okAt' hx hy (by omega) (by dsimp only; omega))] | rw [valid_false_c (L := L) (.inr (.inr ⟨by omega, cov_at hx (by omega)⟩))] | rw [valid_true (L := L) h0 h1 (cov_of (fun j x hj hx hc => (hn j (by simp only [List.length_map] at *; omega)).2 x hx hc)) (fun j hj => (hn j (by simp only [List.length_map] at *; omega)).1)]); exact (by repeat' constructor)
              ·
                replace c7 := prs c7
                refine XC.skip <| XQ.seq <| XC.seq <| XC.seq ?_
                refine XC.draw mixed (by kernel_rfl) ?_
                refine XS.op rfl rfl (lb rfl) (RO.move rfl) <| XS.op rfl rfl (lb rfl) (RO.cmp rfl rfl rfl) <| XS.op rfl rfl (lb rfl) (RO.move rfl) ?_
                refine XS.case (d := 45) rfl (fun c8 => ?_) (fun c8 => ?_)
                ·
                  replace c8 := prs c8
                  first | refine XS.on rfl rfl rfl rfl (lb rfl) (RO.fieldOwn fo_24_1 rfl) ?_ | refine XS.on rfl rfl rfl rfl (lb rfl) (RO.fieldPel fo_24_1 rfl) ?_
                  first | refine XS.on rfl rfl rfl rfl (lb rfl) (RO.loadOwn ag_22 rfl rfl rfl) ?_ | refine XS.on rfl rfl rfl rfl (lb rfl) (RO.loadPel ag_22 rfl rfl) ?_
                  refine XS.on rfl rfl rfl rfl (lb rfl) (RO.move rfl) ?_
                  refine XS.on rfl rfl rfl rfl (lb rfl) (RO.arith rfl rfl rfl (by omega) (by omega)) ?_
                  obtain ⟨⟨y1, y2⟩, hy⟩ : ∃ y, L.vs[k - 1]? = some y := ⟨_, List.getElem?_eq_getElem (by omega)⟩
                  refine XS.on rfl rfl rfl rfl (lb rfl) (RO.index sl_22 rfl (by repeat' constructor) rfl (show (k : Int) - 1 = ((k - 1 : Nat) : Int) by omega) (map_get hy)) ?_
                  first | refine XS.on rfl rfl rfl rfl (lb rfl) (RO.fieldOwn fo_69_0 rfl) ?_ | refine XS.on rfl rfl rfl rfl (lb rfl) (RO.fieldPel fo_69_0 rfl) ?_
                  first | refine XS.on rfl rfl rfl rfl (lb rfl) (RO.loadOwn ag_3 rfl rfl rfl) ?_ | refine XS.on rfl rfl rfl rfl (lb rfl) (RO.loadPel ag_3 rfl rfl) ?_
                  first | refine XS.on rfl rfl rfl rfl (lb rfl) (RO.fieldOwn fo_69_0 rfl) ?_ | refine XS.on rfl rfl rfl rfl (lb rfl) (RO.fieldPel fo_69_0 rfl) ?_
                  first | refine XS.on rfl rfl rfl rfl (lb rfl) (RO.loadOwn ag_3 rfl rfl rfl) ?_ | refine XS.on rfl rfl rfl rfl (lb rfl) (RO.loadPel ag_3 rfl rfl) ?_
                  refine XS.on rfl rfl rfl rfl (lb rfl) (RO.cmp rfl rfl rfl) <| XS.op rfl rfl (lb rfl) (RO.pickT rfl rfl) <| XS.nil <| XQ.seq ?_
                  refine XC.cond rfl (fun c9 => ?_) (fun c9 => ?_)
                  ·
                    replace c9 := prs c9
                    refine XC.seq <| XC.region <| oA rfl rfl <| XL.nil <| XQ.seq <| XC.ret ?_
                    refine XQ.ret1 (fun _ _ h => h) rfl (RA.tmp rfl) ?s0 rfl
                    case s0 => (first | rw [valid_false_c (L := L) (.inl (by omega))] | rw [valid_false_c (L := L) (.inr (.inl (by omega)))] | rw [valid_false (L := L) hlt (not_okAt hx (by omega))] | rw [valid_false (L := L) hlt (not_okAt' hx hy (by omega) (by dsimp only; omega))] | rw [valid_false_c (L := L) (.inr (.inr ⟨by omega, cov_at hx (by omega)⟩))] | rw [valid_true (L := L) h0 h1 (cov_of (fun j x hj hx hc => (hn j (by simp only [List.length_map] at *; omega)).2 x hx hc)) (fun j hj => (hn j (by simp only [List.length_map] at *; omega)).1)]); exact (by repeat' constructor)
                  ·
                    replace c9 := prs c9
                    refine XC.skip <| XQ.seq <| XC.seq <| XC.region ?_
                    first | refine oR rfl rfl rfl (RO.fieldOwn fo_24_0 rfl) ?_ | refine oR rfl rfl rfl (RO.fieldPel fo_24_0 rfl) ?_
                    first | refine oR rfl rfl rfl (RO.loadOwn ag_3 rfl rfl rfl) ?_ | refine oR rfl rfl rfl (RO.loadPel ag_3 rfl rfl) ?_
                    refine oR rfl rfl rfl (RO.cmp rfl rfl rfl) <| oM rfl rfl ?_
                    refine XL.case (d := 60) rfl (fun c10 => ?_) (fun c10 => ?_)
                    ·
                      replace c10 := prs c10
                      first | refine nR rfl rfl rfl rfl rfl (RO.fieldOwn fo_69_1 rfl) ?_ | refine nR rfl rfl rfl rfl rfl (RO.fieldPel fo_69_1 rfl) ?_
                      first | refine nR rfl rfl rfl rfl rfl (RO.loadOwn ag_3 rfl rfl rfl) ?_ | refine nR rfl rfl rfl rfl rfl (RO.loadPel ag_3 rfl rfl) ?_
                      first | refine nR rfl rfl rfl rfl rfl (RO.fieldOwn fo_24_0 rfl) ?_ | refine nR rfl rfl rfl rfl rfl (RO.fieldPel fo_24_0 rfl) ?_
                      first | refine nR rfl rfl rfl rfl rfl (RO.loadOwn ag_3 rfl rfl rfl) ?_ | refine nR rfl rfl rfl rfl rfl (RO.loadPel ag_3 rfl rfl) ?_
                      refine nR rfl rfl rfl rfl rfl (RO.cmp rfl rfl rfl) <| oR rfl rfl rfl (RO.pickT rfl rfl) <| XL.nil <| XQ.seq ?_
                      refine XC.cond rfl (fun c11 => ?_) (fun c11 => ?_)
                      ·
                        replace c11 := prs c11
                        refine XC.seq <| XC.region <| oA rfl rfl <| XL.nil <| XQ.seq <| XC.ret ?_
                        refine XQ.ret1 (fun _ _ h => h) rfl (RA.tmp rfl) ?s0 rfl
                        case s0 => (first | rw [valid_false_c (L := L) (.inl (by omega))] | rw [valid_false_c (L := L) (.inr (.inl (by omega)))] | rw [valid_false (L := L) hlt (not_okAt hx (by omega))] | rw [valid_false (L := L) hlt (not_okAt' hx hy (by omega) (by dsimp only; omega))] | rw [valid_false_c (L := L) (.inr (.inr ⟨by omega, cov_at hx (by omega)⟩))] | rw [valid_true (L := L) h0 h1 (cov_of (fun j x hj hx hc => (hn j (by simp only [List.length_map] at *; omega)).2 x hx hc)) (fun j hj => (hn j (by simp only [List.length_map] at *; omega)).1)]); exact (by repeat' constructor)
                      ·
                        replace c11 := prs c11
                        refine XC.skip <| XQ.inBlock <| XQ.seq <| XC.region <| oM rfl rfl ?_
                        refine XL.op rfl (XO.of_ro rfl (lb rfl) (RO.arith rfl rfl rfl (by omega) (by omega))) ?_
                        refine oA rfl rfl <| XL.nil ?_
                        refine XQ.next (k + 1) ⟨(by repeat' constructor), (by repeat' constructor), (by repeat (first | exact trivial | refine ⟨(by intro T h; first | (cases h; rfl) | cases h), ?_⟩)), (lb rfl), Nat.zero_le _, rfl, rfl, (by simp [tmBelow, TV.below, AV.below, CA.below]), (by simp [hpBelow, HB.below, CA.below]), (by simp [tkBelow]), (by simp)⟩ ⟨by omega, ?_⟩ (by omega)
                        intro j hj
                        rcases Nat.lt_or_ge j k with h | h
                        · exact hn j h
                        · obtain rfl : j = k := by omega
                          refine ⟨?_, fun x h hc => by rw [hx] at h; cases h; dsimp only; omega⟩
                          first | exact is_okAt hx (by omega) (by omega) (by omega) (by omega) (fun y1 y2 h0 h => by omega) | exact is_okAt hx (by omega) (by omega) (by omega) (by omega) (fun y1 y2 _ h => by rw [hy] at h; cases h; omega)
                    ·
                      replace c10 := prs c10
                      refine XL.offB rfl rfl rfl rfl <| XL.offB rfl rfl rfl rfl <| XL.offB rfl rfl rfl rfl <| XL.offB rfl rfl rfl rfl <| XL.offB rfl rfl rfl rfl <| oR rfl rfl rfl (RO.pickF rfl rfl) <| XL.nil <| XQ.seq ?_
                      refine XC.cond rfl (fun h => nomatch h) (fun _ => ?_)
                      refine XC.skip <| XQ.inBlock <| XQ.seq <| XC.region <| oM rfl rfl ?_
                      refine XL.op rfl (XO.of_ro rfl (lb rfl) (RO.arith rfl rfl rfl (by omega) (by omega))) ?_
                      refine oA rfl rfl <| XL.nil ?_
                      refine XQ.next (k + 1) ⟨(by repeat' constructor), (by repeat' constructor), (by repeat (first | exact trivial | refine ⟨(by intro T h; first | (cases h; rfl) | cases h), ?_⟩)), (lb rfl), Nat.zero_le _, rfl, rfl, (by simp [tmBelow, TV.below, AV.below, CA.below]), (by simp [hpBelow, HB.below, CA.below]), (by simp [tkBelow]), (by simp)⟩ ⟨by omega, ?_⟩ (by omega)
                      intro j hj
                      rcases Nat.lt_or_ge j k with h | h
                      · exact hn j h
                      · obtain rfl : j = k := by omega
                        refine ⟨?_, fun x h hc => by rw [hx] at h; cases h; dsimp only; omega⟩
                        first | exact is_okAt hx (by omega) (by omega) (by omega) (by omega) (fun y1 y2 h0 h => by omega) | exact is_okAt hx (by omega) (by omega) (by omega) (by omega) (fun y1 y2 _ h => by rw [hy] at h; cases h; omega)
                ·
                  replace c8 := prs c8
                  refine XS.offB rfl rfl rfl rfl <| XS.offB rfl rfl rfl rfl <| XS.offB rfl rfl rfl rfl <| XS.offB rfl rfl rfl rfl <| XS.offB rfl rfl rfl rfl <| XS.offB rfl rfl rfl rfl <| XS.offB rfl rfl rfl rfl <| XS.offB rfl rfl rfl rfl <| XS.offB rfl rfl rfl rfl <| XS.offB rfl rfl rfl rfl <| XS.op rfl rfl (lb rfl) (RO.pickF rfl rfl) <| XS.nil <| XQ.seq ?_
                  refine XC.cond rfl (fun h => nomatch h) (fun _ => ?_)
                  refine XC.skip <| XQ.seq <| XC.seq <| XC.region ?_
                  first | refine oR rfl rfl rfl (RO.fieldOwn fo_24_0 rfl) ?_ | refine oR rfl rfl rfl (RO.fieldPel fo_24_0 rfl) ?_
                  first | refine oR rfl rfl rfl (RO.loadOwn ag_3 rfl rfl rfl) ?_ | refine oR rfl rfl rfl (RO.loadPel ag_3 rfl rfl) ?_
                  refine oR rfl rfl rfl (RO.cmp rfl rfl rfl) <| oM rfl rfl ?_
                  refine XL.case (d := 60) rfl (fun c12 => ?_) (fun c12 => ?_)
                  ·
                    replace c12 := prs c12
                    first | refine nR rfl rfl rfl rfl rfl (RO.fieldOwn fo_69_1 rfl) ?_ | refine nR rfl rfl rfl rfl rfl (RO.fieldPel fo_69_1 rfl) ?_
                    first | refine nR rfl rfl rfl rfl rfl (RO.loadOwn ag_3 rfl rfl rfl) ?_ | refine nR rfl rfl rfl rfl rfl (RO.loadPel ag_3 rfl rfl) ?_
                    first | refine nR rfl rfl rfl rfl rfl (RO.fieldOwn fo_24_0 rfl) ?_ | refine nR rfl rfl rfl rfl rfl (RO.fieldPel fo_24_0 rfl) ?_
                    first | refine nR rfl rfl rfl rfl rfl (RO.loadOwn ag_3 rfl rfl rfl) ?_ | refine nR rfl rfl rfl rfl rfl (RO.loadPel ag_3 rfl rfl) ?_
                    refine nR rfl rfl rfl rfl rfl (RO.cmp rfl rfl rfl) <| oR rfl rfl rfl (RO.pickT rfl rfl) <| XL.nil <| XQ.seq ?_
                    refine XC.cond rfl (fun c13 => ?_) (fun c13 => ?_)
                    ·
                      replace c13 := prs c13
                      refine XC.seq <| XC.region <| oA rfl rfl <| XL.nil <| XQ.seq <| XC.ret ?_
                      refine XQ.ret1 (fun _ _ h => h) rfl (RA.tmp rfl) ?s0 rfl
                      case s0 => (first | rw [valid_false_c (L := L) (.inl (by omega))] | rw [valid_false_c (L := L) (.inr (.inl (by omega)))] | rw [valid_false (L := L) hlt (not_okAt hx (by omega))] | rw [valid_false (L := L) hlt (not_okAt' hx hy (by omega) (by dsimp only; omega))] | rw [valid_false_c (L := L) (.inr (.inr ⟨by omega, cov_at hx (by omega)⟩))] | rw [valid_true (L := L) h0 h1 (cov_of (fun j x hj hx hc => (hn j (by simp only [List.length_map] at *; omega)).2 x hx hc)) (fun j hj => (hn j (by simp only [List.length_map] at *; omega)).1)]); exact (by repeat' constructor)
                    ·
                      replace c13 := prs c13
                      refine XC.skip <| XQ.inBlock <| XQ.seq <| XC.region <| oM rfl rfl ?_
                      refine XL.op rfl (XO.of_ro rfl (lb rfl) (RO.arith rfl rfl rfl (by omega) (by omega))) ?_
                      refine oA rfl rfl <| XL.nil ?_
                      refine XQ.next (k + 1) ⟨(by repeat' constructor), (by repeat' constructor), (by repeat (first | exact trivial | refine ⟨(by intro T h; first | (cases h; rfl) | cases h), ?_⟩)), (lb rfl), Nat.zero_le _, rfl, rfl, (by simp [tmBelow, TV.below, AV.below, CA.below]), (by simp [hpBelow, HB.below, CA.below]), (by simp [tkBelow]), (by simp)⟩ ⟨by omega, ?_⟩ (by omega)
                      intro j hj
                      rcases Nat.lt_or_ge j k with h | h
                      · exact hn j h
                      · obtain rfl : j = k := by omega
                        refine ⟨?_, fun x h hc => by rw [hx] at h; cases h; dsimp only; omega⟩
                        first | exact is_okAt hx (by omega) (by omega) (by omega) (by omega) (fun y1 y2 h0 h => by omega) | exact is_okAt hx (by omega) (by omega) (by omega) (by omega) (fun y1 y2 _ h => by rw [hy] at h; cases h; omega)
                  ·
                    replace c12 := prs c12
                    refine XL.offB rfl rfl rfl rfl <| XL.offB rfl rfl rfl rfl <| XL.offB rfl rfl rfl rfl <| XL.offB rfl rfl rfl rfl <| XL.offB rfl rfl rfl rfl <| oR rfl rfl rfl (RO.pickF rfl rfl) <| XL.nil <| XQ.seq ?_
                    refine XC.cond rfl (fun h => nomatch h) (fun _ => ?_)
                    refine XC.skip <| XQ.inBlock <| XQ.seq <| XC.region <| oM rfl rfl ?_
                    refine XL.op rfl (XO.of_ro rfl (lb rfl) (RO.arith rfl rfl rfl (by omega) (by omega))) ?_
                    refine oA rfl rfl <| XL.nil ?_
                    refine XQ.next (k + 1) ⟨(by repeat' constructor), (by repeat' constructor), (by repeat (first | exact trivial | refine ⟨(by intro T h; first | (cases h; rfl) | cases h), ?_⟩)), (lb rfl), Nat.zero_le _, rfl, rfl, (by simp [tmBelow, TV.below, AV.below, CA.below]), (by simp [hpBelow, HB.below, CA.below]), (by simp [tkBelow]), (by simp)⟩ ⟨by omega, ?_⟩ (by omega)
                    intro j hj
                    rcases Nat.lt_or_ge j k with h | h
                    · exact hn j h
                    · obtain rfl : j = k := by omega
                      refine ⟨?_, fun x h hc => by rw [hx] at h; cases h; dsimp only; omega⟩
                      first | exact is_okAt hx (by omega) (by omega) (by omega) (by omega) (fun y1 y2 h0 h => by omega) | exact is_okAt hx (by omega) (by omega) (by omega) (by omega) (fun y1 y2 _ h => by rw [hy] at h; cases h; omega)
      ·
        replace c3 := prs c3
        refine XC.exit <| XQ.thenE <| XQ.thenE <| XQ.blockX <| XQ.seq <| XC.seq <| XC.region <| oA rfl rfl <| XL.nil <| XQ.seq <| XC.ret ?_
        refine XQ.ret1 (fun _ _ h => h) rfl (RA.tmp rfl) ?s0 rfl
        case s0 => (first | rw [valid_false_c (L := L) (.inl (by omega))] | rw [valid_false_c (L := L) (.inr (.inl (by omega)))] | rw [valid_false (L := L) hlt (not_okAt hx (by omega))] | rw [valid_false (L := L) hlt (not_okAt' hx hy (by omega) (by dsimp only; omega))] | rw [valid_false_c (L := L) (.inr (.inr ⟨by omega, cov_at hx (by omega)⟩))] | rw [valid_true (L := L) h0 h1 (cov_of (fun j x hj hx hc => (hn j (by simp only [List.length_map] at *; omega)).2 x hx hc)) (fun j hj => (hn j (by simp only [List.length_map] at *; omega)).1)]); exact (by repeat' constructor)
set_option maxRecDepth 100000 in
theorem limited_fun (L : Lvl) (hlen : L.vs.length ≤ 100000) : Fun Tryz.prog 49 [lvlA L] (resLE (limL L)) := by
  refine Fun.of_body 9 26 Tryz.func49 rfl en_49 rfl (lb rfl) (fun S w => ?_)
  simp only [entry]
  refine XC.seq <| XC.region <| XL.op rfl (XO.box rfl (lb rfl)) <| XL.op rfl (XO.alloc z_24 rfl (lb rfl)) <| oA rfl rfl <| XL.nil <| XQ.seq <| XC.seq <| XC.seq <| XC.region ?_
  first | refine oR rfl rfl rfl (RO.fieldOwn fo_24_1 rfl) ?_ | refine oR rfl rfl rfl (RO.fieldPel fo_24_1 rfl) ?_
  first | refine oR rfl rfl rfl (RO.loadOwn ag_22 rfl rfl rfl) ?_ | refine oR rfl rfl rfl (RO.loadPel ag_22 rfl rfl) ?_
  refine XL.op rfl (XO.of_ro rfl (lb rfl) (RO.len sl_22 rfl (by repeat' constructor))) ?_
  refine oM rfl rfl <| XL.nil <| XQ.seq <| XC.block ?_
  refine XC.loop (X := Nat) (fun k => ⟨[(1, .v (.one (.ptr 0 0))), (2, .v (.one (.ptr 1 0))), (7, .v (.one (.d (vsC L.vs)))), (8, TI (L.vs.map lvC).length), (9, TI k)], [(0, .cells 24 [.d (.v (.int .i64 L.c)), .d (vsC L.vs)]), (1, .cells 24 [.d (.v (.int .i64 0)), .d (.v (.slice none 0 0))])], [], 2, 26, []⟩) (fun k => k ≤ L.vs.length ∧ ∀ (j : Nat) (x : LV), j < k → L.vs[j]? = some x → x.2 ≤ 100) (fun k => L.vs.length - k) 0 ⟨(by repeat' constructor), (by repeat' constructor), (by repeat (first | exact trivial | refine ⟨(by intro T h; first | (cases h; rfl) | cases h), ?_⟩)), (lb rfl), Nat.zero_le _, rfl, rfl, (by simp [tmBelow, TV.below, AV.below, CA.below]), (by simp [hpBelow, HB.below, CA.below]), (by simp [tkBelow]), (by simp)⟩ ⟨Nat.zero_le _, fun j x h => absurd h (Nat.not_lt_zero j)⟩ ?_
  rintro k ⟨hk, hn⟩
  try dsimp only
  refine XC.seq <| XC.region <| oR rfl rfl rfl (RO.cmp rfl rfl rfl) <| XL.nil <| XQ.seq <| XC.seq ?_
  refine XC.cond rfl (fun c1 => ?_) (fun c1 => ?_)
  ·
    replace c1 := prs c1
    simp only [List.length_map] at c1
    have hlt : k < L.vs.length := by omega
    obtain ⟨⟨x1, x2⟩, hx⟩ : ∃ x, L.vs[k]? = some x := ⟨_, List.getElem?_eq_getElem hlt⟩
    refine XC.skip <| XQ.seq <| XC.seq <| XC.block <| XC.seq <| XC.region ?_
    refine XL.op rfl (XO.of_ro rfl (lb rfl) (RO.index sl_22 rfl (by repeat' constructor) rfl rfl (map_get hx))) ?_
    first | refine oR rfl rfl rfl (RO.loadOwnAgg ag_69 rfl rfl rfl rfl) ?_ | refine oR rfl rfl rfl (RO.loadPelAgg ag_69 rfl rfl rfl) ?_
    refine XL.op rfl (XO.alloc z_69 rfl (lb rfl)) <| XL.op rfl (XO.store ag_69 rfl rfl rfl rfl (lb rfl) rfl) <| XL.nil <| XQ.seq <| XC.seq <| XC.region ?_
    first | refine oR rfl rfl rfl (RO.fieldOwn fo_69_1 rfl) ?_ | refine oR rfl rfl rfl (RO.fieldPel fo_69_1 rfl) ?_
    first | refine oR rfl rfl rfl (RO.loadOwn ag_3 rfl rfl rfl) ?_ | refine oR rfl rfl rfl (RO.loadPel ag_3 rfl rfl) ?_
    refine oR rfl rfl rfl (RO.cmp rfl rfl rfl) <| XL.nil <| XQ.seq ?_
    refine XC.cond rfl (fun c2 => ?_) (fun c2 => ?_)
    ·
      replace c2 := prs c2
      refine XC.seq <| XC.region <| XL.op rfl (XO.of_ro rfl (lb rfl) (RO.build0 bd_24 rfl )) <| XL.op rfl (XO.store ag_24 rfl rfl rfl rfl (lb rfl) rfl) <| oA rfl rfl <| XL.nil <| XQ.seq <| XC.ret ?_
      have hb : bigB L = true := big_at hx (by omega)
      refine XQ.ret2 (fun _ _ h => h) rfl (RA.cellAgg ag_24 rfl rfl rfl rfl) ?s0 (RA.tmp rfl) ?s1 rfl
      case s0 => (rw [limL_big hb]); exact (by repeat' constructor)
      case s1 => (rw [limL_big hb]); exact (by repeat' constructor)
    ·
      replace c2 := prs c2
      refine XC.skip <| XQ.inBlock <| XQ.seq <| XC.region ?_
      refine XL.op rfl (XO.of_ro rfl (lb rfl) (RO.arith rfl rfl rfl (by omega) (by omega))) ?_
      refine oM rfl rfl <| XL.nil ?_
      refine XQ.next (k + 1) ⟨(by repeat' constructor), (by repeat' constructor), (by repeat (first | exact trivial | refine ⟨(by intro T h; first | (cases h; rfl) | cases h), ?_⟩)), (lb rfl), Nat.zero_le _, rfl, rfl, (by simp [tmBelow, TV.below, AV.below, CA.below]), (by simp [hpBelow, HB.below, CA.below]), (by simp [tkBelow]), (by simp)⟩ ⟨by omega, ?_⟩ (by omega)
      intro j x hj h
      rcases Nat.lt_or_ge j k with h2 | h2
      · exact hn j x h2 h
      · obtain rfl : j = k := by omega
        rw [hx] at h; cases h; dsimp only; omega
  ·
    replace c1 := prs c1
    refine XC.exit <| XQ.thenE <| XQ.thenE <| XQ.blockX <| XQ.seq <| XC.seq <| XC.seq <| XC.region ?_
    first | refine oR rfl rfl rfl (RO.fieldOwn fo_24_0 rfl) ?_ | refine oR rfl rfl rfl (RO.fieldPel fo_24_0 rfl) ?_
    first | refine oR rfl rfl rfl (RO.loadOwn ag_3 rfl rfl rfl) ?_ | refine oR rfl rfl rfl (RO.loadPel ag_3 rfl rfl) ?_
    refine oR rfl rfl rfl (RO.cmp rfl rfl rfl) <| XL.nil <| XQ.seq ?_
    refine XC.cond rfl (fun c3 => ?_) (fun c3 => ?_)
    ·
      replace c3 := prs c3
      refine XC.seq <| XC.region <| XL.op rfl (XO.of_ro rfl (lb rfl) (RO.build0 bd_24 rfl )) <| XL.op rfl (XO.store ag_24 rfl rfl rfl rfl (lb rfl) rfl) <| oA rfl rfl <| XL.nil <| XQ.seq <| XC.ret ?_
      have hb : bigB L = true := big_c (by omega)
      refine XQ.ret2 (fun _ _ h => h) rfl (RA.cellAgg ag_24 rfl rfl rfl rfl) ?s0 (RA.tmp rfl) ?s1 rfl
      case s0 => (rw [limL_big hb]); exact (by repeat' constructor)
      case s1 => (rw [limL_big hb]); exact (by repeat' constructor)
    ·
      replace c3 := prs c3
      refine XC.skip <| XQ.seq <| XC.seq <| XC.seq ?_
      have hbig : bigB L = false := big_no (fun j x hj hx => hn j x (by simp only [List.length_map] at *; omega) hx) (by omega)
      refine XC.region ?_
      first | refine oR rfl rfl rfl (RO.loadOwnAgg ag_24 rfl rfl rfl rfl) ?_ | refine oR rfl rfl rfl (RO.loadPelAgg ag_24 rfl rfl rfl) ?_
      refine XL.op rfl (XO.call1 (covered_fun L hlen) rfl (by repeat' constructor) (lb rfl)) ?_
      refine XL.nil <| XQ.seq ?_
      refine XC.cond rfl (fun c4 => ?_) (fun c4 => ?_)
      ·
        replace c4 := prs c4
        refine XC.region ?_
        first | refine oR rfl rfl rfl (RO.fieldOwn fo_24_0 rfl) ?_ | refine oR rfl rfl rfl (RO.fieldPel fo_24_0 rfl) ?_
        refine XL.op rfl (XO.store ag_3 rfl rfl rfl rfl (lb rfl) rfl) <| XL.nil <| XQ.seq <| XC.seq <| XC.region ?_
        first | refine oR rfl rfl rfl (RO.loadOwnAgg ag_24 rfl rfl rfl rfl) ?_ | refine oR rfl rfl rfl (RO.loadPelAgg ag_24 rfl rfl rfl) ?_
        refine XL.op rfl (XO.store ag_24 rfl rfl rfl rfl (lb rfl) rfl) <| oA rfl rfl <| XL.nil <| XQ.seq <| XC.ret ?_
        refine XQ.ret2 (fun _ _ h => h) rfl (RA.cellAgg ag_24 rfl rfl rfl rfl) ?s0 (RA.tmp rfl) ?s1 rfl
        case s0 => (rw [limL_cov hbig (by assumption)]); exact (by repeat' constructor)
        case s1 => (rw [limL_cov hbig (by assumption)]); exact (by repeat' constructor)
      ·
        replace c4 := prs c4
        refine XC.skip <| XQ.seq <| XC.seq <| XC.region ?_
        first | refine oR rfl rfl rfl (RO.loadOwnAgg ag_24 rfl rfl rfl rfl) ?_ | refine oR rfl rfl rfl (RO.loadPelAgg ag_24 rfl rfl rfl) ?_
        refine XL.op rfl (XO.store ag_24 rfl rfl rfl rfl (lb rfl) rfl) <| oA rfl rfl <| XL.nil <| XQ.seq <| XC.ret ?_
        refine XQ.ret2 (fun _ _ h => h) rfl (RA.cellAgg ag_24 rfl rfl rfl rfl) ?s0 (RA.tmp rfl) ?s1 rfl
        case s0 => (rw [limL_no hbig (by assumption)]); exact (by repeat' constructor)
        case s1 => (rw [limL_no hbig (by assumption)]); exact (by repeat' constructor)
end Go.Proofs.YtcapifnaceegmaaGreatDoor
