/- One operation, seen as data: what it yields, what memory it leaves; calls; regions, in the text's order or in whatever order. -/
import Derived.Test.YtcapifnaceegmaaGreatDoorMore
import Derived.RangeFuncLeaves
import Derived.RangeFuncRecord
namespace Go.Proofs.YtcapifnaceegmaaGreatDoor
open Go.RowKit
set_option linter.unusedSimpArgs false
set_option linter.unusedVariables false
set_option linter.unusedSectionVars false

/-- Memory, as far as it is known. -/
structure Mem where
  hp : List (Nat × HB)
  tk : List (Nat × Option Tok)
  nx : Nat

def St.mem (st : St) : Mem := ⟨st.hp, st.tk, st.nx⟩
def St.withMem (st : St) (m : Mem) : St := ⟨st.tm, m.hp, m.tk, m.nx, st.nt, st.df⟩

def dropK {α : Type} (i : Nat) (l : List (Nat × α)) : List (Nat × α) := l.filter fun p => !(Nat.beq p.1 i)

theorem lk_dropK {α : Type} (i : Nat) : ∀ (l : List (Nat × α)) (j : Nat), lk (dropK i l) j = if j = i then none else lk l j
  | [], j => by simp [dropK, lk]
  | (k, v) :: l, j => by
    have ih := lk_dropK i l j
    simp only [dropK, List.filter_cons] at ih ⊢
    by_cases hk : k = i
    · subst hk
      simp only [Nat.beq_eq_true_eq, Bool.not_eq_true', show Nat.beq k k = true from by simp, Bool.not_true, Bool.false_eq_true, if_false, ih, lk_cons]
      by_cases hj : j = k
      · simp [hj]
      · rw [if_neg hj, if_neg hj, if_neg (fun e => hj e.symm)]
    · have : Nat.beq k i = false := by
        cases hb : Nat.beq k i with
        | false => rfl
        | true => exact absurd (Nat.eq_of_beq_eq_true hb) hk
      simp only [this, Bool.not_false, if_true, lk_cons, ih]
      by_cases hj : j = i
      · subst hj; simp [hk]
      · simp [hj]

theorem lk_put {α : Type} (i : Nat) (v : α) (l : List (Nat × α)) (j : Nat) : lk ((i, v) :: dropK i l) j = lk ((i, v) :: l) j := by
  rw [lk_cons, lk_cons, lk_dropK]
  by_cases h : i = j
  · simp [h]
  · rw [if_neg h, if_neg h, if_neg (fun e => h e.symm)]

theorem lk_dropK_some {α : Type} {i : Nat} {l : List (Nat × α)} {j : Nat} {v : α} (h : lk (dropK i l) j = some v) : lk l j = some v ∧ j ≠ i := by
  rw [lk_dropK] at h
  split at h
  · cases h
  · rename_i hj; exact ⟨h, hj⟩

section
variable {E : Env} {V V' : Vu} {hp hp' : List (Nat × HB)} {tk tk' : List (Nat × Option Tok)} {w w' : World}

theorem HRel.congr (h : HRel E V hp tk w) (hh : ∀ j, lk hp' j = lk hp j) (ht : ∀ j, lk tk' j = lk tk j) : HRel E V hp' tk' w :=
  ⟨h.ext, h.le0, h.sz, h.sub, fun i B hi => h.own i B (by rw [← hh]; exact hi), fun i j A B hi hj => h.inj i j A B (by rw [← hh]; exact hi) (by rw [← hh]; exact hj), fun i B hi => h.new i B (by rw [← hh]; exact hi),
   fun i T hi => by
    obtain ⟨h1, h2, xs, h3, h4⟩ := h.tok i T (by rw [← ht]; exact hi)
    exact ⟨h1, h2, xs, h3, fun g hg => ⟨(h4 g hg).1, (h4 g hg).2.1, fun j B hj => (h4 g hg).2.2 j B (by rw [← hh]; exact hj)⟩⟩,
   fun i j T U g hi hj => h.tki i j T U g (by rw [← ht]; exact hi) (by rw [← ht]; exact hj)⟩

/-- Less is known. -/
theorem HRel.forget (h : HRel E V hp tk w) (hh : ∀ j B, lk hp' j = some B → lk hp j = some B) (ht : ∀ j T, lk tk' j = some (some T) → lk tk j = some (some T)) : HRel E V hp' tk' w :=
  ⟨h.ext, h.le0, h.sz, h.sub, fun i B hi => h.own i B (hh i B hi), fun i j A B hi hj => h.inj i j A B (hh i A hi) (hh j B hj), fun i B hi => h.new i B (hh i B hi),
   fun i T hi => by
    obtain ⟨h1, h2, xs, h3, h4⟩ := h.tok i T (ht i T hi)
    exact ⟨h1, h2, xs, h3, fun g hg => ⟨(h4 g hg).1, (h4 g hg).2.1, fun j B hj => (h4 g hg).2.2 j B (hh j B hj)⟩⟩,
   fun i j T U g hi hj => h.tki i j T U g (ht i T hi) (ht j U hj)⟩

def Env.at (E : Env) (V : Vu) (w : World) : Env := ⟨E.P, w, fun b => E.M b ∨ E.w0.heap.size ≤ b, V⟩

theorem HRel.rebase (h : HRel E V hp tk w) : HRel (E.at V w) V hp tk w :=
  ⟨ExtM.refl _ _, Vu.Le.refl _ _, h.sz, fun b o hs => .inl hs, h.own, h.inj, fun i B hi => ⟨.inr ((h.new i B hi).1.elim .inr .inl), (h.new i B hi).2⟩,
   fun i T hi => by
    obtain ⟨h1, h2, xs, h3, h4⟩ := h.tok i T hi
    exact ⟨h1, h2, xs, h3, fun g hg => ⟨.inr ((h4 g hg).1.elim .inr .inl), (h4 g hg).2⟩⟩, h.tki⟩

theorem HRel.back (h : HRel E V hp tk w) (h' : HRel (E.at V w) V' hp' tk' w') : HRel E V' hp' tk' w' ∧ V.Le V' w w' := by
  have hx : ∀ b, w.heap.size ≤ b ∨ (E.M b ∨ E.w0.heap.size ≤ b) → E.w0.heap.size ≤ b ∨ E.M b := fun b hb => by
    rcases hb with hb | hb | hb
    · exact .inl (Nat.le_trans h.ext.size hb)
    · exact .inr hb
    · exact .inl hb
  refine ⟨⟨⟨h'.ext.os.trans h.ext.os, h'.ext.tape.trans h.ext.tape, h'.ext.output.trans h.ext.output, Nat.le_trans h.ext.size h'.ext.size, fun k hk hM => ?_⟩, h.le0.trans h'.le0, h'.sz, fun b o hs => ?_, h'.own, h'.inj, fun i B hi => ⟨hx _ (h'.new i B hi).1, (h'.new i B hi).2⟩, fun i T hi => ?_, h'.tki⟩, h'.le0⟩
  · refine (h'.ext.block k (Nat.lt_of_lt_of_le hk h.ext.size) ?_).trans (h.ext.block k hk hM)
    rintro (h1 | h1)
    · exact hM h1
    · omega
  · rcases h'.sub b o hs with h1 | h1 | h1
    · exact h.sub b o h1
    · exact .inr (hx b (.inl h1))
    · exact .inr (hx b (.inr h1))
  · obtain ⟨h1, h2, xs, h3, h4⟩ := h'.tok i T hi
    exact ⟨h1, h2, xs, h3, fun g hg => ⟨hx _ (h4 g hg).1, (h4 g hg).2⟩⟩

/-- An own object is put anew. -/
theorem HRel.setOwn (h : HRel E V hp tk w) {i : Nat} {B B' : HB} {o' : Obj} (hi : lk hp i = some B) (hw : ∀ k, k ≠ V.ι i → w'.heap[k]? = w.heap[k]?) (hs : w'.heap.size = w.heap.size) (hos : w'.os = w.os) (htp : w'.tape = w.tape) (hou : w'.output = w.output)
    (hn : w'.heap[V.ι i]? = some o') (hB : V.Le V w w' → B'.rel V w' o') : HRel E V ((i, B') :: hp) tk w' ∧ V.Le V w w' := by
  have hle : V.Le V w w' := ⟨Nat.le_refl _, fun _ _ => rfl, fun _ _ => Nat.le_refl _, fun _ _ _ _ => rfl, fun _ _ h => h, fun b o' hs' => World.cell?_of_block (w := w) (a := ⟨b, o', none⟩) (hw b fun e => (h.new i _ hi).2 o' (by rw [← e]; exact hs'))⟩
  refine ⟨⟨?_, h.le0.trans hle, fun b o' hs' => by rw [hs]; exact h.sz b o' hs', h.sub, ?_, ?_, ?_, ?_, h.tki⟩, hle⟩
  · refine ⟨hos.trans h.ext.os, htp.trans h.ext.tape, hou.trans h.ext.output, by rw [hs]; exact h.ext.size, fun k hk hM => (hw k fun e => ?_).trans (h.ext.block k hk hM)⟩
    rcases (h.new i _ hi).1 with h1 | h1
    · omega
    · rw [← e] at h1; exact hM h1
  · intro j A hj
    rw [lk_cons] at hj
    split at hj
    · rename_i e; subst e; cases hj
      exact ⟨(h.own _ _ hi).1, o', hn, hB hle⟩
    · rename_i e
      obtain ⟨h1, o1, ho1, hA⟩ := h.own j A hj
      exact ⟨h1, o1, by rw [hw _ fun e' => e (h.inj j i _ _ hj hi e').symm]; exact ho1, hA.mono hle⟩
  · intro j k A A' hj hk e
    rw [lk_cons] at hj hk
    split at hj <;> split at hk
    · rename_i e1 e2; exact e1.symm.trans e2
    · rename_i e1 e2; subst e1; exact h.inj _ _ _ _ hi hk e
    · rename_i e1 e2; subst e2; exact h.inj _ _ _ _ hj hi e
    · exact h.inj _ _ _ _ hj hk e
  · intro j A hj
    rw [lk_cons] at hj
    split at hj
    · rename_i e; subst e; exact h.new _ _ hi
    · exact h.new _ _ hj
  · intro j T' hj
    obtain ⟨h1, hcu, xs', hown, hg⟩ := h.tok j T' hj
    refine ⟨h1, hcu, xs', hown.kept (row := some (V.ι i)) ⟨hos, htp, hou, by rw [hs]; exact Nat.le_refl _, fun k _ hk => hw k fun e => hk (by rw [e])⟩ ?_, fun g hgb => ⟨(hg g hgb).1, (hg g hgb).2.1, fun k B hk => ?_⟩⟩
    · cases hb : (V.κ j T'.n).ownBlock with
      | none => exact .inl rfl
      | some g => exact .inr fun e => (hg g hb).2.2 i _ hi (by cases e; rfl)
    · rw [lk_cons] at hk
      split at hk
      · rename_i e; subst e; exact (hg g hgb).2.2 _ _ hi
      · exact (hg g hgb).2.2 _ _ hk

theorem HRel.putObj (h : HRel E V hp tk w) {i : Nat} {B B' : HB} {o' : Obj} (hi : lk hp i = some B) (hB : V.Le V w (w.putObj (V.ι i) o') → B'.rel V (w.putObj (V.ι i) o') o') : HRel E V ((i, B') :: hp) tk (w.putObj (V.ι i) o') ∧ V.Le V w (w.putObj (V.ι i) o') := by
  obtain ⟨-, o, ho, -⟩ := h.own i B hi
  exact h.setOwn hi (fun k hk => World.putObj_heap_other hk) World.putObj_size rfl rfl rfl (World.putObj_heap_same (heap_lt ho)) hB
end

/-- An operation: what it yields, what memory it leaves. -/
def OpOK (E : Env) (o : Oper) (st : St) (x : TV) (m : Mem) : Prop := ∀ V a w, Rel E V st a w → ∀ (ro : Option Nat) (n : Nat) (K : Act → World → Prop) (Q : Exit → Act → World → Prop),
  (∀ V' w' v, HRel E V' m.hp m.tk w' → V'.nx = m.nx → V.Le V' w w' → x.rel V' w' v → K (a.put o.dst v) w') → o.wpIn (FR ro) n E.P a w K Q

/-- A call: what it hands back, what memory it leaves. -/
def CallM (P : Program) (f : FuncId) (args : List AV) (m : Mem) (res : TV) (m' : Mem) : Prop :=
  Enters P f ∧ ∀ (E : Env) (V : Vu) (w : World) (vs : Array Value), E.P = P → HRel E V m.hp m.tk w → V.nx = m.nx → argsRel V w args vs →
    Calls P f vs w fun e w' => ∃ v V', e = .returned v ∧ HRel E V' m'.hp m'.tk w' ∧ V'.nx = m'.nx ∧ V.Le V' w w' ∧ res.rel V' w' v

/-- Code, run to its exit. -/
def RoundOf (E : Env) (rn ro : Option Nat) : Prop := match rn with
  | none => ro = none
  | some L => L < E.V0.nx ∧ ro = some (E.V0.ι L)

def ExecOK (P : Program) (rn : Option Nat) (c : Code) (st : St) (e : Exit) (st' : St) : Prop :=
  ∀ (E : Env) (ro : Option Nat) (n : Nat) (Q : Exit → Act → World → Prop), E.P = P → RoundOf E rn ro → XQ E Q e st' → XC E ro n Q c st

section
variable {E : Env} {ro : Option Nat} {n : Nat} {ops : Array Oper} {Q : Exit → Act → World → Prop} {rest : List Oper} {st st' : St} {o : Oper} {x : TV} {m : Mem}

theorem OpOK.of_ro (h : RO E o st x) : OpOK E o st x st.mem := by
  intro V a w hr ro n K Q hK
  exact wpIn_of_ro h hr (fun v hx => hK V w v hr.h hr.nx (Vu.Le.refl _ _) hx)

def nextSt (st : St) (dst : Option Nat) (x : TV) (m : Mem) : St := match dst with
  | some d => ⟨(d, x) :: dropK d st.tm, m.hp, m.tk, m.nx, st.nt, st.df⟩
  | none => st.withMem m
def dstOK (st : St) (dst : Option Nat) : Bool := match dst with
  | some d => Nat.blt d st.nt
  | none => true

theorem Rel.mem {V V' : Vu} {a : Act} {w w' : World} (hr : Rel E V st a w) (H : HRel E V' m.hp m.tk w') (hn : V'.nx = m.nx) (L : V.Le V' w w') : Rel E V' (st.withMem m) a w' :=
  ⟨H, hn, hr.nt, hr.df.le L, fun t y hy => (hr.tm t y hy).mono L⟩

theorem Rel.next {V V' : Vu} {a : Act} {w w' : World} {dst : Option Nat} {v : Value} (hr : Rel E V st a w) (hd : dstOK st dst = true) (H : HRel E V' m.hp m.tk w') (hn : V'.nx = m.nx) (L : V.Le V' w w') (hx : x.rel V' w' v) : Rel E V' (nextSt st dst x m) (a.put dst v) w' := by
  cases dst with
  | none => exact hr.mem H hn L
  | some d =>
    have h1 := (hr.mem H hn L).put (d := d) (Nat.le_of_ble_eq_true hd) hx
    exact ⟨h1.h, h1.nx, h1.nt, h1.df, fun t y hy => h1.tm t y (by rw [← hy]; exact (lk_put d x st.tm t).symm)⟩

theorem Rel.nextU {V : Vu} {a : Act} {w : World} {dst : Option Nat} (hr : Rel E V st a w) : Rel E V (nextSt st dst (.tup []) st.mem) (a.put dst undef) w := by
  cases dst with
  | none => exact hr
  | some d =>
    have h1 := hr.und d
    exact ⟨h1.h, h1.nx, h1.nt, h1.df, fun t y hy => h1.tm t y (by rw [← hy]; exact (lk_put d _ st.tm t).symm)⟩

/-- Is the operation wanted? -/
def wantedA (ops : Array Oper) (tm : List (Nat × TV)) (o : Oper) : Option Bool := match o.guard with
  | none => some true
  | some (j, b) => match (ops[j]?).bind (·.dst) with
    | none => none
    | some d => match lk tm d with
      | some (.v (.one (.d (.v (.bool c))))) => some (c == b)
      | some (.tup []) => some false
      | _ => none

theorem wanted_of {V : Vu} {a : Act} {w : World} {b : Bool} (hr : Rel E V st a w) (h : wantedA ops st.tm o = some b) : Region.wanted o (yielded ops a.tmps) = b := by
  unfold wantedA at h
  split at h
  · rename_i hg; cases h; simp [Region.wanted, hg]
  · rename_i j b' hg
    split at h
    · cases h
    · rename_i d hd
      split at h
      · rename_i c hc; cases h
        simp only [Region.wanted, hg, yielded_of hr hd hc]
        cases c <;> cases b' <;> rfl
      · rename_i hc; cases h
        simp [Region.wanted, hg, yielded_und hr hd hc]
      · cases h

theorem XL.opOK (hg : wantedA ops st.tm o = some true) (ho : OpOK E o st x m) (hd : dstOK st o.dst = true) (k : XL E ro n ops Q rest (nextSt st o.dst x m)) : XL E ro n ops Q (o :: rest) st := by
  intro V a w h
  unfold wpListIn
  rw [if_pos (wanted_of h hg)]
  exact ho V a w h ro n _ Q (fun V' w' v H hn L hx => k V' _ w' (h.next hd H hn L hx))

theorem XL.opNo (hg : wantedA ops st.tm o = some false) (k : XL E ro n ops Q rest (nextSt st o.dst (.tup []) st.mem)) : XL E ro n ops Q (o :: rest) st := by
  intro V a w h
  unfold wpListIn
  rw [if_neg (by rw [wanted_of h hg]; exact Bool.false_ne_true)]
  exact ⟨fun _ _ => trivial, k V _ w h.nextU⟩
end

/-! ### A region in whatever order: what turns memory stands in a row; the others read. -/
section
variable (ops : Array Oper)

/-- all operations that must come before -/
def ancsGo : Nat → List Nat → List Nat
  | 0, l => l
  | k + 1, l => ancsGo k (cond (l.contains k) (edgesOf ops k ++ l) l)
def ancs (l : List Nat) : List Nat := ancsGo ops ops.size l

/-- the slots that the region writes -/
def dstsOf : List Nat := (List.range ops.size).filterMap (dstOf ops)

/-- is slot t written by an operation that need not wait for i? -/
def hides (i t : Nat) : Bool := (List.range ops.size).any fun j => match dstOf ops j with
  | some d => cond (Nat.beq d t) (!((edgesOf ops j).contains i)) false
  | none => false
def keepTm (i : Nat) (tm : List (Nat × TV)) : List (Nat × TV) := tm.filter fun p => !(hides ops i p.1)

theorem lk_keep {ops : Array Oper} {i : Nat} : ∀ (tm : List (Nat × TV)) (t : Nat) (x : TV), lk (keepTm ops i tm) t = some x → lk tm t = some x ∧ hides ops i t = false
  | [], t, x, h => by cases h
  | (k, v) :: r, t, x, h => by
    simp only [keepTm, List.filter_cons] at h
    split at h
    · rename_i hk
      rw [lk_cons] at h ⊢
      split at h
      · rename_i hkt; subst hkt; rw [if_pos rfl]; exact ⟨h, by simpa using hk⟩
      · rename_i hkt; rw [if_neg hkt]; exact lk_keep r t x h
    · rename_i hk
      have := lk_keep r t x h
      rw [lk_cons, if_neg]
      · exact this
      · intro e; subst e; rw [this.2] at hk; exact hk rfl

theorem hides_no {ops : Array Oper} {i t j : Nat} (h : hides ops i t = false) (hd : dstOf ops j = some t) (hj : j < ops.size) : i ∈ edgesOf ops j := by
  have := List.any_eq_false.1 h j (by simpa using hj)
  rw [hd] at this
  simpa using this

def depsSt (st : St) (fx : List (Nat × TV)) (i : Nat) (m : Mem) : St := ⟨factsOf ops fx (edgesOf ops i) ++ keepTm ops i st.tm, m.hp, m.tk, m.nx, st.nt, st.df⟩

/-- may operation i come up when j of the effects are done? -/
def mayAt (effs : List Nat) (i j : Nat) : Bool :=
  (effs.take j).all (fun e => !((ancs ops [e]).contains i)) && (effs.drop j).all (fun e => e == i || !((ancs ops [i]).contains e)) && (!(effs.contains i) || effs[j]? == some i)

def anyB (effs : List Nat) : Bool :=
  (List.range ops.size).all (fun i => (edgesOf ops i).all fun k => decide (k < i)) && decide (dstsOf ops).Nodup &&
  (List.range (effs.length - 1)).all (fun j => match effs[j]?, effs[j + 1]? with
    | some a, some b => (edgesOf ops b).contains a || (ancs ops [b]).contains a
    | _, _ => true) && decide effs.Nodup && effs.all (fun e => decide (e < ops.size))
end

structure AnyInv (E : Env) (ops : Array Oper) (st : St) (fx : List (Nat × TV)) (effs : List Nat) (ms : List Mem) (listed : Array Bool) (a : Act) (w : World) (V : Vu) (j : Nat) (m : Mem) : Prop where
  size : listed.size = ops.size
  closed : ∀ i, listed.getD i false = true → ∀ k ∈ edgesOf ops i, listed.getD k false = true
  done : ∀ e ∈ effs.take j, listed.getD e false = true
  todo : ∀ e ∈ effs.drop j, listed.getD e false = false
  mem : ms[j]? = some m
  rel : Rel E V ⟨dropTm (dstsOf ops) st.tm, m.hp, m.tk, m.nx, st.nt, st.df⟩ a w
  fact : ∀ i, listed.getD i false = true → ∀ d x, dstOf ops i = some d → lk fx i = some x → x.rel V w (a.tmps.getD d undef)
  old : ∀ t x, lk st.tm t = some x → (∀ k, dstOf ops k = some t → listed.getD k false = false) → x.rel V w (a.tmps.getD t undef)

section
variable {E : Env} {ops : Array Oper} {st : St} {fx : List (Nat × TV)} {effs : List Nat} {ms : List Mem} {listed : Array Bool} {a : Act} {w : World} {V : Vu} {j : Nat} {m : Mem}

theorem ancs_all {p : Nat → Prop} (hp : ∀ i, p i → ∀ k ∈ edgesOf ops i, p k) {l : List Nat} (h : ∀ i ∈ l, p i) : ∀ i ∈ ancs ops l, p i := by
  have key : ∀ (k : Nat) (l : List Nat), (∀ i ∈ l, p i) → ∀ i ∈ ancsGo ops k l, p i := by
    intro k
    induction k with
    | zero => exact fun l h => h
    | succ k ih =>
      intro l h
      simp only [ancsGo]
      cases hc : l.contains k with
      | false => exact ih l h
      | true =>
        refine ih _ (fun i hi => ?_)
        simp only [cond_true, List.mem_append] at hi
        rcases hi with hi | hi
        · exact hp k (h k (by simpa using hc)) i hi
        · exact h i hi
  exact key ops.size l h

theorem AnyInv.depsRel (h : AnyInv E ops st fx effs ms listed a w V j m) {i : Nat} (hno : listed.getD i false = false) (hd : ∀ k ∈ edgesOf ops i, listed.getD k false = true) : Rel E V (depsSt ops st fx i m) a w := by
  refine ⟨h.rel.h, h.rel.nx, h.rel.nt, h.rel.df, fun t x hx => ?_⟩
  simp only [depsSt, lk_append] at hx
  split at hx
  · rename_i y hy; cases hx
    obtain ⟨k, h1, h2, h3⟩ := lk_facts _ t x hy
    exact h.fact k (hd k h1) t x h2 h3
  · obtain ⟨h1, h2⟩ := lk_keep _ _ _ hx
    refine h.old t x h1 (fun k hk => ?_)
    cases hc : listed.getD k false with
    | false => rfl
    | true =>
      have hk' : k < ops.size := by
        rcases Nat.lt_or_ge k ops.size with h3 | h3
        · exact h3
        · simp [dstOf, Array.getElem?_eq_none h3] at hk
      have := h.closed k hc i (hides_no h2 hk hk')
      rw [hno] at this; cases this

theorem AnyInv.may (h : AnyInv E ops st fx effs ms listed a w V j m) (hB : anyB ops effs = true) {i : Nat} (hlt : i < ops.size) (hno : listed.getD i false = false) (hd : ∀ k ∈ edgesOf ops i, listed.getD k false = true) : mayAt ops effs i j = true := by
  simp only [anyB, Bool.and_eq_true, decide_eq_true_eq] at hB
  obtain ⟨⟨⟨⟨-, -⟩, hch⟩, hnd⟩, -⟩ := hB
  have key : ∀ e, e ≠ i → e ∈ ancs ops [i] → listed.getD e false = true := fun e he hm => by
    have := ancs_all (p := fun x => x = i ∨ listed.getD x false = true) (fun x hx k hk => by
      rcases hx with rfl | hx
      · exact .inr (hd k hk)
      · exact .inr (h.closed x hx k hk)) (l := [i]) (fun x hx => .inl (by simpa using hx)) e hm
    exact this.resolve_left he
  simp only [mayAt, Bool.and_eq_true, Bool.or_eq_true, Bool.not_eq_true', List.contains_eq_mem, decide_eq_true_eq, decide_eq_false_iff_not, List.all_eq_true, beq_iff_eq]
  refine ⟨⟨fun e he hc => ?_, fun e he => ?_⟩, ?_⟩
  · have := ancs_all h.closed (l := [e]) (fun i' hi' => by simp at hi'; subst hi'; exact h.done _ he) i hc
    rw [hno] at this; cases this
  · by_cases hei : e = i
    · exact .inl hei
    · refine .inr fun hc => ?_
      have h1 := key e hei hc
      have h2 := h.todo e he
      rw [h2] at h1; cases h1
  · by_cases hm : i ∈ effs
    · refine .inr ?_
      have hdrop : i ∈ effs.drop j := by
        rw [← List.take_append_drop j effs, List.mem_append] at hm
        rcases hm with hm | hm
        · have := h.done i hm; rw [hno] at this; cases this
        · exact hm
      obtain ⟨q, hq⟩ := List.getElem?_of_mem hdrop
      rw [List.getElem?_drop] at hq
      cases q with
      | zero => simpa using hq
      | succ q =>
        exfalso
        have hlt' := (List.getElem?_eq_some_iff.1 hq).1
        have hp : effs[j + q]? = some effs[j + q] := List.getElem?_eq_getElem (by omega)
        have h1 := List.all_eq_true.1 hch (j + q) (by simp; omega)
        rw [hp, show j + q + 1 = j + (q + 1) by omega, hq] at h1
        simp only [Bool.or_eq_true, List.contains_eq_mem, decide_eq_true_eq] at h1
        have hmem : effs[j + q] ∈ effs.drop j := by
          rw [List.mem_iff_getElem?]
          exact ⟨q, by rw [List.getElem?_drop]; exact hp⟩
        have hun := h.todo _ hmem
        have hne : effs[j + q] ≠ i := fun e => by
          have e1 : effs[j + q]? = effs[j + (q + 1)]? := by rw [hp, hq, e]
          have := (List.getElem?_inj (by omega) hnd).1 e1
          omega
        rcases h1 with h1 | h1
        · have := hd _ h1; rw [hun] at this; cases this
        · have := key _ hne h1; rw [hun] at this; cases this
    · exact .inl hm

/-- What is owed for operation i where j of the effects are done. -/
def AnyOp (E : Env) (ops : Array Oper) (st : St) (fx : List (Nat × TV)) (effs : List Nat) (ms : List Mem) (i j : Nat) (m : Mem) : Prop :=
  ∃ o x, ops[i]? = some o ∧ lk fx i = some x ∧ dstOK st o.dst = true ∧
    ((wantedA ops (depsSt ops st fx i m).tm o = some true ∧ ∃ m', OpOK E o (depsSt ops st fx i m) x m' ∧ (if effs.contains i then ms[j + 1]? = some m' else m' = m)) ∨
     (wantedA ops (depsSt ops st fx i m).tm o = some false ∧ x = .tup [] ∧ effs.contains i = false))

theorem AnyInv.step (h : AnyInv E ops st fx effs ms listed a w V j m) (hB : anyB ops effs = true) {i : Nat} (hlt : i < ops.size) (hno : listed.getD i false = false) {V' : Vu} {w' : World} {v : Value} {o : Oper} {x : TV} (ho : ops[i]? = some o) (hx : lk fx i = some x) (hd : dstOK st o.dst = true) {m' : Mem} {j' : Nat}
    (hj : if effs.contains i then effs[j]? = some i ∧ j' = j + 1 else j' = j) (hm : ms[j']? = some m') (H : HRel E V' m'.hp m'.tk w') (hn : V'.nx = m'.nx) (L : V.Le V' w w') (hxv : x.rel V' w' v) (hdeps : ∀ k ∈ edgesOf ops i, listed.getD k false = true) :
    AnyInv E ops st fx effs ms (listed.setIfInBounds i true) (a.put o.dst v) w' V' j' m' := by
  have hsz : i < listed.size := by rw [h.size]; exact hlt
  have hget : ∀ k, (listed.setIfInBounds i true).getD k false = if k = i then true else listed.getD k false := fun k => by
    by_cases hk : k = i
    · subst hk; simp [hsz]
    · rw [if_neg hk, getD_set_ne false (fun e => hk e.symm)]
  have hB' := hB
  simp only [anyB, Bool.and_eq_true, decide_eq_true_eq] at hB'
  obtain ⟨⟨⟨⟨-, hnd⟩, -⟩, hne⟩, -⟩ := hB'
  refine ⟨by simp [h.size], fun k hk e he => ?_, fun e he => ?_, fun e he => ?_, hm, ?_, fun k hk d y hd' hy => ?_, fun t y hy hun => ?_⟩
  · rw [hget] at hk ⊢
    split
    · rfl
    · by_cases hki : k = i
      · subst hki; exact hdeps e he
      · rw [if_neg hki] at hk; exact h.closed k hk e he
  · rw [hget]
    split
    · rfl
    · rename_i hei
      split at hj
      · obtain ⟨h1, rfl⟩ := hj
        rw [List.take_add_one, List.mem_append, h1] at he
        rcases he with he | he
        · exact h.done e he
        · simp at he; exact absurd he hei
      · subst hj; exact h.done e he
  · rw [hget]
    have hmem : e ∈ effs.drop j ∧ e ≠ i := by
      split at hj
      · obtain ⟨h1, rfl⟩ := hj
        refine ⟨?_, fun e' => ?_⟩
        · obtain ⟨q, hq⟩ := List.getElem?_of_mem he
          rw [List.getElem?_drop] at hq
          rw [List.mem_iff_getElem?]
          exact ⟨q + 1, by rw [List.getElem?_drop, show j + (q + 1) = j + 1 + q by omega]; exact hq⟩
        · subst e'
          obtain ⟨q, hq⟩ := List.getElem?_of_mem he
          rw [List.getElem?_drop] at hq
          have := (List.getElem?_inj (List.getElem?_eq_some_iff.1 h1).1 hne).1 (h1.trans hq.symm)
          omega
      · rename_i hc
        subst hj
        refine ⟨he, fun e' => ?_⟩
        subst e'
        exact hc (by simpa using List.mem_of_mem_drop he)
    rw [if_neg hmem.2]; exact h.todo e hmem.1
  · have hr := h.rel.mem (m := m') H hn L
    cases hdst : o.dst with
    | none => exact hr
    | some d =>
      have hlt' : d < st.nt := by rw [hdst] at hd; exact Nat.le_of_ble_eq_true hd
      refine ⟨hr.h, hr.nx, by simp [Act.put, h.rel.nt], hr.df, fun t y hy => ?_⟩
      have h1 := hr.tm t y hy
      have h2 := (lk_drop _ _ _ hy).2
      simp only [Act.put]
      rw [getD_put (by rw [h.rel.nt]; exact hlt'), if_neg]
      · exact h1
      · intro e
        subst e
        exact h2 (by
          simp only [dstsOf, List.mem_filterMap, List.mem_range]
          exact ⟨i, hlt, by simp [dstOf, ho, hdst]⟩)
  · by_cases hki : k = i
    · subst hki
      rw [hx] at hy; cases hy
      have hdo : o.dst = some d := by simpa [dstOf, ho] using hd'
      have hlt' : d < a.tmps.size := by rw [hdo] at hd; rw [h.rel.nt]; exact Nat.le_of_ble_eq_true hd
      rw [hdo]
      simp only [Act.put]
      rw [getD_put hlt', if_pos rfl]
      exact hxv
    · rw [hget, if_neg hki] at hk
      have h1 := (h.fact k hk d y hd' hy).mono L
      cases hdst : o.dst with
      | none => exact h1
      | some d0 =>
        have hlt' : d0 < a.tmps.size := by rw [hdst] at hd; rw [h.rel.nt]; exact Nat.le_of_ble_eq_true hd
        simp only [Act.put]
        rw [getD_put hlt', if_neg]
        · exact h1
        · intro e
          subst e
          -- two operations with one slot
          have hk' : k < ops.size := by
            rcases Nat.lt_or_ge k ops.size with h3 | h3
            · exact h3
            · simp [dstOf, Array.getElem?_eq_none h3] at hd'
          have hi' : dstOf ops i = some d0 := by simp [dstOf, ho, hdst]
          have hp : ∀ (l : List Nat), l.Nodup → (l.filterMap (dstOf ops)).Nodup → i ∈ l → k ∈ l → i = k := by
            intro l
            induction l with
            | nil => intro _ _ h; cases h
            | cons p l ih =>
              intro hl hf hi hk
              rw [List.nodup_cons] at hl
              rw [List.filterMap_cons] at hf
              rcases List.mem_cons.1 hi with rfl | hi2
              · rcases List.mem_cons.1 hk with rfl | hk2
                · rfl
                · rw [hi'] at hf
                  simp only [List.nodup_cons] at hf
                  exact absurd (List.mem_filterMap (l := l).2 ⟨k, hk2, hd'⟩) hf.1
              · rcases List.mem_cons.1 hk with rfl | hk2
                · rw [hd'] at hf
                  simp only [List.nodup_cons] at hf
                  exact absurd (List.mem_filterMap (l := l).2 ⟨i, hi2, hi'⟩) hf.1
                · refine ih hl.2 ?_ hi2 hk2
                  split at hf
                  · exact hf
                  · exact (List.nodup_cons.1 hf).2
          exact hki (hp (List.range ops.size) List.nodup_range hnd (by simpa using hlt) (by simpa using hk')).symm
  · have h1 := (h.old t y hy (fun k hk => by
      have := hun k hk
      rw [hget] at this
      split at this
      · cases this
      · exact this)).mono L
    cases hdst : o.dst with
    | none => exact h1
    | some d0 =>
      have hlt' : d0 < a.tmps.size := by rw [hdst] at hd; rw [h.rel.nt]; exact Nat.le_of_ble_eq_true hd
      simp only [Act.put]
      rw [getD_put hlt', if_neg]
      · exact h1
      · intro e
        subst e
        have := hun i (by simp [dstOf, ho, hdst])
        rw [hget, if_pos rfl] at this; cases this

/-- The state behind the region. -/
def endSt (ops : Array Oper) (st : St) (fx : List (Nat × TV)) (m : Mem) : St := ⟨factsOf ops fx (List.range ops.size) ++ dropTm (dstsOf ops) st.tm, m.hp, m.tk, m.nx, st.nt, st.df⟩

theorem XC.anyOrder {ro : Option Nat} {n : Nat} {Q : Exit → Act → World → Prop} {id : Nat} {ops : Array Oper} {st : St} (fx : List (Nat × TV)) (effs : List Nat) (ms : List Mem) {mE : Mem} (hm : E.P.follows .mixedOrders = true) (hB : anyB ops effs = true) (h0 : ms[0]? = some st.mem) (hE : ms[effs.length]? = some mE)
    (hops : ∀ i j m, i < ops.size → j ≤ effs.length → ms[j]? = some m → mayAt ops effs i j = true → AnyOp E ops st fx effs ms i j m)
    (k : XQ E Q .normal (endSt ops st fx mE)) : XC E ro n Q (.region id ops true) st := by
  intro V a w hr
  refine wpIn_region_any hm ?_
  have hr' := hr.drew
  have hB' := hB
  simp only [anyB, Bool.and_eq_true, decide_eq_true_eq] at hB'
  obtain ⟨⟨⟨⟨hdag, -⟩, -⟩, -⟩, heff⟩ := hB'
  -- whatever may be listed, something is ready unless all is
  have hrdy : ∀ listed : Array Bool, listed.size = ops.size → Region.ready .any ops listed = [] → ∀ i, i < ops.size → listed.getD i false = true := by
    intro listed hsz hrd i
    induction i using Nat.strongRecOn with
    | ind i ih =>
      intro hi
      cases hc : listed.getD i false with
      | true => rfl
      | false =>
        exfalso
        have hnm : i ∉ Region.ready .any ops listed := by rw [hrd]; exact List.not_mem_nil
        refine hnm (mem_ready.2 ?_)
        obtain ⟨o, ho⟩ : ∃ o, ops[i]? = some o := ⟨_, Array.getElem?_eq_getElem hi⟩
        refine ⟨getD_in (by rw [hsz]; exact hi) hc, o, ho, fun e he hb => ?_⟩
        have hem : e.on ∈ edgesOf ops i := (mem_edges ho).2 ⟨e, he, hb, rfl⟩
        have hlt := List.all_eq_true.1 (List.all_eq_true.1 hdag i (by simpa using hi)) _ hem
        have hlt' : e.on < i := by simpa using hlt
        exact ih e.on hlt' (by omega)
  have fin : ∀ (listed : Array Bool) (a : Act) (w : World) (V : Vu) (j : Nat) (m : Mem), j ≤ effs.length → AnyInv E ops st fx effs ms listed a w V j m → (∀ i, i < ops.size → listed.getD i false = true) → Q .normal a w := by
    intro listed a w V j m hj hI hall
    have hjk : j = effs.length := by
      rcases Nat.lt_or_ge j effs.length with h1 | h1
      · exfalso
        have hmem : effs[j] ∈ effs.drop j := by rw [List.mem_iff_getElem?]; exact ⟨0, by rw [List.getElem?_drop]; simp [h1]⟩
        have h2 := hI.todo _ hmem
        have h3 := hall effs[j] (by simpa using List.all_eq_true.1 heff effs[j] (List.getElem_mem h1))
        rw [h2] at h3; cases h3
      · omega
    subst hjk
    have e1 : m = mE := Option.some.inj (hI.mem.symm.trans hE)
    subst e1
    refine k V a w ⟨hI.rel.h, hI.rel.nx, hI.rel.nt, hI.rel.df, fun t x hx => ?_⟩
    simp only [endSt, lk_append] at hx
    split at hx
    · rename_i y hy; cases hx
      obtain ⟨i, h1, h2, h3⟩ := lk_facts _ t x hy
      exact hI.fact i (hall i (by simpa using h1)) t x h2 h3
    · exact hI.rel.tm t x hx
  have main : ∀ (fuel : Nat) (listed : Array Bool) (a : Act) (w : World) (V : Vu) (j : Nat) (m : Mem), j ≤ effs.length → AnyInv E ops st fx effs ms listed a w V j m →
      (∀ c, ops.size ≤ fuel + c → c ≤ ((List.range ops.size).filter fun i => listed.getD i false).length → True) →
      ops.size ≤ fuel + ((List.range ops.size).filter fun i => listed.getD i false).length → wpAnyIn (FR ro) n E.P .any ops Q fuel listed a w := by
    intro fuel
    induction fuel with
    | zero =>
      intro listed a w V j m hj hI _ hc
      have hall : ∀ i, i < ops.size → listed.getD i false = true := by
        intro i hi
        have h1 : ((List.range ops.size).filter fun i => listed.getD i false).length = (List.range ops.size).length := by
          have := List.length_filter_le (fun i => listed.getD i false) (List.range ops.size)
          simp only [List.length_range] at this ⊢; omega
        exact List.length_filter_eq_length_iff.1 h1 i (by simpa using hi)
      refine ⟨?_, fin listed a w V j m hj hI hall⟩
      unfold Region.ready
      rw [List.filter_eq_nil_iff]
      intro i hi
      have hi' : i < ops.size := by simpa using hi
      have : listed.getD i true = true := by
        have h1 := hall i hi'
        have : i < listed.size := by rw [hI.size]; exact hi'
        simp [this] at h1 ⊢; exact h1
      rw [this]; simp
    | succ fuel ih =>
      intro listed a w V j m hj hI _ hc
      refine ⟨fun hrd => fin listed a w V j m hj hI (hrdy listed hI.size hrd), fun i hi => ?_⟩
      obtain ⟨hun, o, ho, hdeps⟩ := mem_ready.1 hi
      have hlt : i < ops.size := (Array.getElem?_eq_some_iff.1 ho).1
      have hno : listed.getD i false = false := by
        have : i < listed.size := by rw [hI.size]; exact hlt
        simp [this] at hun ⊢; exact hun
      have hd : ∀ k ∈ edgesOf ops i, listed.getD k false = true := fun k hk => by
        obtain ⟨e, he, hb, rfl⟩ := (mem_edges ho).1 hk
        exact hdeps e he hb
      have hmay := hI.may hB hlt hno hd
      obtain ⟨o', x, ho', hx, hdst, hcase⟩ := hops i j m hlt hj hI.mem hmay
      rw [ho] at ho'; cases ho'
      have hrel := hI.depsRel hno hd
      have hcnt : ops.size ≤ fuel + ((List.range ops.size).filter fun i' => (listed.setIfInBounds i true).getD i' false).length := by
        have h1 : ((List.range ops.size).filter fun i => listed.getD i false).length < ((List.range ops.size).filter fun i' => (listed.setIfInBounds i true).getD i' false).length := by
          have key : ∀ (l : List Nat), l.Nodup → i ∈ l → (l.filter fun i => listed.getD i false).length < (l.filter fun i' => (listed.setIfInBounds i true).getD i' false).length := by
            have hget : ∀ k, (listed.setIfInBounds i true).getD k false = if k = i then true else listed.getD k false := fun k => by
              by_cases hk : k = i
              · subst hk
                have : k < listed.size := by rw [hI.size]; exact hlt
                simp [this]
              · rw [if_neg hk, getD_set_ne false (fun e => hk e.symm)]
            have hle : ∀ (l : List Nat), (l.filter fun i => listed.getD i false).length ≤ (l.filter fun i' => (listed.setIfInBounds i true).getD i' false).length := by
              intro l
              induction l with
              | nil => exact Nat.le_refl _
              | cons p l ih =>
                rw [List.filter_cons, List.filter_cons, hget]
                by_cases hp : p = i
                · subst hp; rw [hno]; simp only [if_true]; rw [List.length_cons]; simp only [Bool.false_eq_true, if_false]; omega
                · rw [if_neg hp]; split <;> (try rw [List.length_cons, List.length_cons]) <;> omega
            intro l
            induction l with
            | nil => intro _ h; cases h
            | cons p l ih =>
              intro hnd' hi'
              rw [List.nodup_cons] at hnd'
              rw [List.filter_cons, List.filter_cons, hget]
              rcases List.mem_cons.1 hi' with rfl | hi'
              · rw [hno]; simp only [if_true, Bool.false_eq_true, if_false]; rw [List.length_cons]; have := hle l; omega
              · have := ih hnd'.2 hi'
                have hp : p ≠ i := fun e => hnd'.1 (by rw [e]; exact hi')
                rw [if_neg hp]; split <;> (try rw [List.length_cons, List.length_cons]) <;> omega
          exact key _ List.nodup_range (by simpa using hlt)
        omega
      unfold wpOpIn
      simp only [ho]
      rcases hcase with ⟨hw, m', hok, hm'⟩ | ⟨hw, rfl, hc'⟩
      · rw [if_pos (wanted_of hrel hw)]
        refine hok V a w hrel ro n _ Q (fun V' w' v H hn L hxv => ?_)
        by_cases hce : effs.contains i = true
        · rw [if_pos hce] at hm'
          have hej : effs[j]? = some i := by
            simp only [mayAt, Bool.and_eq_true, Bool.or_eq_true, Bool.not_eq_true', beq_iff_eq] at hmay
            rcases hmay.2 with h1 | h1
            · rw [hce] at h1; cases h1
            · exact h1
          refine ih _ _ _ V' (j + 1) m' (by have := (List.getElem?_eq_some_iff.1 hej).1; omega) (hI.step hB hlt hno ho hx hdst (by rw [if_pos hce]; exact ⟨hej, rfl⟩) hm' H hn L hxv hd) (fun _ _ _ => trivial) hcnt
        · rw [if_neg hce] at hm'
          subst hm'
          exact ih _ _ _ V' j m' hj (hI.step hB hlt hno ho hx hdst (by rw [if_neg hce]) hI.mem H hn L hxv hd) (fun _ _ _ => trivial) hcnt
      · rw [if_neg (by rw [wanted_of hrel hw]; exact Bool.false_ne_true)]
        exact ⟨fun _ _ => trivial, ih _ _ _ V j m hj (hI.step hB hlt hno ho hx hdst (by rw [if_neg (by rw [hc']; exact Bool.false_ne_true)]) hI.mem hI.rel.h hI.rel.nx (Vu.Le.refl _ _) und_rel hd) (fun _ _ _ => trivial) hcnt⟩
  refine main ops.size _ a _ V 0 st.mem (Nat.zero_le _) ⟨by simp, fun i hi => ?_, fun e he => by simp at he, fun e _ => getD_replicate_false _ _, h0, ⟨hr'.h, hr'.nx, hr'.nt, hr'.df, fun t y hy => hr'.tm t y (lk_drop _ _ _ hy).1⟩, fun i hi => ?_, fun t y hy _ => hr'.tm t y hy⟩ (fun _ _ _ => trivial) (by omega)
  · rw [getD_replicate_false] at hi; cases hi
  · rw [getD_replicate_false] at hi; cases hi
end
end Go.Proofs.YtcapifnaceegmaaGreatDoor
