/- Part 2 of the proof: rules, mirrors and plain laws. The card of LevelTexts is proved here: for every level the law returns true, and the arguments read behind the call as they did before; condition: the listed package-level variables hold what the program's text lays (tied). -/
import Derived.Test.YtcapifnaceegmaaGreatDoorK81
import Derived.RangeFuncLeaves
import Derived.RangeFuncRecord
import Derived.MapKept
import Derived.Carry
import Derived.Laws.MakeOwn
import Derived.LoopNIn
import Derived.Laws.Cover3
namespace Go.Proofs.YtcapifnaceegmaaGreatDoor
open Go.RowKit
set_option linter.unusedSimpArgs false
set_option linter.unusedVariables false
set_option linter.unusedSectionVars false
structure Mem where
  hp : List (Nat × HB)
  tk : List (Nat × Option Tok)
  nx : Nat
def St.mem (st : St) : Mem := ⟨st.hp, st.tk, st.nx⟩
def St.withMem (st : St) (m : Mem) : St := ⟨st.tm, m.hp, m.tk, m.nx, st.nt, st.df⟩
def dropK {α : Type} (i : Nat) (l : List (Nat × α)) : List (Nat × α) := l.filter fun p => !(Nat.beq p.1 i)
theorem lk_dropK {α : Type} (i : Nat) : ∀ (l : List (Nat × α)) (j : Nat), lk (dropK i l) j = if j = i then none else lk l j
  | [], j => by simp [dropK, lk]
  | (k, v) :: l, j => by
    have ih := lk_dropK i l j
    simp only [dropK, List.filter_cons] at ih ⊢
    by_cases hk : k = i
    · subst hk
      simp only [Nat.beq_eq_true_eq, Bool.not_eq_true', show Nat.beq k k = true from by simp, Bool.not_true, Bool.false_eq_true, if_false, ih, lk_cons]
      by_cases hj : j = k
      · simp [hj]
      · rw [if_neg hj, if_neg hj, if_neg (fun e => hj e.symm)]
    · have : Nat.beq k i = false := by
        cases hb : Nat.beq k i with
        | false => rfl
        | true => exact absurd (Nat.eq_of_beq_eq_true hb) hk
      simp only [this, Bool.not_false, if_true, lk_cons, ih]
      by_cases hj : j = i
      · subst hj; simp [hk]
      · simp [hj]
theorem lk_put {α : Type} (i : Nat) (v : α) (l : List (Nat × α)) (j : Nat) : lk ((i, v) :: dropK i l) j = lk ((i, v) :: l) j := by
  rw [lk_cons, lk_cons, lk_dropK]
  by_cases h : i = j
  · simp [h]
  · rw [if_neg h, if_neg h, if_neg (fun e => h e.symm)]
theorem lk_dropK_some {α : Type} {i : Nat} {l : List (Nat × α)} {j : Nat} {v : α} (h : lk (dropK i l) j = some v) : lk l j = some v ∧ j ≠ i := by
  rw [lk_dropK] at h
  split at h
  · cases h
  · rename_i hj; exact ⟨h, hj⟩
section
variable {E : Env} {V V' : Vu} {hp hp' : List (Nat × HB)} {tk tk' : List (Nat × Option Tok)} {w w' : World}
theorem HRel.congr (h : HRel E V hp tk w) (hh : ∀ j, lk hp' j = lk hp j) (ht : ∀ j, lk tk' j = lk tk j) : HRel E V hp' tk' w :=
  ⟨h.ext, h.le0, h.sz, h.sub, fun i B hi => h.own i B (by rw [← hh]; exact hi), fun i j A B hi hj => h.inj i j A B (by rw [← hh]; exact hi) (by rw [← hh]; exact hj), fun i B hi => h.new i B (by rw [← hh]; exact hi),
   fun i T hi => by
    obtain ⟨h1, h2, xs, h3, h4⟩ := h.tok i T (by rw [← ht]; exact hi)
    exact ⟨h1, h2, xs, h3, fun g hg => ⟨(h4 g hg).1, (h4 g hg).2.1, fun j B hj => (h4 g hg).2.2 j B (by rw [← hh]; exact hj)⟩⟩,
   fun i j T U g hi hj => h.tki i j T U g (by rw [← ht]; exact hi) (by rw [← ht]; exact hj)⟩
theorem HRel.forget (h : HRel E V hp tk w) (hh : ∀ j B, lk hp' j = some B → lk hp j = some B) (ht : ∀ j T, lk tk' j = some (some T) → lk tk j = some (some T)) : HRel E V hp' tk' w :=
  ⟨h.ext, h.le0, h.sz, h.sub, fun i B hi => h.own i B (hh i B hi), fun i j A B hi hj => h.inj i j A B (hh i A hi) (hh j B hj), fun i B hi => h.new i B (hh i B hi),
   fun i T hi => by
    obtain ⟨h1, h2, xs, h3, h4⟩ := h.tok i T (ht i T hi)
    exact ⟨h1, h2, xs, h3, fun g hg => ⟨(h4 g hg).1, (h4 g hg).2.1, fun j B hj => (h4 g hg).2.2 j B (hh j B hj)⟩⟩,
   fun i j T U g hi hj => h.tki i j T U g (ht i T hi) (ht j U hj)⟩
def Env.at (E : Env) (V : Vu) (w : World) : Env := ⟨E.P, w, fun b => E.M b ∨ E.w0.heap.size ≤ b, V⟩
theorem HRel.rebase (h : HRel E V hp tk w) : HRel (E.at V w) V hp tk w :=
  ⟨ExtM.refl _ _, ⟨Vu.Le.refl _ _, h.tabs⟩, h.sz, fun b o hs => .inl hs, h.own, h.inj, fun i B hi => ⟨.inr ((h.new i B hi).1.elim .inr .inl), (h.new i B hi).2⟩,
   fun i T hi => by
    obtain ⟨h1, h2, xs, h3, h4⟩ := h.tok i T hi
    exact ⟨h1, h2, xs, h3, fun g hg => ⟨.inr ((h4 g hg).1.elim .inr .inl), (h4 g hg).2⟩⟩, h.tki⟩
theorem HRel.back (h : HRel E V hp tk w) (h' : HRel (E.at V w) V' hp' tk' w') : HRel E V' hp' tk' w' ∧ V.Le V' w w' := by
  have hx : ∀ b, w.heap.size ≤ b ∨ (E.M b ∨ E.w0.heap.size ≤ b) → E.w0.heap.size ≤ b ∨ E.M b := fun b hb => by
    rcases hb with hb | hb | hb
    · exact .inl (Nat.le_trans h.ext.size hb)
    · exact .inr hb
    · exact .inl hb
  refine ⟨⟨⟨h'.ext.os.trans h.ext.os, h'.ext.tape.trans h.ext.tape, h'.ext.output.trans h.ext.output, Nat.le_trans h.ext.size h'.ext.size, fun k hk hM => ?_⟩, h.le0.trans h'.le0.toLe, h'.sz, fun b o hs => ?_, h'.own, h'.inj, fun i B hi => ⟨hx _ (h'.new i B hi).1, (h'.new i B hi).2⟩, fun i T hi => ?_, h'.tki⟩, h'.le0.toLe⟩
  · refine (h'.ext.block k (Nat.lt_of_lt_of_le hk h.ext.size) ?_).trans (h.ext.block k hk hM)
    rintro (h1 | h1)
    · exact hM h1
    · omega
  · rcases h'.sub b o hs with h1 | h1 | h1
    · exact h.sub b o h1
    · exact .inr (hx b (.inl h1))
    · exact .inr (hx b (.inr h1))
  · obtain ⟨h1, h2, xs, h3, h4⟩ := h'.tok i T hi
    exact ⟨h1, h2, xs, h3, fun g hg => ⟨hx _ (h4 g hg).1, (h4 g hg).2⟩⟩
theorem HRel.setOwn (h : HRel E V hp tk w) {i : Nat} {B B' : HB} {o' : Obj} (hi : lk hp i = some B) (hw : ∀ k, k ≠ V.ι i → w'.heap[k]? = w.heap[k]?) (hs : w'.heap.size = w.heap.size) (hos : w'.os = w.os) (htp : w'.tape = w.tape) (hou : w'.output = w.output)
    (hn : w'.heap[V.ι i]? = some o') (hB : V.Le V w w' → B'.rel V w' o') : HRel E V ((i, B') :: hp) tk w' ∧ V.Le V w w' := by
  have hle : V.Le V w w' := ⟨Nat.le_refl _, fun _ _ => rfl, fun _ _ => Nat.le_refl _, fun _ _ _ _ => rfl, fun _ _ h => h, fun b o' hs' => World.cell?_of_block (w := w) (a := ⟨b, o', none⟩) (hw b fun e => (h.new i _ hi).2 o' (by rw [← e]; exact hs'))⟩
  refine ⟨⟨?_, h.le0.trans hle, fun b o' hs' => by rw [hs]; exact h.sz b o' hs', h.sub, ?_, ?_, ?_, ?_, h.tki⟩, hle⟩
  · refine ⟨hos.trans h.ext.os, htp.trans h.ext.tape, hou.trans h.ext.output, by rw [hs]; exact h.ext.size, fun k hk hM => (hw k fun e => ?_).trans (h.ext.block k hk hM)⟩
    rcases (h.new i _ hi).1 with h1 | h1
    · omega
    · rw [← e] at h1; exact hM h1
  · intro j A hj
    rw [lk_cons] at hj
    split at hj
    · rename_i e; subst e; cases hj
      exact ⟨(h.own _ _ hi).1, o', hn, hB hle⟩
    · rename_i e
      obtain ⟨h1, o1, ho1, hA⟩ := h.own j A hj
      exact ⟨h1, o1, by rw [hw _ fun e' => e (h.inj j i _ _ hj hi e').symm]; exact ho1, hA.mono hle⟩
  · intro j k A A' hj hk e
    rw [lk_cons] at hj hk
    split at hj <;> split at hk
    · rename_i e1 e2; exact e1.symm.trans e2
    · rename_i e1 e2; subst e1; exact h.inj _ _ _ _ hi hk e
    · rename_i e1 e2; subst e2; exact h.inj _ _ _ _ hj hi e
    · exact h.inj _ _ _ _ hj hk e
  · intro j A hj
    rw [lk_cons] at hj
    split at hj
    · rename_i e; subst e; exact h.new _ _ hi
    · exact h.new _ _ hj
  · intro j T' hj
    obtain ⟨h1, hcu, xs', hown, hg⟩ := h.tok j T' hj
    refine ⟨h1, hcu, xs', hown.kept (row := some (V.ι i)) ⟨hos, htp, hou, by rw [hs]; exact Nat.le_refl _, fun k _ hk => hw k fun e => hk (by rw [e])⟩ ?_, fun g hgb => ⟨(hg g hgb).1, (hg g hgb).2.1, fun k B hk => ?_⟩⟩
    · cases hb : (V.κ j T'.n).ownBlock with
      | none => exact .inl rfl
      | some g => exact .inr fun e => (hg g hb).2.2 i _ hi (by cases e; rfl)
    · rw [lk_cons] at hk
      split at hk
      · rename_i e; subst e; exact (hg g hgb).2.2 _ _ hi
      · exact (hg g hgb).2.2 _ _ hk
theorem HRel.putObj (h : HRel E V hp tk w) {i : Nat} {B B' : HB} {o' : Obj} (hi : lk hp i = some B) (hB : V.Le V w (w.putObj (V.ι i) o') → B'.rel V (w.putObj (V.ι i) o') o') : HRel E V ((i, B') :: hp) tk (w.putObj (V.ι i) o') ∧ V.Le V w (w.putObj (V.ι i) o') := by
  obtain ⟨-, o, ho, -⟩ := h.own i B hi
  exact h.setOwn hi (fun k hk => World.putObj_heap_other hk) World.putObj_size rfl rfl rfl (World.putObj_heap_same (heap_lt ho)) hB
end
def OpOK (E : Env) (o : Oper) (st : St) (x : TV) (m : Mem) : Prop := ∀ V a w, Rel E V st a w → ∀ (ro : Option Nat) (n : Nat) (K : Act → World → Prop) (Q : Exit → Act → World → Prop),
  (∀ V' w' v, HRel E V' m.hp m.tk w' → V'.nx = m.nx → V.Le V' w w' → x.rel V' w' v → K (a.put o.dst v) w') → o.wpIn (FR ro) n E.P a w K Q
def CallM (P : Program) (f : FuncId) (args : List AV) (m : Mem) (res : TV) (m' : Mem) : Prop :=
  Enters P f ∧ ∀ (E : Env) (V : Vu) (w : World) (vs : Array Value), E.P = P → HRel E V m.hp m.tk w → V.nx = m.nx → argsRel V w args vs →
    Calls P f vs w fun e w' => ∃ v V', e = .returned v ∧ HRel E V' m'.hp m'.tk w' ∧ V'.nx = m'.nx ∧ V.Le V' w w' ∧ res.rel V' w' v
def RoundOf (E : Env) (rn ro : Option Nat) : Prop := match rn with
  | none => ro = none
  | some L => L < E.V0.nx ∧ ro = some (E.V0.ι L)
def ExecOK (P : Program) (rn : Option Nat) (c : Code) (st : St) (e : Exit) (st' : St) : Prop :=
  ∀ (E : Env) (ro : Option Nat) (n : Nat) (Q : Exit → Act → World → Prop), E.P = P → RoundOf E rn ro → XQ E Q e st' → XC E ro n Q c st
section
variable {E : Env} {ro : Option Nat} {n : Nat} {ops : Array Oper} {Q : Exit → Act → World → Prop} {rest : List Oper} {st st' : St} {o : Oper} {x : TV} {m : Mem}
theorem OpOK.of_ro (h : RO E o st x) : OpOK E o st x st.mem := by
  intro V a w hr ro n K Q hK
  exact wpIn_of_ro h hr (fun v hx => hK V w v hr.h hr.nx (Vu.Le.refl _ _) hx)
def nextSt (st : St) (dst : Option Nat) (x : TV) (m : Mem) : St := match dst with
  | some d => ⟨(d, x) :: dropK d st.tm, m.hp, m.tk, m.nx, st.nt, st.df⟩
  | none => st.withMem m
def dstOK (st : St) (dst : Option Nat) : Bool := match dst with
  | some d => Nat.blt d st.nt
  | none => true
theorem Rel.mem {V V' : Vu} {a : Act} {w w' : World} (hr : Rel E V st a w) (H : HRel E V' m.hp m.tk w') (hn : V'.nx = m.nx) (L : V.Le V' w w') : Rel E V' (st.withMem m) a w' :=
  ⟨H, hn, hr.nt, hr.df.le L, fun t y hy => (hr.tm t y hy).mono L⟩
theorem Rel.next {V V' : Vu} {a : Act} {w w' : World} {dst : Option Nat} {v : Value} (hr : Rel E V st a w) (hd : dstOK st dst = true) (H : HRel E V' m.hp m.tk w') (hn : V'.nx = m.nx) (L : V.Le V' w w') (hx : x.rel V' w' v) : Rel E V' (nextSt st dst x m) (a.put dst v) w' := by
  cases dst with
  | none => exact hr.mem H hn L
  | some d =>
    have h1 := (hr.mem H hn L).put (d := d) (Nat.le_of_ble_eq_true hd) hx
    exact ⟨h1.h, h1.nx, h1.nt, h1.df, fun t y hy => h1.tm t y (by rw [← hy]; exact (lk_put d x st.tm t).symm)⟩
theorem Rel.nextU {V : Vu} {a : Act} {w : World} {dst : Option Nat} (hr : Rel E V st a w) : Rel E V (nextSt st dst (.tup []) st.mem) (a.put dst undef) w := by
  cases dst with
  | none => exact hr
  | some d =>
    have h1 := hr.und d
    exact ⟨h1.h, h1.nx, h1.nt, h1.df, fun t y hy => h1.tm t y (by rw [← hy]; exact (lk_put d _ st.tm t).symm)⟩
def wantedA (ops : Array Oper) (tm : List (Nat × TV)) (o : Oper) : Option Bool := match o.guard with
  | none => some true
  | some (j, b) => match (ops[j]?).bind (·.dst) with
    | none => none
    | some d => match lk tm d with
      | some (.v (.one (.d (.v (.bool c))))) => some (c == b)
      | some (.tup []) => some false
      | _ => none
theorem wanted_of {V : Vu} {a : Act} {w : World} {b : Bool} (hr : Rel E V st a w) (h : wantedA ops st.tm o = some b) : Region.wanted o (yielded ops a.tmps) = b := by
  unfold wantedA at h
  split at h
  · rename_i hg; cases h; simp [Region.wanted, hg]
  · rename_i j b' hg
    split at h
    · cases h
    · rename_i d hd
      split at h
      · rename_i c hc; cases h
        simp only [Region.wanted, hg, yielded_of hr hd hc]
        cases c <;> cases b' <;> rfl
      · rename_i hc; cases h
        simp [Region.wanted, hg, yielded_und hr hd hc]
      · cases h
theorem XL.opOK (hg : wantedA ops st.tm o = some true) (ho : OpOK E o st x m) (hd : dstOK st o.dst = true) (k : XL E ro n ops Q rest (nextSt st o.dst x m)) : XL E ro n ops Q (o :: rest) st := by
  intro V a w h
  unfold wpListIn
  rw [if_pos (wanted_of h hg)]
  exact ho V a w h ro n _ Q (fun V' w' v H hn L hx => k V' _ w' (h.next hd H hn L hx))
theorem XL.opNo (hg : wantedA ops st.tm o = some false) (k : XL E ro n ops Q rest (nextSt st o.dst (.tup []) st.mem)) : XL E ro n ops Q (o :: rest) st := by
  intro V a w h
  unfold wpListIn
  rw [if_neg (by rw [wanted_of h hg]; exact Bool.false_ne_true)]
  exact ⟨fun _ _ => trivial, k V _ w h.nextU⟩
end
section
variable (ops : Array Oper)
def ancsGo : Nat → List Nat → List Nat
  | 0, l => l
  | k + 1, l => ancsGo k (cond (l.contains k) (edgesOf ops k ++ l) l)
def ancs (l : List Nat) : List Nat := ancsGo ops ops.size l
def dstsOf : List Nat := (List.range ops.size).filterMap (dstOf ops)
def hides (i t : Nat) : Bool := (List.range ops.size).any fun j => match dstOf ops j with
  | some d => cond (Nat.beq d t) (!((edgesOf ops j).contains i)) false
  | none => false
def keepTm (i : Nat) (tm : List (Nat × TV)) : List (Nat × TV) := tm.filter fun p => !(hides ops i p.1)
theorem lk_keep {ops : Array Oper} {i : Nat} : ∀ (tm : List (Nat × TV)) (t : Nat) (x : TV), lk (keepTm ops i tm) t = some x → lk tm t = some x ∧ hides ops i t = false
  | [], t, x, h => by cases h
  | (k, v) :: r, t, x, h => by
    simp only [keepTm, List.filter_cons] at h
    split at h
    · rename_i hk
      rw [lk_cons] at h ⊢
      split at h
      · rename_i hkt; subst hkt; rw [if_pos rfl]; exact ⟨h, by simpa using hk⟩
      · rename_i hkt; rw [if_neg hkt]; exact lk_keep r t x h
    · rename_i hk
      have := lk_keep r t x h
      rw [lk_cons, if_neg]
      · exact this
      · intro e; subst e; rw [this.2] at hk; exact hk rfl
theorem hides_no {ops : Array Oper} {i t j : Nat} (h : hides ops i t = false) (hd : dstOf ops j = some t) (hj : j < ops.size) : i ∈ edgesOf ops j := by
  have := List.any_eq_false.1 h j (by simpa using hj)
  rw [hd] at this
  simpa using this
def depsSt (st : St) (fx : List (Nat × TV)) (i : Nat) (m : Mem) : St := ⟨factsOf ops fx (edgesOf ops i) ++ keepTm ops i st.tm, m.hp, m.tk, m.nx, st.nt, st.df⟩
def mayAt (effs : List Nat) (i j : Nat) : Bool :=
  (effs.take j).all (fun e => !((ancs ops [e]).contains i)) && (effs.drop j).all (fun e => e == i || !((ancs ops [i]).contains e)) && (!(effs.contains i) || effs[j]? == some i)
def anyB (effs : List Nat) : Bool :=
  (List.range ops.size).all (fun i => (edgesOf ops i).all fun k => decide (k < i)) && decide (dstsOf ops).Nodup &&
  (List.range (effs.length - 1)).all (fun j => match effs[j]?, effs[j + 1]? with
    | some a, some b => (edgesOf ops b).contains a || (ancs ops [b]).contains a
    | _, _ => true) && decide effs.Nodup && effs.all (fun e => decide (e < ops.size))
end
structure AnyInv (E : Env) (ops : Array Oper) (st : St) (fx : List (Nat × TV)) (effs : List Nat) (ms : List Mem) (listed : Array Bool) (a : Act) (w : World) (V : Vu) (j : Nat) (m : Mem) : Prop where
  size : listed.size = ops.size
  closed : ∀ i, listed.getD i false = true → ∀ k ∈ edgesOf ops i, listed.getD k false = true
  done : ∀ e ∈ effs.take j, listed.getD e false = true
  todo : ∀ e ∈ effs.drop j, listed.getD e false = false
  mem : ms[j]? = some m
  rel : Rel E V ⟨dropTm (dstsOf ops) st.tm, m.hp, m.tk, m.nx, st.nt, st.df⟩ a w
  fact : ∀ i, listed.getD i false = true → ∀ d x, dstOf ops i = some d → lk fx i = some x → x.rel V w (a.tmps.getD d undef)
  old : ∀ t x, lk st.tm t = some x → (∀ k, dstOf ops k = some t → listed.getD k false = false) → x.rel V w (a.tmps.getD t undef)
section
variable {E : Env} {ops : Array Oper} {st : St} {fx : List (Nat × TV)} {effs : List Nat} {ms : List Mem} {listed : Array Bool} {a : Act} {w : World} {V : Vu} {j : Nat} {m : Mem}
theorem ancs_all {p : Nat → Prop} (hp : ∀ i, p i → ∀ k ∈ edgesOf ops i, p k) {l : List Nat} (h : ∀ i ∈ l, p i) : ∀ i ∈ ancs ops l, p i := by
  have key : ∀ (k : Nat) (l : List Nat), (∀ i ∈ l, p i) → ∀ i ∈ ancsGo ops k l, p i := by
    intro k
    induction k with
    | zero => exact fun l h => h
    | succ k ih =>
      intro l h
      simp only [ancsGo]
      cases hc : l.contains k with
      | false => exact ih l h
      | true =>
        refine ih _ (fun i hi => ?_)
        simp only [cond_true, List.mem_append] at hi
        rcases hi with hi | hi
        · exact hp k (h k (by simpa using hc)) i hi
        · exact h i hi
  exact key ops.size l h
theorem AnyInv.depsRel (h : AnyInv E ops st fx effs ms listed a w V j m) {i : Nat} (hno : listed.getD i false = false) (hd : ∀ k ∈ edgesOf ops i, listed.getD k false = true) : Rel E V (depsSt ops st fx i m) a w := by
  refine ⟨h.rel.h, h.rel.nx, h.rel.nt, h.rel.df, fun t x hx => ?_⟩
  simp only [depsSt, lk_append] at hx
  split at hx
  · rename_i y hy; cases hx
    obtain ⟨k, h1, h2, h3⟩ := lk_facts _ t x hy
    exact h.fact k (hd k h1) t x h2 h3
  · obtain ⟨h1, h2⟩ := lk_keep _ _ _ hx
    refine h.old t x h1 (fun k hk => ?_)
    cases hc : listed.getD k false with
    | false => rfl
    | true =>
      have hk' : k < ops.size := by
        rcases Nat.lt_or_ge k ops.size with h3 | h3
        · exact h3
        · simp [dstOf, Array.getElem?_eq_none h3] at hk
      have := h.closed k hc i (hides_no h2 hk hk')
      rw [hno] at this; cases this
theorem AnyInv.may (h : AnyInv E ops st fx effs ms listed a w V j m) (hB : anyB ops effs = true) {i : Nat} (hlt : i < ops.size) (hno : listed.getD i false = false) (hd : ∀ k ∈ edgesOf ops i, listed.getD k false = true) : mayAt ops effs i j = true := by
  simp only [anyB, Bool.and_eq_true, decide_eq_true_eq] at hB
  obtain ⟨⟨⟨⟨-, -⟩, hch⟩, hnd⟩, -⟩ := hB
  have key : ∀ e, e ≠ i → e ∈ ancs ops [i] → listed.getD e false = true := fun e he hm => by
    have := ancs_all (p := fun x => x = i ∨ listed.getD x false = true) (fun x hx k hk => by
      rcases hx with rfl | hx
      · exact .inr (hd k hk)
      · exact .inr (h.closed x hx k hk)) (l := [i]) (fun x hx => .inl (by simpa using hx)) e hm
    exact this.resolve_left he
  simp only [mayAt, Bool.and_eq_true, Bool.or_eq_true, Bool.not_eq_true', List.contains_eq_mem, decide_eq_true_eq, decide_eq_false_iff_not, List.all_eq_true, beq_iff_eq]
  refine ⟨⟨fun e he hc => ?_, fun e he => ?_⟩, ?_⟩
  · have := ancs_all h.closed (l := [e]) (fun i' hi' => by simp at hi'; subst hi'; exact h.done _ he) i hc
    rw [hno] at this; cases this
  · by_cases hei : e = i
    · exact .inl hei
    · refine .inr fun hc => ?_
      have h1 := key e hei hc
      have h2 := h.todo e he
      rw [h2] at h1; cases h1
  · by_cases hm : i ∈ effs
    · refine .inr ?_
      have hdrop : i ∈ effs.drop j := by
        rw [← List.take_append_drop j effs, List.mem_append] at hm
        rcases hm with hm | hm
        · have := h.done i hm; rw [hno] at this; cases this
        · exact hm
      obtain ⟨q, hq⟩ := List.getElem?_of_mem hdrop
      rw [List.getElem?_drop] at hq
      cases q with
      | zero => simpa using hq
      | succ q =>
        exfalso
        have hlt' := (List.getElem?_eq_some_iff.1 hq).1
        have hp : effs[j + q]? = some effs[j + q] := List.getElem?_eq_getElem (by omega)
        have h1 := List.all_eq_true.1 hch (j + q) (by simp; omega)
        rw [hp, show j + q + 1 = j + (q + 1) by omega, hq] at h1
        simp only [Bool.or_eq_true, List.contains_eq_mem, decide_eq_true_eq] at h1
        have hmem : effs[j + q] ∈ effs.drop j := by
          rw [List.mem_iff_getElem?]
          exact ⟨q, by rw [List.getElem?_drop]; exact hp⟩
        have hun := h.todo _ hmem
        have hne : effs[j + q] ≠ i := fun e => by
          have e1 : effs[j + q]? = effs[j + (q + 1)]? := by rw [hp, hq, e]
          have := (List.getElem?_inj (by omega) hnd).1 e1
          omega
        rcases h1 with h1 | h1
        · have := hd _ h1; rw [hun] at this; cases this
        · have := key _ hne h1; rw [hun] at this; cases this
    · exact .inl hm
def AnyOp (E : Env) (ops : Array Oper) (st : St) (fx : List (Nat × TV)) (effs : List Nat) (ms : List Mem) (i j : Nat) (m : Mem) : Prop :=
  ∃ o x, ops[i]? = some o ∧ lk fx i = some x ∧ dstOK st o.dst = true ∧
    ((wantedA ops (depsSt ops st fx i m).tm o = some true ∧ ∃ m', OpOK E o (depsSt ops st fx i m) x m' ∧ (if effs.contains i then ms[j + 1]? = some m' else m' = m)) ∨
     (wantedA ops (depsSt ops st fx i m).tm o = some false ∧ x = .tup [] ∧ effs.contains i = false))
theorem AnyInv.step (h : AnyInv E ops st fx effs ms listed a w V j m) (hB : anyB ops effs = true) {i : Nat} (hlt : i < ops.size) (hno : listed.getD i false = false) {V' : Vu} {w' : World} {v : Value} {o : Oper} {x : TV} (ho : ops[i]? = some o) (hx : lk fx i = some x) (hd : dstOK st o.dst = true) {m' : Mem} {j' : Nat}
    (hj : if effs.contains i then effs[j]? = some i ∧ j' = j + 1 else j' = j) (hm : ms[j']? = some m') (H : HRel E V' m'.hp m'.tk w') (hn : V'.nx = m'.nx) (L : V.Le V' w w') (hxv : x.rel V' w' v) (hdeps : ∀ k ∈ edgesOf ops i, listed.getD k false = true) :
    AnyInv E ops st fx effs ms (listed.setIfInBounds i true) (a.put o.dst v) w' V' j' m' := by
  have hsz : i < listed.size := by rw [h.size]; exact hlt
  have hget : ∀ k, (listed.setIfInBounds i true).getD k false = if k = i then true else listed.getD k false := fun k => by
    by_cases hk : k = i
    · subst hk; simp [hsz]
    · rw [if_neg hk, getD_set_ne false (fun e => hk e.symm)]
  have hB' := hB
  simp only [anyB, Bool.and_eq_true, decide_eq_true_eq] at hB'
  obtain ⟨⟨⟨⟨-, hnd⟩, -⟩, hne⟩, -⟩ := hB'
  refine ⟨by simp [h.size], fun k hk e he => ?_, fun e he => ?_, fun e he => ?_, hm, ?_, fun k hk d y hd' hy => ?_, fun t y hy hun => ?_⟩
  · rw [hget] at hk ⊢
    split
    · rfl
    · by_cases hki : k = i
      · subst hki; exact hdeps e he
      · rw [if_neg hki] at hk; exact h.closed k hk e he
  · rw [hget]
    split
    · rfl
    · rename_i hei
      split at hj
      · obtain ⟨h1, rfl⟩ := hj
        rw [List.take_add_one, List.mem_append, h1] at he
        rcases he with he | he
        · exact h.done e he
        · simp at he; exact absurd he hei
      · subst hj; exact h.done e he
  · rw [hget]
    have hmem : e ∈ effs.drop j ∧ e ≠ i := by
      split at hj
      · obtain ⟨h1, rfl⟩ := hj
        refine ⟨?_, fun e' => ?_⟩
        · obtain ⟨q, hq⟩ := List.getElem?_of_mem he
          rw [List.getElem?_drop] at hq
          rw [List.mem_iff_getElem?]
          exact ⟨q + 1, by rw [List.getElem?_drop, show j + (q + 1) = j + 1 + q by omega]; exact hq⟩
        · subst e'
          obtain ⟨q, hq⟩ := List.getElem?_of_mem he
          rw [List.getElem?_drop] at hq
          have := (List.getElem?_inj (List.getElem?_eq_some_iff.1 h1).1 hne).1 (h1.trans hq.symm)
          omega
      · rename_i hc
        subst hj
        refine ⟨he, fun e' => ?_⟩
        subst e'
        exact hc (by simpa using List.mem_of_mem_drop he)
    rw [if_neg hmem.2]; exact h.todo e hmem.1
  · have hr := h.rel.mem (m := m') H hn L
    cases hdst : o.dst with
    | none => exact hr
    | some d =>
      have hlt' : d < st.nt := by rw [hdst] at hd; exact Nat.le_of_ble_eq_true hd
      refine ⟨hr.h, hr.nx, by simp [Act.put, h.rel.nt], hr.df, fun t y hy => ?_⟩
      have h1 := hr.tm t y hy
      have h2 := (lk_drop _ _ _ hy).2
      simp only [Act.put]
      rw [getD_put (by rw [h.rel.nt]; exact hlt'), if_neg]
      · exact h1
      · intro e
        subst e
        exact h2 (by
          simp only [dstsOf, List.mem_filterMap, List.mem_range]
          exact ⟨i, hlt, by simp [dstOf, ho, hdst]⟩)
  · by_cases hki : k = i
    · subst hki
      rw [hx] at hy; cases hy
      have hdo : o.dst = some d := by simpa [dstOf, ho] using hd'
      have hlt' : d < a.tmps.size := by rw [hdo] at hd; rw [h.rel.nt]; exact Nat.le_of_ble_eq_true hd
      rw [hdo]
      simp only [Act.put]
      rw [getD_put hlt', if_pos rfl]
      exact hxv
    · rw [hget, if_neg hki] at hk
      have h1 := (h.fact k hk d y hd' hy).mono L
      cases hdst : o.dst with
      | none => exact h1
      | some d0 =>
        have hlt' : d0 < a.tmps.size := by rw [hdst] at hd; rw [h.rel.nt]; exact Nat.le_of_ble_eq_true hd
        simp only [Act.put]
        rw [getD_put hlt', if_neg]
        · exact h1
        · intro e
          subst e
          have hk' : k < ops.size := by
            rcases Nat.lt_or_ge k ops.size with h3 | h3
            · exact h3
            · simp [dstOf, Array.getElem?_eq_none h3] at hd'
          have hi' : dstOf ops i = some d0 := by simp [dstOf, ho, hdst]
          have hp : ∀ (l : List Nat), l.Nodup → (l.filterMap (dstOf ops)).Nodup → i ∈ l → k ∈ l → i = k := by
            intro l
            induction l with
            | nil => intro _ _ h; cases h
            | cons p l ih =>
              intro hl hf hi hk
              rw [List.nodup_cons] at hl
              rw [List.filterMap_cons] at hf
              rcases List.mem_cons.1 hi with rfl | hi2
              · rcases List.mem_cons.1 hk with rfl | hk2
                · rfl
                · rw [hi'] at hf
                  simp only [List.nodup_cons] at hf
                  exact absurd (List.mem_filterMap (l := l).2 ⟨k, hk2, hd'⟩) hf.1
              · rcases List.mem_cons.1 hk with rfl | hk2
                · rw [hd'] at hf
                  simp only [List.nodup_cons] at hf
                  exact absurd (List.mem_filterMap (l := l).2 ⟨i, hi2, hi'⟩) hf.1
                · refine ih hl.2 ?_ hi2 hk2
                  split at hf
                  · exact hf
                  · exact (List.nodup_cons.1 hf).2
          exact hki (hp (List.range ops.size) List.nodup_range hnd (by simpa using hlt) (by simpa using hk')).symm
  · have h1 := (h.old t y hy (fun k hk => by
      have := hun k hk
      rw [hget] at this
      split at this
      · cases this
      · exact this)).mono L
    cases hdst : o.dst with
    | none => exact h1
    | some d0 =>
      have hlt' : d0 < a.tmps.size := by rw [hdst] at hd; rw [h.rel.nt]; exact Nat.le_of_ble_eq_true hd
      simp only [Act.put]
      rw [getD_put hlt', if_neg]
      · exact h1
      · intro e
        subst e
        have := hun i (by simp [dstOf, ho, hdst])
        rw [hget, if_pos rfl] at this; cases this
def endSt (ops : Array Oper) (st : St) (fx : List (Nat × TV)) (m : Mem) : St := ⟨factsOf ops fx (List.range ops.size) ++ dropTm (dstsOf ops) st.tm, m.hp, m.tk, m.nx, st.nt, st.df⟩
theorem XC.anyOrder {ro : Option Nat} {n : Nat} {Q : Exit → Act → World → Prop} {id : Nat} {ops : Array Oper} {st : St} (fx : List (Nat × TV)) (effs : List Nat) (ms : List Mem) {mE : Mem} (hm : E.P.follows .mixedOrders = true) (hB : anyB ops effs = true) (h0 : ms[0]? = some st.mem) (hE : ms[effs.length]? = some mE)
    (hops : ∀ i j m, i < ops.size → j ≤ effs.length → ms[j]? = some m → mayAt ops effs i j = true → AnyOp E ops st fx effs ms i j m)
    (k : XQ E Q .normal (endSt ops st fx mE)) : XC E ro n Q (.region id ops true) st := by
  intro V a w hr
  refine wpIn_region_any hm ?_
  have hr' := hr.drew
  have hB' := hB
  simp only [anyB, Bool.and_eq_true, decide_eq_true_eq] at hB'
  obtain ⟨⟨⟨⟨hdag, -⟩, -⟩, -⟩, heff⟩ := hB'
  have hrdy : ∀ listed : Array Bool, listed.size = ops.size → Region.ready .any ops listed = [] → ∀ i, i < ops.size → listed.getD i false = true := by
    intro listed hsz hrd i
    induction i using Nat.strongRecOn with
    | ind i ih =>
      intro hi
      cases hc : listed.getD i false with
      | true => rfl
      | false =>
        exfalso
        have hnm : i ∉ Region.ready .any ops listed := by rw [hrd]; exact List.not_mem_nil
        refine hnm (mem_ready.2 ?_)
        obtain ⟨o, ho⟩ : ∃ o, ops[i]? = some o := ⟨_, Array.getElem?_eq_getElem hi⟩
        refine ⟨getD_in (by rw [hsz]; exact hi) hc, o, ho, fun e he hb => ?_⟩
        have hem : e.on ∈ edgesOf ops i := (mem_edges ho).2 ⟨e, he, hb, rfl⟩
        have hlt := List.all_eq_true.1 (List.all_eq_true.1 hdag i (by simpa using hi)) _ hem
        have hlt' : e.on < i := by simpa using hlt
        exact ih e.on hlt' (by omega)
  have fin : ∀ (listed : Array Bool) (a : Act) (w : World) (V : Vu) (j : Nat) (m : Mem), j ≤ effs.length → AnyInv E ops st fx effs ms listed a w V j m → (∀ i, i < ops.size → listed.getD i false = true) → Q .normal a w := by
    intro listed a w V j m hj hI hall
    have hjk : j = effs.length := by
      rcases Nat.lt_or_ge j effs.length with h1 | h1
      · exfalso
        have hmem : effs[j] ∈ effs.drop j := by rw [List.mem_iff_getElem?]; exact ⟨0, by rw [List.getElem?_drop]; simp [h1]⟩
        have h2 := hI.todo _ hmem
        have h3 := hall effs[j] (by simpa using List.all_eq_true.1 heff effs[j] (List.getElem_mem h1))
        rw [h2] at h3; cases h3
      · omega
    subst hjk
    have e1 : m = mE := Option.some.inj (hI.mem.symm.trans hE)
    subst e1
    refine k V a w ⟨hI.rel.h, hI.rel.nx, hI.rel.nt, hI.rel.df, fun t x hx => ?_⟩
    simp only [endSt, lk_append] at hx
    split at hx
    · rename_i y hy; cases hx
      obtain ⟨i, h1, h2, h3⟩ := lk_facts _ t x hy
      exact hI.fact i (hall i (by simpa using h1)) t x h2 h3
    · exact hI.rel.tm t x hx
  have main : ∀ (fuel : Nat) (listed : Array Bool) (a : Act) (w : World) (V : Vu) (j : Nat) (m : Mem), j ≤ effs.length → AnyInv E ops st fx effs ms listed a w V j m →
      (∀ c, ops.size ≤ fuel + c → c ≤ ((List.range ops.size).filter fun i => listed.getD i false).length → True) →
      ops.size ≤ fuel + ((List.range ops.size).filter fun i => listed.getD i false).length → wpAnyIn (FR ro) n E.P .any ops Q fuel listed a w := by
    intro fuel
    induction fuel with
    | zero =>
      intro listed a w V j m hj hI _ hc
      have hall : ∀ i, i < ops.size → listed.getD i false = true := by
        intro i hi
        have h1 : ((List.range ops.size).filter fun i => listed.getD i false).length = (List.range ops.size).length := by
          have := List.length_filter_le (fun i => listed.getD i false) (List.range ops.size)
          simp only [List.length_range] at this ⊢; omega
        exact List.length_filter_eq_length_iff.1 h1 i (by simpa using hi)
      refine ⟨?_, fin listed a w V j m hj hI hall⟩
      unfold Region.ready
      rw [List.filter_eq_nil_iff]
      intro i hi
      have hi' : i < ops.size := by simpa using hi
      have : listed.getD i true = true := by
        have h1 := hall i hi'
        have : i < listed.size := by rw [hI.size]; exact hi'
        simp [this] at h1 ⊢; exact h1
      rw [this]; simp
    | succ fuel ih =>
      intro listed a w V j m hj hI _ hc
      refine ⟨fun hrd => fin listed a w V j m hj hI (hrdy listed hI.size hrd), fun i hi => ?_⟩
      obtain ⟨hun, o, ho, hdeps⟩ := mem_ready.1 hi
      have hlt : i < ops.size := (Array.getElem?_eq_some_iff.1 ho).1
      have hno : listed.getD i false = false := by
        have : i < listed.size := by rw [hI.size]; exact hlt
        simp [this] at hun ⊢; exact hun
      have hd : ∀ k ∈ edgesOf ops i, listed.getD k false = true := fun k hk => by
        obtain ⟨e, he, hb, rfl⟩ := (mem_edges ho).1 hk
        exact hdeps e he hb
      have hmay := hI.may hB hlt hno hd
      obtain ⟨o', x, ho', hx, hdst, hcase⟩ := hops i j m hlt hj hI.mem hmay
      rw [ho] at ho'; cases ho'
      have hrel := hI.depsRel hno hd
      have hcnt : ops.size ≤ fuel + ((List.range ops.size).filter fun i' => (listed.setIfInBounds i true).getD i' false).length := by
        have h1 : ((List.range ops.size).filter fun i => listed.getD i false).length < ((List.range ops.size).filter fun i' => (listed.setIfInBounds i true).getD i' false).length := by
          have key : ∀ (l : List Nat), l.Nodup → i ∈ l → (l.filter fun i => listed.getD i false).length < (l.filter fun i' => (listed.setIfInBounds i true).getD i' false).length := by
            have hget : ∀ k, (listed.setIfInBounds i true).getD k false = if k = i then true else listed.getD k false := fun k => by
              by_cases hk : k = i
              · subst hk
                have : k < listed.size := by rw [hI.size]; exact hlt
                simp [this]
              · rw [if_neg hk, getD_set_ne false (fun e => hk e.symm)]
            have hle : ∀ (l : List Nat), (l.filter fun i => listed.getD i false).length ≤ (l.filter fun i' => (listed.setIfInBounds i true).getD i' false).length := by
              intro l
              induction l with
              | nil => exact Nat.le_refl _
              | cons p l ih =>
                rw [List.filter_cons, List.filter_cons, hget]
                by_cases hp : p = i
                · subst hp; rw [hno]; simp only [if_true]; rw [List.length_cons]; simp only [Bool.false_eq_true, if_false]; omega
                · rw [if_neg hp]; split <;> (try rw [List.length_cons, List.length_cons]) <;> omega
            intro l
            induction l with
            | nil => intro _ h; cases h
            | cons p l ih =>
              intro hnd' hi'
              rw [List.nodup_cons] at hnd'
              rw [List.filter_cons, List.filter_cons, hget]
              rcases List.mem_cons.1 hi' with rfl | hi'
              · rw [hno]; simp only [if_true, Bool.false_eq_true, if_false]; rw [List.length_cons]; have := hle l; omega
              · have := ih hnd'.2 hi'
                have hp : p ≠ i := fun e => hnd'.1 (by rw [e]; exact hi')
                rw [if_neg hp]; split <;> (try rw [List.length_cons, List.length_cons]) <;> omega
          exact key _ List.nodup_range (by simpa using hlt)
        omega
      unfold wpOpIn
      simp only [ho]
      rcases hcase with ⟨hw, m', hok, hm'⟩ | ⟨hw, rfl, hc'⟩
      · rw [if_pos (wanted_of hrel hw)]
        refine hok V a w hrel ro n _ Q (fun V' w' v H hn L hxv => ?_)
        by_cases hce : effs.contains i = true
        · rw [if_pos hce] at hm'
          have hej : effs[j]? = some i := by
            simp only [mayAt, Bool.and_eq_true, Bool.or_eq_true, Bool.not_eq_true', beq_iff_eq] at hmay
            rcases hmay.2 with h1 | h1
            · rw [hce] at h1; cases h1
            · exact h1
          refine ih _ _ _ V' (j + 1) m' (by have := (List.getElem?_eq_some_iff.1 hej).1; omega) (hI.step hB hlt hno ho hx hdst (by rw [if_pos hce]; exact ⟨hej, rfl⟩) hm' H hn L hxv hd) (fun _ _ _ => trivial) hcnt
        · rw [if_neg hce] at hm'
          subst hm'
          exact ih _ _ _ V' j m' hj (hI.step hB hlt hno ho hx hdst (by rw [if_neg hce]) hI.mem H hn L hxv hd) (fun _ _ _ => trivial) hcnt
      · rw [if_neg (by rw [wanted_of hrel hw]; exact Bool.false_ne_true)]
        exact ⟨fun _ _ => trivial, ih _ _ _ V j m hj (hI.step hB hlt hno ho hx hdst (by rw [if_neg (by rw [hc']; exact Bool.false_ne_true)]) hI.mem hI.rel.h hI.rel.nx (Vu.Le.refl _ _) und_rel hd) (fun _ _ _ => trivial) hcnt⟩
  refine main ops.size _ a _ V 0 st.mem (Nat.zero_le _) ⟨by simp, fun i hi => ?_, fun e he => by simp at he, fun e _ => getD_replicate_false _ _, h0, ⟨hr'.h, hr'.nx, hr'.nt, hr'.df, fun t y hy => hr'.tm t y (lk_drop _ _ _ hy).1⟩, fun i hi => ?_, fun t y hy _ => hr'.tm t y hy⟩ (fun _ _ _ => trivial) (by omega)
  · rw [getD_replicate_false] at hi; cases hi
  · rw [getD_replicate_false] at hi; cases hi
end
end Go.Proofs.YtcapifnaceegmaaGreatDoor
namespace Go.Proofs.YtcapifnaceegmaaGreatDoor
open Go.RowKit
set_option linter.unusedSimpArgs false
set_option linter.unusedVariables false
set_option linter.unusedSectionVars false
def evArgs (tm : List (Nat × TV)) : List Operand → Option (List AV)
  | [] => some []
  | o :: os => match ev tm o, evArgs tm os with
    | some (.v x), some xs => some (x :: xs)
    | _, _ => none
theorem evArgs_spec {tm : List (Nat × TV)} : ∀ {os : List Operand} {xs : List AV}, evArgs tm os = some xs → os.length = xs.length ∧ ∀ (i : Nat) (y : AV), xs[i]? = some y → ∃ o, os[i]? = some o ∧ ev tm o = some (.v y)
  | [], xs, h => by cases h; exact ⟨rfl, fun i y hy => by simp at hy⟩
  | o :: os, xs, h => by
    simp only [evArgs] at h
    split at h
    · rename_i x ys hx hys
      cases h
      obtain ⟨h1, h2⟩ := evArgs_spec hys
      refine ⟨by simp [h1], fun i y hy => ?_⟩
      cases i with
      | zero => simp at hy; subst hy; exact ⟨o, rfl, hx⟩
      | succ i => exact h2 i y (by simpa using hy)
    · cases h
def ptrs (caps : List (Nat × Nat)) : List AV := caps.map fun p => .one (.ptr p.1 p.2)
theorem args_rel {E : Env} {V : Vu} {st : St} {a : Act} {w : World} (hr : Rel E V st a w) {ars : Array Operand} {args : List AV} (ha : evArgs st.tm ars.toList = some args) : argsRel V w args (ars.map a.eval) := by
  obtain ⟨h1, h2⟩ := evArgs_spec ha
  refine ⟨by simpa using h1, fun i y hy => ?_⟩
  obtain ⟨o, h3, h4⟩ := h2 i y hy
  exact ⟨a.eval o, by simp at h3; simp [h3], hr.ev h4⟩
theorem argsRel.append {V : Vu} {w : World} {xs ys : List AV} {us vs : Array Value} (h : argsRel V w xs us) (k : argsRel V w ys vs) : argsRel V w (xs ++ ys) (us ++ vs) := by
  refine ⟨by simp [h.1, k.1], fun i y hy => ?_⟩
  by_cases hi : i < xs.length
  · rw [List.getElem?_append_left hi] at hy
    obtain ⟨u, h1, h2⟩ := h.2 i y hy
    exact ⟨u, by rw [Array.getElem?_append_left (by rw [h.1]; exact hi)]; exact h1, h2⟩
  · rw [List.getElem?_append_right (by omega)] at hy
    obtain ⟨u, h1, h2⟩ := k.2 _ y hy
    exact ⟨u, by rw [Array.getElem?_append_right (by rw [h.1]; omega), h.1]; exact h1, h2⟩
theorem ptrs_rel {V : Vu} {w : World} {caps : List (Nat × Nat)} (h : ∀ p ∈ caps, p.1 < V.nx) : argsRel V w (ptrs caps) (caps.map fun p => Value.pointer (some ⟨V.ι p.1, p.2, none⟩)).toArray := by
  refine ⟨by simp [ptrs], fun i y hy => ?_⟩
  simp only [ptrs, List.getElem?_map] at hy
  cases hi : caps[i]? with
  | none => rw [hi] at hy; cases hy
  | some p =>
    rw [hi] at hy; cases hy
    exact ⟨.pointer (some ⟨V.ι p.1, p.2, none⟩), by simp [hi], h p (List.mem_of_getElem? hi), rfl⟩
section
variable {E : Env} {st : St} {dd : Option Nat} {ty : TypeId} {pos : String} {af : Array Edge} {g : Option (Nat × Bool)}
theorem OpOK.call {x : Operand} {f : FuncId} {caps : List (Nat × Nat)} {ars : Array Operand} {args : List AV} {ats : Array TypeId} {res : TV} {m' : Mem} (hx : ev st.tm x = some (.v (.one (.fn f caps)))) (ha : evArgs st.tm ars.toList = some args)
    (hc : CallM E.P f (args ++ ptrs caps) st.mem res m') : OpOK E ⟨dd, .call { callee := .value x, args := ars, argTypes := ats }, ty, pos, af, g⟩ st res m' := by
  intro V a w hr ro n K Q hK
  refine ⟨fun _ _ => trivial, ?_⟩
  rw [Oper.semAt_eq _ _ _ (by intro c h; cases h)]
  obtain ⟨hv1, hv2⟩ := hr.ev hx
  have hrun : (execOp a.eval ⟨dd, .call { callee := .value x, args := ars, argTypes := ats }, ty, pos, af, g⟩).run E.P w = .ok (.enter f (ars.map a.eval ++ (caps.map fun p => Value.pointer (some ⟨V.ι p.1, p.2, none⟩)).toArray)) w := by
    have := hc.1 (ars.map a.eval ++ (caps.map fun p => Value.pointer (some ⟨V.ι p.1, p.2, none⟩)).toArray) w
    simp [execOp, resolve, hv2, Deferred.ofValue, invoke]
    simpa using this
  rw [hrun]
  refine ⟨(by intro h; cases h), ?_⟩
  have hc' : CallsIn Fence.wide (n - 1) E.P f _ w _ := callsIn_wide.2 (hc.2 E V w _ rfl hr.h hr.nx ((args_rel hr ha).append (ptrs_rel hv1)))
  refine CallsIn.mono (F := FR ro) hc' ?_
  rintro e w' ⟨v, V', rfl, H, hn, L, hres⟩
  exact hK V' w' v H hn L hres
def putArgs : List Nat → List AV → List (Nat × TV) → List (Nat × TV)
  | t :: ts, x :: xs, tm => putArgs ts xs ((t, .v x) :: dropK t tm)
  | _, _, tm => tm
theorem putArgs_rel {V : Vu} {w : World} : ∀ (ts : List Nat) (xs : List AV) (vs : List Value) (tm : List (Nat × TV)) (tmps : Array Value), xs.length = vs.length → (∀ (i : Nat) (y : AV), xs[i]? = some y → ∃ u, vs[i]? = some u ∧ y.rel V w u) → (∀ t ∈ ts, t < tmps.size) →
    (∀ t x, lk tm t = some x → x.rel V w (tmps.getD t undef)) → ((ts.zip vs).foldl (fun tmps (p : Nat × Value) => tmps.setIfInBounds p.1 p.2) tmps).size = tmps.size ∧ ∀ t x, lk (putArgs ts xs tm) t = some x → x.rel V w (((ts.zip vs).foldl (fun tmps (p : Nat × Value) => tmps.setIfInBounds p.1 p.2) tmps).getD t undef)
  | [], xs, vs, tm, tmps, _, _, _, h => by simpa [putArgs] using h
  | t :: ts, [], vs, tm, tmps, hl, _, _, h => by
    have : vs = [] := List.eq_nil_of_length_eq_zero (by simpa using hl.symm)
    subst this
    simpa [putArgs] using h
  | t :: ts, x :: xs, vs, tm, tmps, hl, hx, ht, h => by
    match vs, hl with
    | v :: vs, hl =>
      obtain ⟨u, hu, hxu⟩ := hx 0 x rfl
      simp at hu; subst hu
      have ht0 := ht t (by simp)
      have ih := putArgs_rel (V := V) (w := w) ts xs vs ((t, .v x) :: dropK t tm) (tmps.setIfInBounds t v) (by simpa using hl) (fun i y hy => by have := hx (i + 1) y (by simpa using hy); simpa using this) (fun t' ht' => by simpa using ht t' (by simp [ht'])) (fun t' y hy => by
        rw [lk_put, lk_cons] at hy
        rw [getD_put ht0]
        split at hy
        · rename_i e; subst e; cases hy; rw [if_pos rfl]; exact hxu
        · rename_i e; rw [if_neg e]; exact h t' y hy)
      simp only [List.zip_cons_cons, List.foldl_cons, putArgs]
      exact ⟨by rw [ih.1]; simp, ih.2⟩
def jumpOf : Exit → Option (Option Code)
  | .normal => some none
  | .ret => some (some .ret)
  | .exit id => some (some (.exit id))
  | _ => none
theorem run_yieldOp {P : Program} {o : Oper} {x : Operand} {ars : Array Operand} {ats : Array TypeId} {ρ : Operand → Value} {l : Nat} {r : Loop} {w : World} (ho : o.op = .call { callee := .value x, args := ars, argTypes := ats }) (hx : ρ x = .func (.yield l) #[] #[]) (hl : w.heap[l]? = some (.loop r)) (hs : ars.size = r.params.size) :
    (execOp ρ o).run P w = .ok (.round l r.fn ((r.params.zip (ars.map ρ)).foldl (fun tmps (t, a) => tmps.setIfInBounds t a) r.tmps) r.assign r.body) w := by
  have := run_yield (P := P) (args := ars.map ρ) hl (by simpa using hs)
  simp only [execOp, ho, resolve, hx, Deferred.ofValue, Sem.run_bind, Sem.run_pure, Result.andThen_ok, invoke, Array.empty_append]
  exact this
theorem OpOK.yield {x : Operand} {L : Nat} {ars : Array Operand} {args : List AV} {ats : Array TypeId} {p0 p1 p2 : Option Code} {tm0 tm1 tm2 : List (Nat × TV)} {nt0 nt1 nt2 : Nat} {ps0 ps1 ps2 : Array Nat} {as0 as1 as2 bd0 bd1 bd2 : Code} {D0 D1 D2 : Nat} {sa sb : St} {e : Exit} {jump : Option Code}
    (hx : ev st.tm x = some (.v (.one (.yld L)))) (ha : evArgs st.tm ars.toList = some args) (hL : lk st.hp L = some (.loop .ready p0 tm0 nt0 ps0 as0 bd0 D0)) (hlen : ars.size = ps0.size) (hps : ps0.toList.all (fun t => Nat.blt t nt0) = true)
    (h1 : ExecOK E.P (some L) as0 ⟨putArgs ps0.toList args tm0, st.hp, st.tk, st.nx, nt0, []⟩ .normal sa)
    (h2 : lk sa.hp L = some (.loop .ready p1 tm1 nt1 ps1 as1 bd1 D1))
    (h3 : ExecOK E.P (some L) bd0 ⟨sa.tm, (L, .loop .busy p1 tm1 nt1 ps1 as1 bd1 D1) :: dropK L sa.hp, sa.tk, sa.nx, sa.nt, sa.df⟩ e sb)
    (h4 : lk sb.hp L = some (.loop .busy p2 tm2 nt2 ps2 as2 bd2 D2)) (he : jumpOf e = some jump) :
    OpOK E ⟨dd, .call { callee := .value x, args := ars, argTypes := ats }, ty, pos, af, g⟩ st (TB jump.isNone) ⟨(L, .loop (if jump.isNone then .ready else .done) jump tm2 nt2 ps2 as2 bd2 D2) :: dropK L sb.hp, sb.tk, sb.nx⟩ := by
  intro V a w hr ro n K Q hK
  refine ⟨fun _ _ => trivial, ?_⟩
  rw [Oper.semAt_eq _ _ _ (by intro c h; cases h)]
  obtain ⟨hLnx, hv⟩ := hr.ev hx
  obtain ⟨-, ob, hob, hD, fn, tmps, rfl, hsz, htm⟩ := hr.h.own L _ hL
  rw [run_yieldOp rfl hv hob hlen]
  refine ⟨(by intro h; cases h), ?_⟩
  have har := args_rel hr ha
  obtain ⟨hal, -⟩ := evArgs_spec ha
  have hput := putArgs_rel (V := V) (w := w) ps0.toList args (ars.map a.eval).toList tm0 tmps (by simpa using hal.symm) (fun i y hy => by
    obtain ⟨u, hu1, hu2⟩ := har.2 i y hy
    exact ⟨u, by simpa using hu1, hu2⟩) (fun t ht => by rw [hsz]; exact Nat.le_of_ble_eq_true (List.all_eq_true.1 hps t ht)) htm
  have hfold : (ps0.zip (ars.map a.eval)).foldl (fun tmps (x : Nat × Value) => tmps.setIfInBounds x.1 x.2) tmps = (ps0.toList.zip (ars.map a.eval).toList).foldl (fun tmps (p : Nat × Value) => tmps.setIfInBounds p.1 p.2) tmps := by
    rw [← Array.foldl_toList, Array.toList_zip]
  refine roundIn_of_wpIn (F := FR ro) trivial ?_
  have hR0 : Rel (E.at V w) V ⟨putArgs ps0.toList args tm0, st.hp, st.tk, st.nx, nt0, []⟩ { tmps := (ps0.zip (ars.map a.eval)).foldl (fun tmps (x : Nat × Value) => tmps.setIfInBounds x.1 x.2) tmps, defers := [] } w :=
    ⟨hr.h.rebase, hr.nx, by rw [hfold, hput.1]; exact hsz, dfRel.nil, fun t y hy => by rw [hfold]; exact hput.2 t y hy⟩
  refine h1 (E.at V w) (some (V.ι L)) (n - 1) _ rfl ⟨hLnx, rfl⟩ ?_ V _ w hR0
  intro V1 a1 w1 hr1
  obtain ⟨hL1, ob1, hob1, hD1, fn1, tmps1, rfl, hsz1, htm1⟩ := hr1.h.own L _ h2
  have hι1 : V1.ι L = V.ι L := hr1.h.le0.ι L hLnx
  have hb := run_beginRound (P := E.P) hob1 rfl
  rw [hι1] at hb hob1
  refine ⟨_, hb, ?_⟩
  obtain ⟨H2, L2⟩ := hr1.h.putObj (o' := .loop { state := .busy, pending := p1, fn := fn1, tmps := tmps1, params := ps1, assign := as1, body := bd1, defers := V1.ι D1 }) (B' := .loop .busy p1 tm1 nt1 ps1 as1 bd1 D1) h2 (fun hle => ⟨hD1, fn1, tmps1, rfl, hsz1, fun t y hy => (htm1 t y hy).mono hle⟩)
  rw [hι1] at H2 L2
  have hR1 : Rel (E.at V w) V1 ⟨sa.tm, (L, .loop .busy p1 tm1 nt1 ps1 as1 bd1 D1) :: dropK L sa.hp, sa.tk, sa.nx, sa.nt, sa.df⟩ a1 _ :=
    ⟨H2.congr (fun j => lk_put L _ sa.hp j) (fun _ => rfl), hr1.nx, hr1.nt, hr1.df.le L2, fun t y hy => (hr1.tm t y hy).mono L2⟩
  refine h3 (E.at V w) (some (V.ι L)) (n - 1) _ rfl ⟨hLnx, rfl⟩ ?_ V1 a1 _ hR1
  intro V3 a3 w3 hr3
  obtain ⟨hL3, ob3, hob3, hD3, fn3, tmps3, rfl, hsz3, htm3⟩ := hr3.h.own L _ h4
  have hι3 : V3.ι L = V.ι L := hr3.h.le0.ι L hLnx
  have fin : ∃ v w', (Instr.endRound (V.ι L) jump).run E.P w3 = .ok v w' ∧ K (a.put dd v) w' := by
    have hb := run_endRound (P := E.P) jump hob3
    obtain ⟨H4, L4⟩ := hr3.h.putObj (o' := .loop { state := if jump.isNone then .ready else .done, pending := jump, fn := fn3, tmps := tmps3, params := ps2, assign := as2, body := bd2, defers := V3.ι D2 }) (B' := .loop (if jump.isNone then .ready else .done) jump tm2 nt2 ps2 as2 bd2 D2) h4 (fun hle => ⟨hD3, fn3, tmps3, rfl, hsz3, fun t y hy => (htm3 t y hy).mono hle⟩)
    obtain ⟨H5, L5⟩ := hr.h.back H4
    rw [hι3] at hb
    rw [hι3] at H5 L5
    refine ⟨_, _, hb, hK V3 _ _ (H5.congr (fun j => lk_put L _ sb.hp j) (fun _ => rfl)) hr3.nx L5 (rel_of rfl)⟩
  cases e with
  | normal => cases he; exact fin
  | ret => cases he; exact fin
  | exit id => cases he; exact fin
  | goto t => cases he
  | panic c => cases he
  | outgrown => cases he
end
def takeMarks : List Nat → List (Nat × HB) → Option (List (Nat × HB))
  | [], hp => some hp
  | D :: ds, hp => match lk hp D with
    | some (.obj (.deferred (some []))) => takeMarks ds (dropK D hp)
    | _ => none
theorem HRel.drop {E : Env} {V : Vu} {hp : List (Nat × HB)} {tk : List (Nat × Option Tok)} {w : World} (h : HRel E V hp tk w) (i : Nat) : HRel E V (dropK i hp) tk w := h.forget (fun j B hj => (lk_dropK_some hj).1) (fun j T hj => hj)
theorem leaves_marks {E : Env} {V : Vu} {tk : List (Nat × Option Tok)} {n : Nat} {P : Program} {fn : Func} {tmps : Array Value} {R : Ending → World → Prop} : ∀ (df : List Nat) (ds : List Deferred) (hp hp' : List (Nat × HB)) (w : World), HRel E V hp tk w → dfRel V df ds → takeMarks df hp = some hp' →
    (∀ w', HRel E V hp' tk w' → V.Le V w w' → ∃ v, (results fn tmps).run P w' = .ok v w' ∧ R (.returned v) w') → LeavesInM Fence.wide n P fn tmps R ds .returning w
  | [], ds, hp, hp', w, h, hd, ht, hK => by
    rw [show ds = [] from hd.2]
    cases ht
    exact hK w h (Vu.Le.refl _ _)
  | D :: df, ds, hp, hp', w, h, hd, ht, hK => by
    rw [show ds = _ from hd.2]
    simp only [takeMarks] at ht
    split at ht
    · rename_i hD
      obtain ⟨hDn, o, ho, hrel⟩ := h.own D _ hD
      have ho' : o = .deferred (some []) := hrel
      subst ho'
      refine ⟨by simp, .inl ⟨V.ι D, _, rfl, run_takeDeferred ho, ?_⟩⟩
      obtain ⟨H, L⟩ := h.putObj (o' := .deferred none) (B' := .obj (.deferred none)) hD (fun _ => rfl)
      refine leaves_marks df _ _ hp' _ ((H.drop D).congr (hp' := dropK D hp) (fun j => ?_) (fun _ => rfl)) ⟨fun i hi => hd.1 i (by simp [hi]), rfl⟩ ht (fun w' hw' L' => hK w' hw' (L.trans L'))
      rw [lk_dropK, lk_dropK, lk_cons]
      split
      · rfl
      · rename_i e; rw [if_neg (fun e' => e e'.symm)]
    · cases ht
inductive RAs (P : Program) (st : St) : List ResultVar → List AV → Prop
  | nil : RAs P st [] []
  | cons {r : ResultVar} {rs : List ResultVar} {x : AV} {xs : List AV} (h : ∀ E : Env, E.P = P → RA E st r x) (t : RAs P st rs xs) : RAs P st (r :: rs) (x :: xs)
def resOf : List AV → TV
  | [x] => .v x
  | xs => .tup xs
theorem RAs.get {P : Program} {st : St} : ∀ {rs : List ResultVar} {xs : List AV}, RAs P st rs xs → ∀ {E : Env} {V : Vu} {a : Act} {w : World}, E.P = P → Rel E V st a w → ∃ us : List Value, rs.length = us.length ∧ us.length = xs.length ∧
    (∀ (i : Nat) (r : ResultVar), rs[i]? = some r → ∃ u, us[i]? = some u ∧ loadR P a.tmps w u r) ∧ ∀ (i : Nat) (x : AV) (u : Value), xs[i]? = some x → us[i]? = some u → x.rel V w u := by
  intro rs xs h
  induction h with
  | nil => intro E V a w _ _; exact ⟨[], rfl, rfl, fun i r hr => by simp at hr, fun i x u hx => by simp at hx⟩
  | cons h t ih =>
    intro E V a w hP hr
    obtain ⟨us, h1, h2, h3, h4⟩ := ih hP hr
    obtain ⟨u, h5, h6⟩ := h E hP V a w hr
    refine ⟨u :: us, by simp [h1], by simp [h2], fun i r hi => ?_, fun i x u' hx hu' => ?_⟩
    · cases i with
      | zero => simp at hi; subst hi; exact ⟨u, rfl, by rw [← hP]; exact h5⟩
      | succ i => exact h3 i r (by simpa using hi)
    · cases i with
      | zero => simp at hx hu'; subst hx; subst hu'; exact h6
      | succ i => exact h4 i x u' (by simpa using hx) (by simpa using hu')
theorem results_run {P : Program} {fn : Func} {st : St} {xs : List AV} {E : Env} {V : Vu} {a : Act} {w : World} (h : RAs P st fn.results.toList xs) (hP : E.P = P) (hr : Rel E V st a w) : ∃ v, (results fn a.tmps).run P w = .ok v w ∧ (resOf xs).rel V w v := by
  obtain ⟨us, h1, h2, h3, h4⟩ := h.get hP hr
  by_cases hn : us.length = 1
  · obtain ⟨u, rfl⟩ : ∃ u, us = [u] := by match us, hn with | [u], _ => exact ⟨u, rfl⟩
    obtain ⟨x, rfl⟩ : ∃ x, xs = [x] := by match xs, h2 with | [x], _ => exact ⟨x, rfl⟩
    obtain ⟨r, hrr⟩ : ∃ r, fn.results.toList = [r] := by match hq : fn.results.toList, h1 with | [r], _ => exact ⟨r, rfl⟩
    obtain ⟨u', hu', hl⟩ := h3 0 r (by rw [hrr]; rfl)
    simp at hu'; subst hu'
    have hre : fn.results = #[r] := by apply Array.ext'; simpa using hrr
    refine ⟨u, ?_, h4 0 x u rfl rfl⟩
    cases r with
    | tmp t =>
      have e1 : a.tmps.getD t undef = u := hl
      simp only [Array.getD_eq_getD_getElem?] at e1
      simp [results, hre, e1]
    | cell ad t =>
      obtain ⟨p, e1, e2⟩ := hl
      simp only [Array.getD_eq_getD_getElem?] at e1
      simp [results, hre, e1, e2, asAddr]
  · refine ⟨_, results_of rfl h1 h3 hn, ?_⟩
    have : resOf xs = .tup xs := by
      match xs, h2 with
      | [], _ => rfl
      | [x], h2 => simp at h2; exact absurd h2 hn
      | x :: y :: l, _ => rfl
    rw [this]
    exact tup_rel h2 h4
theorem CallM.of_exec {P : Program} {f : FuncId} {fn : Func} {c : Code} {args : List AV} {m : Mem} {st' : St} {e : Exit} {hp' : List (Nat × HB)} {xs : List AV} (hf : P.funcs[f]? = some fn) (hb : fn.body = some c) (hen : Enters P f) (hnt : args.length ≤ fn.ntmps)
    (h : ExecOK P none c ⟨entry 0 args, m.hp, m.tk, m.nx, fn.ntmps, []⟩ e st') (he : e = .normal ∨ e = .ret) (hdf : takeMarks st'.df st'.hp = some hp') (hres : RAs P ⟨st'.tm, hp', st'.tk, st'.nx, st'.nt, []⟩ fn.results.toList xs) :
    CallM P f args m (resOf xs) ⟨hp', st'.tk, st'.nx⟩ := by
  refine ⟨hen, fun E V w vs hP H hn hargs => ?_⟩
  refine (callsIn_wide (n := 0)).1 (callsIn_of_wp_marks (F := Fence.wide) hf hb trivial ?_)
  have hR0 : Rel (E.at V w) V ⟨entry 0 args, m.hp, m.tk, m.nx, fn.ntmps, []⟩ { tmps := vs ++ Array.replicate (fn.ntmps - vs.size) undef, defers := [] } w := by
    refine ⟨H.rebase, hn, by simp [hargs.1]; omega, dfRel.nil, fun t x hx => ?_⟩
    obtain ⟨k, y, h1, h2, rfl⟩ := lk_entry args 0 t x hx
    obtain ⟨u, hu, hy⟩ := hargs.2 k y h2
    have hk : k < vs.size := (Array.getElem?_eq_some_iff.1 hu).1
    have : (vs ++ Array.replicate (fn.ntmps - vs.size) undef).getD t undef = u := by
      rw [show t = k by omega, Array.getD_eq_getD_getElem?, Array.getElem?_append_left hk, hu]; rfl
    rw [this]; exact hy
  have key : ∀ (V1 : Vu) (a1 : Act) (w1 : World), Rel (E.at V w) V1 st' a1 w1 → LeavesInM Fence.wide 0 P fn a1.tmps (fun e w' => ∃ v V', e = .returned v ∧ HRel E V' hp' st'.tk w' ∧ V'.nx = st'.nx ∧ V.Le V' w w' ∧ (resOf xs).rel V' w' v) a1.defers .returning w1 := by
    intro V1 a1 w1 hr1
    refine leaves_marks st'.df a1.defers st'.hp hp' w1 hr1.h hr1.df hdf (fun w' H' L' => ?_)
    have hr' : Rel (E.at V w) V1 ⟨st'.tm, hp', st'.tk, st'.nx, st'.nt, []⟩ { tmps := a1.tmps, defers := [] } w' := ⟨H', hr1.nx, hr1.nt, dfRel.nil, fun t x hx => (hr1.tm t x hx).mono L'⟩
    obtain ⟨v, h1, h2⟩ := results_run (E := E.at V w) hres hP hr'
    obtain ⟨H5, L5⟩ := H.back H'
    exact ⟨v, h1, v, V1, rfl, H5, hr1.nx, L5, h2⟩
  have := h (E.at V w) none 0 (bodyPostM Fence.wide 0 P fn (fun e w' => ∃ v V', e = .returned v ∧ HRel E V' hp' st'.tk w' ∧ V'.nx = st'.nx ∧ V.Le V' w w' ∧ (resOf xs).rel V' w' v)) hP rfl (by
    rcases he with rfl | rfl
    · exact key
    · exact key) V _ w hR0
  rw [show (E.at V w).P = P from hP] at this
  exact this
theorem rangeFunc_out {P : Program} {g : Operand} {ps : Array Nat} {assign body : Code} {st : St} {gf : FuncId} {caps : List (Nat × Nat)} {res : TV} {m2 : Mem} {s : LoopState} {jump : Option Code} {e : Exit} {tm2 : List (Nat × TV)} {nt2 : Nat} {ps2 : Array Nat} {as2 bd2 : Code} {D2 : Nat}
    (hg : ev st.tm g = some (.v (.one (.fn gf caps))))
    (hc : CallM P gf (.one (.yld (st.nx + 1)) :: ptrs caps) ⟨(st.nx + 1, .loop .ready none st.tm st.nt ps assign body st.nx) :: (st.nx, .obj (.deferred (some []))) :: st.hp, st.tk, st.nx + 2⟩ res m2)
    (hL : lk m2.hp (st.nx + 1) = some (.loop s jump tm2 nt2 ps2 as2 bd2 D2)) (hs : s ≠ .busy) (he : jumpOf e = some jump) :
    ExecOK P none (.rangeFunc g ps assign body) st e ⟨st.tm, dropK (st.nx + 1) m2.hp, m2.tk, m2.nx, st.nt, st.nx :: st.df⟩ := by
  intro E ro n Q hP hro hQ V a w hr
  subst hP
  cases hro
  refine wpIn_rangeFunc (fun fn _ => ?_)
  obtain ⟨hv1, hv2⟩ := hr.ev hg
  have H1 := hr.h.addOwn (.deferred (some [])) (.obj (.deferred (some []))) rfl
  have L1 := hr.h.le (w' := w.alloc (.deferred (some []))) ⟨rfl, rfl, rfl, by simp, fun k hk _ => Below.heap_alloc w _ k hk⟩ (V.add_grow w.heap.size hr.h.sz ⟨rfl, rfl, rfl, by simp, fun k hk _ => Below.heap_alloc w _ k hk⟩)
  have L2 := H1.le (w' := (w.alloc (.deferred (some []))).alloc (.loop { state := .ready, pending := none, fn := fn, tmps := a.tmps, params := ps, assign := assign, body := body, defers := w.heap.size })) ⟨rfl, rfl, rfl, by simp, fun k hk _ => Below.heap_alloc _ _ k hk⟩ (Vu.add_grow _ (w.alloc (.deferred (some []))).heap.size H1.sz ⟨rfl, rfl, rfl, by simp, fun k hk _ => Below.heap_alloc _ _ k hk⟩)
  have hι : ((V.add w.heap.size).add (w.alloc (.deferred (some []))).heap.size).ι V.nx = w.heap.size := by
    rw [L2.ι V.nx (Nat.lt_succ_self _), V.add_at]
  have H2 := H1.addOwn (.loop { state := .ready, pending := none, fn := fn, tmps := a.tmps, params := ps, assign := assign, body := body, defers := w.heap.size }) (.loop .ready none st.tm st.nt ps assign body V.nx)
    ⟨Nat.lt_of_lt_of_le (Nat.lt_succ_self _) (Nat.le_succ _), fn, a.tmps, by rw [hι], hr.nt, fun t x hx => ((hr.tm t x hx).mono L1).mono L2⟩
  have L12 := L1.trans L2
  generalize hV2 : (V.add w.heap.size).add (w.alloc (.deferred (some []))).heap.size = V2 at H2 L2 L12 hι
  have hnx2 : V2.nx = st.nx + 2 := by rw [← hV2]; show V.nx + 1 + 1 = _; rw [hr.nx]
  have hιL : V2.ι (V.nx + 1) = w.heap.size + 1 := by
    rw [← hV2]
    have := (V.add w.heap.size).add_at (w.alloc (.deferred (some []))).heap.size
    rw [World.size_alloc] at this
    rw [World.size_alloc]; exact this
  have hcl : (V.add w.heap.size).nx = V.nx + 1 := rfl
  rw [hcl] at H2
  rw [hr.nx] at H2 hιL hι
  obtain ⟨W2, hW2⟩ : ∃ W2, (w.alloc (.deferred (some []))).alloc (.loop { state := .ready, pending := none, fn := fn, tmps := a.tmps, params := ps, assign := assign, body := body, defers := w.heap.size }) = W2 := ⟨_, rfl⟩
  rw [hW2] at H2 L12
  refine ⟨w.heap.size + 1, [{ target := .collected w.heap.size, args := #[] }], W2, { target := .fn (.func gf) (caps.map fun p => Value.pointer (some ⟨V.ι p.1, p.2, none⟩)).toArray, args := #[.func (.yield (w.heap.size + 1)) #[] #[]] }, W2, gf,
    #[.func (.yield (w.heap.size + 1)) #[] #[]] ++ (caps.map fun p => Value.pointer (some ⟨V.ι p.1, p.2, none⟩)).toArray, W2, ?_, ?_, ?_, ?_, (by intro h; cases h), ?_⟩
  · rw [← hW2]; exact run_enterLoop_outer fn a.tmps ps assign body
  · simp only [resolve, hv2]
    simp [go_sem]
  · exact fun _ _ => trivial
  · have := hc.1 (#[.func (.yield (w.heap.size + 1)) #[] #[]] ++ (caps.map fun p => Value.pointer (some ⟨V.ι p.1, p.2, none⟩)).toArray) W2
    simp only [invoke]; exact this
  · have hargs : argsRel V2 W2 (.one (.yld (st.nx + 1)) :: ptrs caps) (#[.func (.yield (w.heap.size + 1)) #[] #[]] ++ (caps.map fun p => Value.pointer (some ⟨V.ι p.1, p.2, none⟩)).toArray) := by
      have h1 : argsRel V2 W2 [.one (.yld (st.nx + 1))] #[.func (.yield (w.heap.size + 1)) #[] #[]] := ⟨rfl, fun i y hy => by
        match i, hy with
        | 0, hy => cases hy; exact ⟨_, rfl, by rw [hnx2]; omega, by rw [hιL]; rfl⟩⟩
      have h2 : argsRel V2 W2 (ptrs caps) (caps.map fun p => Value.pointer (some ⟨V.ι p.1, p.2, none⟩)).toArray := by
        have h3 := ptrs_rel (V := V2) (w := W2) (caps := caps) (fun p hp => Nat.lt_of_lt_of_le (hv1 p hp) L12.nx)
        rw [List.map_congr_left (g := fun p => Value.pointer (some ⟨V.ι p.1, p.2, none⟩)) (fun p hp => by rw [L12.ι p.1 (hv1 p hp)])] at h3
        exact h3
      exact h1.append h2
    have hcall := hc.2 E V2 W2 _ rfl H2 hnx2 hargs
    have hcall' : CallsIn Fence.wide (n - 1) E.P gf _ W2 _ := callsIn_wide.2 hcall
    refine CallsIn.mono (F := FR none) hcall' ?_
    rintro e' w3 ⟨v, V3, rfl, H3, hn3, L3, -⟩
    obtain ⟨hL3, ob3, hob3, hD3, fn3, tmps3, rfl, hsz3, htm3⟩ := H3.own _ _ hL
    have hι3 : V3.ι (st.nx + 1) = w.heap.size + 1 := by rw [L3.ι _ (by rw [hnx2]; omega)]; exact hιL
    have hend := run_endLoop (P := E.P) hob3 hs
    obtain ⟨H4, L4⟩ := H3.putObj (o' := .loop { state := .exhausted, pending := jump, fn := fn3, tmps := tmps3, params := ps2, assign := as2, body := bd2, defers := V3.ι D2 }) (B' := .loop .exhausted jump tm2 nt2 ps2 as2 bd2 D2) hL (fun hle => ⟨hD3, fn3, tmps3, rfl, hsz3, fun t y hy => (htm3 t y hy).mono hle⟩)
    rw [hι3] at hend H4 L4
    have hR : Rel E V3 ⟨st.tm, dropK (st.nx + 1) m2.hp, m2.tk, m2.nx, st.nt, st.nx :: st.df⟩ { a with defers := [{ target := .collected w.heap.size, args := #[] }] ++ a.defers } (w3.putObj (w.heap.size + 1) (.loop { state := .exhausted, pending := jump, fn := fn3, tmps := tmps3, params := ps2, assign := as2, body := bd2, defers := V3.ι D2 })) := by
      have L := (L12.trans L3).trans L4
      have hd := hr.df.le L
      refine ⟨(H4.drop (st.nx + 1)).congr (fun j => ?_) (fun _ => rfl), hn3, hr.nt, ⟨fun i hi => ?_, ?_⟩, fun t x hx => (hr.tm t x hx).mono L⟩
      · rw [lk_dropK, lk_dropK, lk_cons]
        split
        · rfl
        · rename_i e; rw [if_neg (fun e' => e e'.symm)]
      · rcases List.mem_cons.1 hi with rfl | hi
        · have := L3.nx; rw [hnx2] at this; omega
        · exact hd.1 i hi
      · have e1 : V3.ι st.nx = w.heap.size := by rw [L3.ι _ (by rw [hnx2]; omega)]; exact hι
        simp only [List.map_cons, e1, List.cons_append, List.nil_append]
        rw [hd.2]
    refine ⟨jump, _, hend, ?_⟩
    cases e with
    | normal => cases he; exact hQ V3 _ _ hR
    | ret => cases he; exact wpIn_ret (hQ V3 _ _ hR)
    | exit id => cases he; exact wpIn_exit (hQ V3 _ _ hR)
    | goto t => cases he
    | panic c => cases he
    | outgrown => cases he
theorem rangeFunc_in {P : Program} {g : Operand} {ps : Array Nat} {assign body : Code} {st : St} {gf : FuncId} {caps : List (Nat × Nat)} {res : TV} {m2 : Mem} {s s0 : LoopState} {jump p0 : Option Code} {e : Exit} {tm2 tm0 : List (Nat × TV)} {nt2 nt0 : Nat} {ps2 ps0 : Array Nat} {as2 bd2 as0 bd0 : Code} {D2 D0 L0 : Nat}
    (hg : ev st.tm g = some (.v (.one (.fn gf caps)))) (h0 : lk st.hp L0 = some (.loop s0 p0 tm0 nt0 ps0 as0 bd0 D0))
    (hc : CallM P gf (.one (.yld st.nx) :: ptrs caps) ⟨(st.nx, .loop .ready none st.tm st.nt ps assign body D0) :: st.hp, st.tk, st.nx + 1⟩ res m2)
    (hL : lk m2.hp st.nx = some (.loop s jump tm2 nt2 ps2 as2 bd2 D2)) (hs : s ≠ .busy) (he : jumpOf e = some jump) :
    ExecOK P (some L0) (.rangeFunc g ps assign body) st e ⟨st.tm, dropK st.nx m2.hp, m2.tk, m2.nx, st.nt, st.df⟩ := by
  intro E ro n Q hP hro hQ V a w hr
  subst hP
  obtain ⟨hL0, rfl⟩ := hro
  refine wpIn_rangeFunc (fun fn _ => ?_)
  obtain ⟨hv1, hv2⟩ := hr.ev hg
  obtain ⟨-, ob0, hob0, hD0, fn0, tmps0, rfl, hsz0, htm0⟩ := hr.h.own L0 _ h0
  have hι0 : V.ι L0 = E.V0.ι L0 := hr.h.le0.ι L0 hL0
  have H1 := hr.h.addOwn (.loop { state := .ready, pending := none, fn := fn, tmps := a.tmps, params := ps, assign := assign, body := body, defers := V.ι D0 }) (.loop .ready none st.tm st.nt ps assign body D0)
    (by
      have L1 := hr.h.le (w' := w.alloc (.loop { state := .ready, pending := none, fn := fn, tmps := a.tmps, params := ps, assign := assign, body := body, defers := V.ι D0 })) ⟨rfl, rfl, rfl, by simp, fun k hk _ => Below.heap_alloc w _ k hk⟩ (V.add_grow w.heap.size hr.h.sz ⟨rfl, rfl, rfl, by simp, fun k hk _ => Below.heap_alloc w _ k hk⟩)
      exact ⟨Nat.lt_of_lt_of_le hD0 L1.nx, fn, a.tmps, by rw [L1.ι D0 hD0], hr.nt, fun t x hx => (hr.tm t x hx).mono L1⟩)
  have L1 := hr.h.le (w' := w.alloc (.loop { state := .ready, pending := none, fn := fn, tmps := a.tmps, params := ps, assign := assign, body := body, defers := V.ι D0 })) ⟨rfl, rfl, rfl, by simp, fun k hk _ => Below.heap_alloc w _ k hk⟩ (V.add_grow w.heap.size hr.h.sz ⟨rfl, rfl, rfl, by simp, fun k hk _ => Below.heap_alloc w _ k hk⟩)
  have hιL : (V.add w.heap.size).ι V.nx = w.heap.size := V.add_at _
  generalize hV2 : V.add w.heap.size = V2 at H1 L1 hιL
  have hnx2 : V2.nx = st.nx + 1 := by rw [← hV2]; show V.nx + 1 = _; rw [hr.nx]
  rw [hr.nx] at H1 hιL
  obtain ⟨W2, hW2⟩ : ∃ W2, w.alloc (.loop { state := .ready, pending := none, fn := fn, tmps := a.tmps, params := ps, assign := assign, body := body, defers := V.ι D0 }) = W2 := ⟨_, rfl⟩
  rw [hW2] at H1 L1
  refine ⟨w.heap.size, [], W2, { target := .fn (.func gf) (caps.map fun p => Value.pointer (some ⟨V.ι p.1, p.2, none⟩)).toArray, args := #[.func (.yield w.heap.size) #[] #[]] }, W2, gf,
    #[.func (.yield w.heap.size) #[] #[]] ++ (caps.map fun p => Value.pointer (some ⟨V.ι p.1, p.2, none⟩)).toArray, W2, ?_, ?_, ?_, ?_, (by intro h; cases h), ?_⟩
  · rw [← hW2]
    rw [hι0] at hob0
    unfold Instr.enterLoop
    simp only [FR, Sem.run_bind, run_getLoop hob0, run_newObj_alloc, Result.andThen, Sem.run_pure]
  · simp only [resolve, hv2]
    simp [go_sem]
  · exact fun _ _ => trivial
  · have := hc.1 (#[.func (.yield w.heap.size) #[] #[]] ++ (caps.map fun p => Value.pointer (some ⟨V.ι p.1, p.2, none⟩)).toArray) W2
    simp only [invoke]; exact this
  · have hargs : argsRel V2 W2 (.one (.yld st.nx) :: ptrs caps) (#[.func (.yield w.heap.size) #[] #[]] ++ (caps.map fun p => Value.pointer (some ⟨V.ι p.1, p.2, none⟩)).toArray) := by
      have h1 : argsRel V2 W2 [.one (.yld st.nx)] #[.func (.yield w.heap.size) #[] #[]] := ⟨rfl, fun i y hy => by
        match i, hy with
        | 0, hy => cases hy; exact ⟨_, rfl, by rw [hnx2]; omega, by rw [hιL]; rfl⟩⟩
      have h2 : argsRel V2 W2 (ptrs caps) (caps.map fun p => Value.pointer (some ⟨V.ι p.1, p.2, none⟩)).toArray := by
        have h3 := ptrs_rel (V := V2) (w := W2) (caps := caps) (fun p hp => Nat.lt_of_lt_of_le (hv1 p hp) L1.nx)
        rw [List.map_congr_left (g := fun p => Value.pointer (some ⟨V.ι p.1, p.2, none⟩)) (fun p hp => by rw [L1.ι p.1 (hv1 p hp)])] at h3
        exact h3
      exact h1.append h2
    have hcall := hc.2 E V2 W2 _ rfl H1 hnx2 hargs
    have hcall' : CallsIn Fence.wide (n - 1) E.P gf _ W2 _ := callsIn_wide.2 hcall
    refine CallsIn.mono (F := FR (some (E.V0.ι L0))) hcall' ?_
    rintro e' w3 ⟨v, V3, rfl, H3, hn3, L3, -⟩
    obtain ⟨hL3, ob3, hob3, hD3, fn3, tmps3, rfl, hsz3, htm3⟩ := H3.own _ _ hL
    have hι3 : V3.ι st.nx = w.heap.size := by rw [L3.ι _ (by rw [hnx2]; omega)]; exact hιL
    have hend := run_endLoop (P := E.P) hob3 hs
    obtain ⟨H4, L4⟩ := H3.putObj (o' := .loop { state := .exhausted, pending := jump, fn := fn3, tmps := tmps3, params := ps2, assign := as2, body := bd2, defers := V3.ι D2 }) (B' := .loop .exhausted jump tm2 nt2 ps2 as2 bd2 D2) hL (fun hle => ⟨hD3, fn3, tmps3, rfl, hsz3, fun t y hy => (htm3 t y hy).mono hle⟩)
    rw [hι3] at hend H4 L4
    have hR : Rel E V3 ⟨st.tm, dropK st.nx m2.hp, m2.tk, m2.nx, st.nt, st.df⟩ { a with defers := [] ++ a.defers } (w3.putObj w.heap.size (.loop { state := .exhausted, pending := jump, fn := fn3, tmps := tmps3, params := ps2, assign := as2, body := bd2, defers := V3.ι D2 })) := by
      have L := (L1.trans L3).trans L4
      refine ⟨(H4.drop st.nx).congr (fun j => ?_) (fun _ => rfl), hn3, hr.nt, hr.df.le L, fun t x hx => (hr.tm t x hx).mono L⟩
      rw [lk_dropK, lk_dropK, lk_cons]
      split
      · rfl
      · rename_i e; rw [if_neg (fun e' => e e'.symm)]
    refine ⟨jump, _, hend, ?_⟩
    cases e with
    | normal => cases he; exact hQ V3 _ _ hR
    | ret => cases he; exact wpIn_ret (hQ V3 _ _ hR)
    | exit id => cases he; exact wpIn_exit (hQ V3 _ _ hR)
    | goto t => cases he
    | panic c => cases he
    | outgrown => cases he
end Go.Proofs.YtcapifnaceegmaaGreatDoor
namespace Go.Proofs.YtcapifnaceegmaaGreatDoor
open Go.RowKit
set_option linter.unusedSimpArgs false
set_option linter.unusedVariables false
set_option linter.unusedSectionVars false
def tyArr (P : Program) (t : TypeId) : Option (Nat × Nat) :=
  match P.underlying t with
  | some (.array n e) => match P.info? e with
    | some i => some (n, i.size)
    | none => none
  | _ => none
def zeroAV (P : Program) (e : TypeId) : Option AV :=
  match (P.info? e).bind (·.zero) with
  | some (.agg vs) => cond (vs.toList.all (·.oneCell')) (some (.agg (vs.toList.map fun z => .d (.v z)))) none
  | some v => cond v.oneCell' (some (.one (.d (.v v)))) none
  | none => none
def tyMap (P : Program) (t : TypeId) : Option (Bool × AV) :=
  match P.underlying t with
  | some (.map k e) => match P.underlying k with
    | some (.int _) => (zeroAV P e).map fun z => (true, z)
    | some .string => (zeroAV P e).map fun z => (false, z)
    | _ => none
  | _ => none
def tyInt (P : Program) (t : TypeId) : Option IntKind := match P.underlying t with
  | some (.int k) => some k
  | _ => none
def isStrTy (P : Program) (t : TypeId) : Bool := match P.underlying t with
  | some .string => true
  | _ => false
structure Tables where
  agg : List (Nat × (Bool × Nat))
  sl : List (Nat × (Nat × Nat))
  zero : List (Nat × List Value)
  fld : List (Nat × List (Nat × Nat))
  places : List (Nat × List (Nat × Nat))
  elem : List (Nat × (Nat × Nat))
  arr : List (Nat × (Nat × Nat))
  mp : List (Nat × (Bool × AV))
  ints : List (Nat × IntKind)
  strs : List (Nat × Unit)
  bools : List (Nat × Unit)
  pairs : List (Nat × Unit)
  fns : List (Nat × Func)
def AllT {α : Type} (p : Nat → α → Prop) : List (Nat × α) → Prop
  | [] => True
  | (k, x) :: r => p k x ∧ AllT p r
theorem AllT.get {α : Type} {p : Nat → α → Prop} : ∀ {l : List (Nat × α)} {k : Nat} {x : α}, AllT p l → lk l k = some x → p k x
  | [], k, x, _, h => by cases h
  | (j, y) :: r, k, x, ha, h => by
    rw [lk_cons] at h
    split at h
    · rename_i e; subst e; cases h; exact ha.1
    · exact AllT.get ha.2 h
structure Tables.OK (P : Program) (T : Tables) : Prop where
  agg : AllT (fun t v => tyAgg P t = some v) T.agg
  sl : AllT (fun t v => tySlice P t = some v) T.sl
  zero : AllT (fun t v => tyZero P t = some v ∧ v.all (·.oneCell') = true) T.zero
  fld : AllT (fun t v => AllT (fun f k => fieldOff P t f = some k) v) T.fld
  places : AllT (fun t v => tyPlaces P t = some v) T.places
  elem : AllT (fun t v => tyElem P t = some v) T.elem
  arr : AllT (fun t v => tyArr P t = some v) T.arr
  mp : AllT (fun t v => tyMap P t = some v) T.mp
  ints : AllT (fun t v => tyInt P t = some v) T.ints
  strs : AllT (fun t _ => isStrTy P t = true) T.strs
  bools : AllT (fun t _ => isBoolTy P t = true) T.bools
  pairs : AllT (fun t _ => isPairTy P t = true) T.pairs
  fns : AllT (fun f v => P.funcs[f]? = some v ∧ Enters P f) T.fns
  mixed : P.follows .mixedOrders = true
def intBin (op : BinOp) (k : IntKind) (a : Int) (k' : IntKind) (b : Int) : Option Value :=
  match op with
  | .shl => cond (decide (b < 0)) none (some (.int k (k.wrap (a * 2 ^ (min b.toNat k.bits)))))
  | .shr => cond (decide (b < 0)) none (some (.int k (a.fdiv (2 ^ (min b.toNat k.bits)))))
  | op => cond (decide (k = k')) (match op with
    | .add => some (.int k (k.wrap (a + b)))
    | .sub => some (.int k (k.wrap (a - b)))
    | .mul => some (.int k (k.wrap (a * b)))
    | .quo => cond (decide (b = 0)) none (some (.int k (k.wrap (a.tdiv b))))
    | .rem => cond (decide (b = 0)) none (some (.int k (a.tmod b)))
    | .and => some (.int k (k.wrap (BitVec.ofInt k.bits a &&& BitVec.ofInt k.bits b).toNat))
    | .or => some (.int k (k.wrap (BitVec.ofInt k.bits a ||| BitVec.ofInt k.bits b).toNat))
    | .xor => some (.int k (k.wrap (BitVec.ofInt k.bits a ^^^ BitVec.ofInt k.bits b).toNat))
    | .andNot => some (.int k (k.wrap (BitVec.ofInt k.bits a &&& ~~~(BitVec.ofInt k.bits b)).toNat))
    | .eql => some (.bool (a == b))
    | .neq => some (.bool (a != b))
    | .lss => some (.bool (decide (a < b)))
    | .leq => some (.bool (decide (a ≤ b)))
    | .gtr => some (.bool (decide (b < a)))
    | .geq => some (.bool (decide (b ≤ a)))
    | _ => none) none
theorem intBin_run {P : Program} {op : BinOp} {k k' : IntKind} {a b : Int} {t : TypeId} {v : Value} (h : intBin op k a k' b = some v) (w : World) : (binOp op t (.int k a) (.int k' b)).run P w = .ok v w ∧ v.oneCell' = true := by
  cases op <;> simp only [intBin] at h
  case shl =>
    by_cases hb : b < 0
    · simp [hb] at h
    · simp [hb] at h; subst h; simp [binOp, Op.shift, hb]; rfl
  case shr =>
    by_cases hb : b < 0
    · simp [hb] at h
    · simp [hb] at h; subst h; simp [binOp, Op.shift, hb]; rfl
  all_goals (
    by_cases hk : k = k'
    · subst hk
      simp at h
      first
        | (by_cases hb : b = 0
           · simp [hb] at h
           · simp [hb] at h; subst h; simp [binOp, Op.intDiv, hb])
        | (by_cases hb : b = 0
           · simp [hb] at h
           · simp [hb] at h; subst h; refine ⟨?_, rfl⟩; simp [binOp, Op.intDiv, hb])
        | (subst h; simp [binOp, Op.intArith, Op.intBits, Op.intCmp]; done)
        | (subst h; simp [binOp, Op.intArith, Op.intBits, Op.intCmp]; rfl)
        | (subst h; refine ⟨?_, rfl⟩; simp [binOp, Op.intArith, Op.intBits, Op.intCmp])
    · simp [hk] at h)
def strBin (op : BinOp) (x y : ByteArray) : Option Value :=
  let eq := x.toList == y.toList
  let lt := Op.bytesLess x.toList y.toList
  match op with
  | .add => cond (decide (((x.size + y.size : Nat) : Int) > IntKind.i64.max)) none (some (.string (x ++ y)))
  | .eql => some (.bool eq)
  | .neq => some (.bool !eq)
  | .lss => some (.bool lt)
  | .leq => some (.bool (lt || eq))
  | .gtr => some (.bool !(lt || eq))
  | .geq => some (.bool !lt)
  | _ => none
theorem strBin_run {P : Program} {op : BinOp} {x y : ByteArray} {t : TypeId} {v : Value} (h : strBin op x y = some v) (w : World) : (binOp op t (.string x) (.string y)).run P w = .ok v w ∧ v.oneCell' = true := by
  cases op <;> simp only [strBin, reduceCtorEq, Option.some.injEq] at h
  case add =>
    cases hb : decide (((x.size + y.size : Nat) : Int) > IntKind.i64.max) with
    | true => rw [hb] at h; cases h
    | false =>
      rw [hb] at h; cases h
      have hb' := of_decide_eq_false hb
      refine ⟨?_, rfl⟩
      simp only [binOp, Op.stringOp, hb', if_false]; rfl
  all_goals (subst h; exact ⟨rfl, rfl⟩)
section
variable {E : Env} {st : St} {d : Option Tmp} {ty : TypeId} {pos : String} {af : Array Edge} {g : Option (Nat × Bool)}
theorem RO.binInt {op : BinOp} {t t' : TypeId} {x y : Operand} {k k' : IntKind} {a b : Int} {v : Value} (hx : ev st.tm x = some (TVv (.int k a))) (hy : ev st.tm y = some (TVv (.int k' b))) (h : intBin op k a k' b = some v) : RO E ⟨d, .binOp op t x y t', ty, pos, af, g⟩ st (TVv v) := by
  refine ⟨(fun _ h => nomatch h), fun V ac w hr => ⟨v, ?_, rel_of (intBin_run (P := E.P) (t := t) h w).2⟩⟩
  have h1 := val_of (hr.ev hx)
  have h2 := val_of (hr.ev hy)
  have hg : (eqGuard op t x y (.int k a) (.int k' b)).run E.P w = .ok () w := by cases op <;> simp [eqGuard]
  simp only [execOp, h1, h2, Sem.run_bind, hg, Result.andThen_ok, (intBin_run (P := E.P) (t := t) h w).1]
  rfl
theorem RO.binStr {op : BinOp} {t t' : TypeId} {x y : Operand} {a b : ByteArray} {v : Value} (hx : ev st.tm x = some (TVv (.string a))) (hy : ev st.tm y = some (TVv (.string b))) (h : strBin op a b = some v) : RO E ⟨d, .binOp op t x y t', ty, pos, af, g⟩ st (TVv v) := by
  refine ⟨(fun _ h => nomatch h), fun V ac w hr => ⟨v, ?_, rel_of (strBin_run (P := E.P) (t := t) h w).2⟩⟩
  have h1 := val_of (hr.ev hx)
  have h2 := val_of (hr.ev hy)
  have hg : (eqGuard op t x y (.string a) (.string b)).run E.P w = .ok () w := by cases op <;> simp [eqGuard]
  simp only [execOp, h1, h2, Sem.run_bind, hg, Result.andThen_ok, (strBin_run (P := E.P) (t := t) h w).1]
  rfl
theorem RO.neqBool {t t' : TypeId} {x y : Operand} {a b : Bool} (ht : isBoolTy E.P t = true) (hx : ev st.tm x = some (TB a)) (hy : ev st.tm y = some (TB b)) : RO E ⟨d, .binOp .neq t x y t', ty, pos, af, g⟩ st (TB (!(a == b))) := by
  refine ⟨(fun _ h => nomatch h), fun V ac w hr => ⟨.bool (!(a == b)), ?_, rel_of rfl⟩⟩
  have e0 : ∀ dp, (Op.equalIn (dp + 1) t (.bool a) (.bool b)).run E.P w = .ok (a == b) w := fun dp => by
    simp [Op.equalIn, run_underlying (isBoolTy_spec ht)]
  have e : (Op.equalIn Op.maxDepth t (.bool a) (.bool b)).run E.P w = .ok (a == b) w := e0 9999
  simp only [execOp, val_of (hr.ev hx), val_of (hr.ev hy), eqGuard, binOp, Op.equal, Sem.run_bind]
  simp [e]
theorem RO.eqPair {t t' : TypeId} {x y : Operand} {a0 a1 b0 b1 : Int} (ht : isPairTy E.P t = true) (hx : ev st.tm x = some (.v (.agg [.d (.v (.int .i64 a0)), .d (.v (.int .i64 a1))]))) (hy : ev st.tm y = some (.v (.agg [.d (.v (.int .i64 b0)), .d (.v (.int .i64 b1))]))) : RO E ⟨d, .binOp .eql t x y t', ty, pos, af, g⟩ st (TB ((a0 == b0) && (a1 == b1))) := by
  refine ⟨(fun _ h => nomatch h), fun V ac w hr => ⟨.bool ((a0 == b0) && (a1 == b1)), ?_, rel_of rfl⟩⟩
  have ex : ∀ (o : Operand) (p q : Int), ev st.tm o = some (.v (.agg [.d (.v (.int .i64 p)), .d (.v (.int .i64 q))])) → ac.eval o = .agg #[.int .i64 p, .int .i64 q] := fun o p q h => by
    obtain ⟨vs, h1, h2, h3⟩ := hr.ev h
    obtain ⟨u0, a1, a2⟩ := h3 0 _ rfl
    obtain ⟨u1, b1, b2⟩ := h3 1 _ rfl
    cases a2; cases b2
    rw [h1]
    congr 1
    apply Array.ext
    · simpa using h2
    · intro i hi1 hi2
      simp at hi2
      match i, hi2 with
      | 0, _ => rw [Array.getElem?_eq_getElem (by omega)] at a1; exact Option.some.inj a1
      | 1, _ => rw [Array.getElem?_eq_getElem (by omega)] at b1; exact Option.some.inj b1
  obtain ⟨e, hgt⟩ := pair_run (w := w) ht a0 a1 b0 b1
  simp only [execOp, ex x _ _ hx, ex y _ _ hy, eqGuard, binOp, Op.equal, Sem.run_bind]
  simp [e, hgt]
theorem RO.negI {t : TypeId} {x : Operand} {k : IntKind} {m : Int} (hx : ev st.tm x = some (TVv (.int k m))) : RO E ⟨d, .unOp .neg t x, ty, pos, af, g⟩ st (TVv (.int k (k.wrap (0 - m)))) := by
  refine ⟨(fun _ h => nomatch h), fun V a w hr => ⟨.int k (k.wrap (0 - m)), ?_, rel_of rfl⟩⟩
  simp only [execOp, Op.unary, Op.intArith, val_of (hr.ev hx)]; rfl
theorem RO.nilCheckPtr {x : Operand} {i off : Nat} (hx : ev st.tm x = some (.v (.one (.ptr i off)))) : RO E ⟨d, .nilCheck x, ty, pos, af, g⟩ st (.v (.one (.ptr i off))) := by
  refine ⟨(fun _ h => nomatch h), fun V a w hr => ⟨a.eval x, ?_, hr.ev hx⟩⟩
  simp only [execOp, (hr.ev hx).2]; rfl
theorem RO.nilCheckPel {x : Operand} {e : List C} {off : Nat} (hx : ev st.tm x = some (.v (.one (.pel e off)))) : RO E ⟨d, .nilCheck x, ty, pos, af, g⟩ st (.v (.one (.pel e off))) := by
  refine ⟨(fun _ h => nomatch h), fun V a w hr => ⟨a.eval x, ?_, hr.ev hx⟩⟩
  obtain ⟨b, o, f, hv, -⟩ := hr.ev hx
  simp only [execOp, hv]; rfl
theorem RO.convInt {s t : TypeId} {x : Operand} {k k' : IntKind} {m : Int} (ht : tyInt E.P t = some k') (hs : ∃ u, E.P.underlying s = some u) (hx : ev st.tm x = some (TVv (.int k m))) : RO E ⟨d, .convert s t x, ty, pos, af, g⟩ st (TVv (.int k' (k'.wrap m))) := by
  refine ⟨(fun _ h => nomatch h), fun V a w hr => ⟨.int k' (k'.wrap m), ?_, rel_of rfl⟩⟩
  have hu : E.P.underlying t = some (.int k') := by
    unfold tyInt at ht
    split at ht
    · rename_i h; cases ht; exact h
    · cases ht
  obtain ⟨u, hs⟩ := hs
  simp only [execOp, val_of (hr.ev hx), convert, Sem.run_bind, run_underlying hs, run_underlying hu, Result.andThen_ok]
  cases u <;> rfl
theorem tyArr_spec {P : Program} {t n sz : Nat} (h : tyArr P t = some (n, sz)) : ∃ e i, P.underlying t = some (.array n e) ∧ P.info? e = some i ∧ i.size = sz := by
  unfold tyArr at h
  split at h
  · rename_i m e hu
    split at h
    · rename_i i hi; cases h; exact ⟨e, i, hu, hi, rfl⟩
    · cases h
  · cases h
theorem run_indexArr {P : Program} {t n sz : Nat} (h : tyArr P t = some (n, sz)) {b o k : Nat} (hk : k < n) (w : World) (kk : IntKind) : (Instr.indexAt t (.pointer (some ⟨b, o, none⟩)) (.int kk (k : Int))).run P w = .ok (.pointer (some ⟨b, o + k * sz, none⟩)) w := by
  obtain ⟨e, i, hu, hi, rfl⟩ := tyArr_spec h
  have h2 : (k : Int) < (n : Int) := by omega
  have h3 : ¬ n ≤ k := by omega
  simp [h3, Instr.indexAt, asIntOf, run_underlying hu, Instr.sureAddr, sizeOf, typeInfo, hi, addr_add, h2]
theorem RO.indexArrOwn {t n sz k i off : Nat} {x y : Operand} {kk : IntKind} {m : Int} (ht : tyArr E.P t = some (n, sz)) (hx : ev st.tm x = some (.v (.one (.ptr i off)))) (hy : ev st.tm y = some (TVv (.int kk m))) (hm : m = (k : Int)) (hk : k < n) : RO E ⟨d, .indexAddr t x y, ty, pos, af, g⟩ st (.v (.one (.ptr i (off + k * sz)))) := by
  refine ⟨(fun _ h => nomatch h), fun V a w hr => ?_⟩
  subst hm
  have h1 := hr.ev hx
  exact ⟨_, by simp only [execOp, h1.2, val_of (hr.ev hy), Sem.run_bind, run_indexArr ht hk]; rfl, h1.1, rfl⟩
theorem RO.indexArrPel {t n sz k off : Nat} {e : List C} {x y : Operand} {kk : IntKind} {m : Int} (ht : tyArr E.P t = some (n, sz)) (hx : ev st.tm x = some (.v (.one (.pel e off)))) (hy : ev st.tm y = some (TVv (.int kk m))) (hm : m = (k : Int)) (hk : k < n) : RO E ⟨d, .indexAddr t x y, ty, pos, af, g⟩ st (.v (.one (.pel e (off + k * sz)))) := by
  refine ⟨(fun _ h => nomatch h), fun V a w hr => ?_⟩
  subst hm
  obtain ⟨b, o, f, hv, hf⟩ := hr.ev hx
  exact ⟨_, by simp only [execOp, hv, val_of (hr.ev hy), Sem.run_bind, run_indexArr ht hk]; rfl, b, o, f, by rw [Nat.add_assoc], hf⟩
theorem RO.indexOsl {t e sz k i off len cap : Nat} {x y : Operand} {kk : IntKind} {m : Int} (ht : tySlice E.P t = some (e, sz)) (hx : ev st.tm x = some (.v (.one (.osl i off len cap)))) (hy : ev st.tm y = some (TVv (.int kk m))) (hm : m = (k : Int)) (hk : k < len) : RO E ⟨d, .indexAddr t x y, ty, pos, af, g⟩ st (.v (.one (.ptr i (off + k * sz)))) := by
  refine ⟨(fun _ h => nomatch h), fun V a w hr => ?_⟩
  subst hm
  have h1 := hr.ev hx
  obtain ⟨hu, i0, hi0, hsz⟩ := tySlice_spec ht
  have h2 : (k : Int) < (len : Int) := by omega
  refine ⟨.pointer (some ⟨V.ι i, off + k * sz, none⟩), ?_, h1.1, rfl⟩
  simp only [execOp, h1.2, val_of (hr.ev hy), Instr.indexAt, asIntOf, Sem.run_bind, Sem.run_pure, Result.andThen_ok, run_underlying hu, sizeOf, typeInfo]
  simp [hi0, hsz, addr_add, h2, Sem.run, program]
theorem RO.lenOsl {t e sz i off len cap : Nat} {x : Operand} (ht : tySlice E.P t = some (e, sz)) (hx : ev st.tm x = some (.v (.one (.osl i off len cap)))) : RO E ⟨d, .call { callee := .builtin .len, args := #[x], argTypes := #[t] }, ty, pos, af, g⟩ st (TI len) := by
  refine ⟨(fun _ h => nomatch h), fun V a w hr => ⟨.int .i64 len, ?_, rel_of rfl⟩⟩
  simp [execOp, resolve, invoke, builtin, Builtin.len_, (hr.ev hx).2, run_underlying (tySlice_spec ht).1, goInt]
theorem isStrTy_spec {P : Program} {t : TypeId} (h : isStrTy P t = true) : P.underlying t = some .string := by
  unfold isStrTy at h
  split at h
  · assumption
  · cases h
theorem RO.lenStr {t : TypeId} {x : Operand} {s : ByteArray} (ht : isStrTy E.P t = true) (hx : ev st.tm x = some (TVv (.string s))) : RO E ⟨d, .call { callee := .builtin .len, args := #[x], argTypes := #[t] }, ty, pos, af, g⟩ st (TI s.size) := by
  refine ⟨(fun _ h => nomatch h), fun V a w hr => ⟨.int .i64 s.size, ?_, rel_of rfl⟩⟩
  simp [execOp, resolve, invoke, builtin, Builtin.len_, val_of (hr.ev hx), run_underlying (isStrTy_spec ht), goInt]
theorem RO.indexStr {t : TypeId} {x y : Operand} {s : ByteArray} {kk : IntKind} {m : Int} {k : Nat} {b : UInt8} (ht : isStrTy E.P t = true) (hx : ev st.tm x = some (TVv (.string s))) (hy : ev st.tm y = some (TVv (.int kk m))) (hm : m = (k : Int)) (hb : s[k]? = some b) : RO E ⟨d, .index t x y, ty, pos, af, g⟩ st (TVv (.int .u8 b.toNat)) := by
  refine ⟨(fun _ h => nomatch h), fun V a w hr => ⟨.int .u8 b.toNat, ?_, rel_of rfl⟩⟩
  subst hm
  simp [execOp, Instr.index, asIntOf, val_of (hr.ev hx), val_of (hr.ev hy), run_underlying (isStrTy_spec ht), hb]
def hiOf (st : St) (len : Nat) : Option Operand → Option Nat
  | none => some len
  | some o => match ev st.tm o with
    | some (.v (.one (.d (.v (.int _ (.ofNat h)))))) => cond (Nat.ble h len) (some h) none
    | _ => none
def loOf (st : St) (h : Nat) : Option Operand → Option Nat
  | none => some 0
  | some o => match ev st.tm o with
    | some (.v (.one (.d (.v (.int _ (.ofNat l)))))) => cond (Nat.ble l h) (some l) none
    | _ => none
def boundsOf (st : St) (len : Nat) (lo hi mx : Option Operand) : Option (Nat × Nat) :=
  match mx with
  | some _ => none
  | none => match hiOf st len hi with
    | none => none
    | some h => match loOf st h lo with
      | none => none
      | some l => some (l, h)
theorem bound_run {V : Vu} {a : Act} {w : World} (hr : Rel E V st a w) {o : Operand} {k : IntKind} {l y : Nat} (hv : ev st.tm o = some (TVv (.int k (.ofNat l)))) (hl : l ≤ y) (c : BoundsCode) : (Instr.sliceBound (a.eval o) y c).run E.P w = .ok l w := by
  have e1 := val_of (hr.ev hv)
  have h3 : (Int.ofNat l) ≤ (y : Int) := by simpa using hl
  have h4 : (0 : Int) ≤ Int.ofNat l := Int.natCast_nonneg l
  simp only [e1, Instr.sliceBound, asIntOf, Sem.run_bind, Sem.run_pure, Result.andThen_ok, h3, h4, and_self, if_true]
  simp
theorem loOf_run {V : Vu} {a : Act} {w : World} (hr : Rel E V st a w) {h l : Nat} {lo : Option Operand} (hb : loOf st h lo = some l) : l ≤ h ∧ ∀ c, ((match lo.map a.eval with
          | some v => Instr.sliceBound v h c
          | none => pure 0 : Sem Nat)).run E.P w = .ok l w := by
  cases lo with
  | none => cases hb; exact ⟨Nat.zero_le _, fun c => rfl⟩
  | some o =>
    simp only [loOf] at hb
    split at hb
    · rename_i k l' hv
      cases hbl : Nat.ble l' h with
      | false => rw [hbl] at hb; cases hb
      | true =>
        rw [hbl] at hb; cases hb
        exact ⟨Nat.le_of_ble_eq_true hbl, fun c => bound_run hr hv (Nat.le_of_ble_eq_true hbl) c⟩
    · cases hb
theorem bounds_run {V : Vu} {a : Act} {w : World} (hr : Rel E V st a w) {len cap : Nat} (hc : len ≤ cap) {lo hi mx : Option Operand} {l h : Nat} (hb : boundsOf st len lo hi mx = some (l, h)) (isS : Bool) : mx = none ∧ l ≤ h ∧ h ≤ len ∧ (Instr.sliceBounds isS len cap (lo.map a.eval) (hi.map a.eval) (mx.map a.eval)).run E.P w = .ok (l, h, cap) w := by
  unfold boundsOf at hb
  split at hb
  · cases hb
  · split at hb
    · cases hb
    · rename_i h' hh
      split at hb
      · cases hb
      · rename_i l' hl
        cases hb
        refine ⟨rfl, ?_⟩
        obtain ⟨h1, h2⟩ := loOf_run hr hl
        cases hi with
        | none =>
          cases hh
          refine ⟨h1, Nat.le_refl _, ?_⟩
          simp only [Instr.sliceBounds, Option.map_none, Sem.run_bind, Sem.run_pure, Result.andThen_ok, h2, Option.isSome_none, Bool.false_eq_true, if_false]
          have h3 := h2 .sliceB
          cases lo with
          | none => simp only [Option.map_none] at h3 ⊢; cases hl; simp
          | some o' => simp only [Option.map_some] at h3 ⊢; simp only [Sem.run_bind, h3, Result.andThen_ok]; rfl
        | some o =>
          simp only [hiOf] at hh
          split at hh
          · rename_i k h2' hev
            cases hbl : Nat.ble h2' len with
            | false => rw [hbl] at hh; cases hh
            | true =>
              rw [hbl] at hh; cases hh
              have hle := Nat.le_of_ble_eq_true hbl
              refine ⟨h1, hle, ?_⟩
              have e2 := fun c => bound_run hr hev (Nat.le_trans hle hc) c
              simp only [Instr.sliceBounds, Option.map_none, Option.map_some, Sem.run_bind, Sem.run_pure, Result.andThen_ok, e2, h2, Option.isSome_none, Bool.false_eq_true, if_false]
              have h3 := h2 .sliceB
              cases lo with
              | none => simp only [Option.map_none] at h3 ⊢; cases hl; simp
              | some o' => simp only [Option.map_some] at h3 ⊢; simp only [Sem.run_bind, h3, Result.andThen_ok]; rfl
          · cases hh
theorem Reads.slice {S : Nat → Nat → Prop} {w : World} {sz : Nat} {es : List (List C)} {a : Option Addr} {len cap l h : Nat} (hr : Reads S w (.sl sz es) (.slice a len cap)) (hl : l ≤ h) (hh : h ≤ es.length) : len = es.length ∧ len ≤ cap ∧ Reads S w (.sl sz ((es.drop l).take (h - l))) (.slice (if cap = l then a else a.map (·.add (l * sz))) (h - l) (cap - l)) := by
  cases hr with
  | sl _ _ _ _ b off f hcap ha hle hc hs hr =>
    refine ⟨rfl, hcap, ?_⟩
    have hlen : ((es.drop l).take (h - l)).length = h - l := by simp; omega
    have hget : ∀ (i : Nat) (e : List C), ((es.drop l).take (h - l))[i]? = some e → es[l + i]? = some e := fun i e hi => by
      rw [List.getElem?_take] at hi
      split at hi
      · rw [List.getElem?_drop] at hi; exact hi
      · cases hi
    have e0 : (Value.slice (if cap = l then a else a.map (·.add (l * sz))) (h - l) (cap - l)) = .slice (if cap = l then a else a.map (·.add (l * sz))) ((es.drop l).take (h - l)).length (cap - l) := by rw [hlen]
    rw [e0]
    refine .sl sz _ _ (cap - l) b (off + l * sz) (fun i j => f (l + i) j) (by rw [hlen]; omega) (fun hne => ?_) (fun i e hi => hle (l + i) e (hget i e hi)) (fun i e j c hi hj => ?_) (fun i e j c hi hj => ?_) (fun i e j c hi hj => hr (l + i) e j c (hget i e hi) hj)
    · have hpos : 0 < h - l := by rw [← hlen]; exact List.length_pos_iff.2 hne
      have : a = some ⟨b, off, none⟩ := ha (fun e => by subst e; simp at hh; omega)
      rw [if_neg (by omega), this]
      simp [addr_add]
    · have := hc (l + i) e j c (hget i e hi) hj
      rw [Nat.add_mul] at this
      rw [show off + l * sz + i * sz + j = off + (l * sz + i * sz) + j by omega]; exact this
    · have := hs (l + i) e j c (hget i e hi) hj
      rw [Nat.add_mul] at this
      rw [show off + l * sz + i * sz + j = off + (l * sz + i * sz) + j by omega]; exact this
theorem RO.sliceD {t e sz : Nat} {x : Operand} {y : CA} {es : List (List C)} {lo hi mx : Option Operand} {l h : Nat} (ht : tySlice E.P t = some (e, sz)) (hx : ev st.tm x = some (.v (.one y))) (hs : SlOf y sz es) (hb : boundsOf st es.length lo hi mx = some (l, h)) : RO E ⟨d, .slice t x lo hi mx, ty, pos, af, g⟩ st (.v (.one (.d (.sl sz ((es.drop l).take (h - l)))))) := by
  refine ⟨(fun _ h => nomatch h), fun V a w hr => ?_⟩
  have h1 := hs.reads (hr.ev hx)
  obtain ⟨hu, i0, hi0, hsz⟩ := tySlice_spec ht
  obtain ⟨ad, cap, hv⟩ : ∃ ad cap, a.eval x = .slice ad es.length cap := by
    generalize a.eval x = v at h1
    cases h1 with
    | sl _ _ a cap b off f hcap => exact ⟨a, cap, rfl⟩
  rw [hv] at h1
  obtain ⟨hl0, hh0⟩ : l ≤ h ∧ h ≤ es.length := by
    obtain ⟨-, h2, h3, -⟩ := bounds_run hr (Nat.le_refl _) hb true
    exact ⟨h2, h3⟩
  obtain ⟨-, hcap, hrd⟩ := h1.slice hl0 hh0
  obtain ⟨-, -, -, hrun⟩ := bounds_run hr hcap hb true
  refine ⟨_, ?_, hrd⟩
  simp only [execOp, Instr.sliceAt, Instr.slice, hv, Sem.run_bind, run_underlying hu, Result.andThen_ok, hrun, sizeOf, typeInfo]
  simp [Sem.run, program, hi0, hsz]
theorem RO.sliceStr {t : Nat} {x : Operand} {s : ByteArray} {lo hi mx : Option Operand} {l h : Nat} (ht : isStrTy E.P t = true) (hx : ev st.tm x = some (TVv (.string s))) (hb : boundsOf st s.size lo hi mx = some (l, h)) : RO E ⟨d, .slice t x lo hi mx, ty, pos, af, g⟩ st (TVv (.string (s.extract l h))) := by
  refine ⟨(fun _ h => nomatch h), fun V a w hr => ⟨.string (s.extract l h), ?_, rel_of rfl⟩⟩
  obtain ⟨hm, -, -, hrun⟩ := bounds_run hr (Nat.le_refl _) hb false
  subst hm
  simp only [execOp, Instr.sliceAt, Instr.slice, val_of (hr.ev hx), Sem.run_bind, run_underlying (isStrTy_spec ht), Result.andThen_ok, Option.map_none, Option.isSome_none, Bool.false_eq_true, if_false, Sem.run_pure]
  simp only [Option.map_none] at hrun
  simp only [hrun, Result.andThen_ok]
theorem RO.sliceOsl {t e sz i off len cap : Nat} {x : Operand} {lo hi mx : Option Operand} {l h : Nat} (ht : tySlice E.P t = some (e, sz)) (hx : ev st.tm x = some (.v (.one (.osl i off len cap)))) (hlc : len ≤ cap) (hb : boundsOf st len lo hi mx = some (l, h)) : RO E ⟨d, .slice t x lo hi mx, ty, pos, af, g⟩ st (.v (.one (.osl i (if cap = l then off else off + l * sz) (h - l) (cap - l)))) := by
  refine ⟨(fun _ h => nomatch h), fun V a w hr => ?_⟩
  obtain ⟨hu, i0, hi0, hsz⟩ := tySlice_spec ht
  obtain ⟨hi1, hv⟩ := hr.ev hx
  obtain ⟨-, -, -, hrun⟩ := bounds_run hr hlc hb true
  refine ⟨.slice (some ⟨V.ι i, if cap = l then off else off + l * sz, none⟩) (h - l) (cap - l), ?_, hi1, rfl⟩
  simp only [execOp, Instr.sliceAt, Instr.slice, hv, Sem.run_bind, run_underlying hu, Result.andThen_ok, hrun, sizeOf, typeInfo]
  by_cases hcl : cap = l <;> simp [Sem.run, program, hi0, hsz, hcl, addr_add]
end
end Go.Proofs.YtcapifnaceegmaaGreatDoor
namespace Go.Proofs.YtcapifnaceegmaaGreatDoor
open Go.RowKit
set_option linter.unusedSimpArgs false
set_option linter.unusedVariables false
set_option linter.unusedSectionVars false
section
variable {E : Env} {st : St} {dd : Option Tmp} {ty : TypeId} {pos : String} {af : Array Edge} {g : Option (Nat × Bool)}
theorem add_hrel {V : Vu} {a : Act} {w : World} (hr : Rel E V st a w) (o : Obj) (B : HB) (hB : B.rel (V.add w.heap.size) (w.alloc o) o) :
    HRel E (V.add w.heap.size) ((st.nx, B) :: st.hp) st.tk (w.alloc o) ∧ (V.add w.heap.size).nx = st.nx + 1 ∧ V.Le (V.add w.heap.size) w (w.alloc o) ∧ (V.add w.heap.size).ι st.nx = w.heap.size := by
  have hx : ExtF w (w.alloc o) := ⟨rfl, rfl, rfl, by simp, fun k hk _ => Below.heap_alloc w o k hk⟩
  have H := hr.h.addOwn o B hB
  rw [hr.nx] at H
  exact ⟨H, by show V.nx + 1 = _; rw [hr.nx], hr.h.le hx (V.add_grow w.heap.size hr.h.sz hx), by rw [← hr.nx]; exact V.add_at _⟩
theorem OpOK.box {t : TypeId} {o : Operand} {x : AV} (hx : ev st.tm o = some (.v x)) : OpOK E ⟨dd, .box t o, ty, pos, af, g⟩ st (.v (.one (.ptr st.nx 0))) ⟨(st.nx, .cells t x.cells) :: st.hp, st.tk, st.nx + 1⟩ := by
  intro V a w hr ro n K Q hK
  refine ⟨fun _ _ => trivial, ?_⟩
  rw [Oper.semAt_eq _ _ _ (by intro c h; cases h)]
  have hrun : (execOp a.eval ⟨dd, .box t o, ty, pos, af, g⟩).run E.P w = .ok (.value (.pointer (some ⟨w.heap.size, 0, none⟩))) (w.alloc (.cells (a.eval o).cells t)) := by
    simp [execOp, Instr.box, newVar, newRow]
  rw [hrun]
  have hxc := (hr.ev hx).cells
  have hE : ExtF w (w.alloc (.cells (a.eval o).cells t)) := ⟨rfl, rfl, rfl, by simp, fun k hk _ => Below.heap_alloc w _ k hk⟩
  obtain ⟨H, hn, L, hι⟩ := add_hrel hr (.cells (a.eval o).cells t) (.cells t x.cells) ⟨_, rfl, hxc.mono (hr.h.le hE (V.add_grow w.heap.size hr.h.sz hE))⟩
  exact hK _ _ _ H hn L ⟨by rw [hn]; exact Nat.lt_succ_self _, by rw [hι]⟩
theorem OpOK.alloc {t : TypeId} {zs : List Value} (hz : tyZero E.P t = some zs) (h1 : zs.all (·.oneCell') = true) : OpOK E ⟨dd, .alloc t, ty, pos, af, g⟩ st (.v (.one (.ptr st.nx 0))) ⟨(st.nx, .cells t (zs.map fun z => .d (.v z))) :: st.hp, st.tk, st.nx + 1⟩ := by
  intro V a w hr ro n K Q hK
  refine ⟨fun _ _ => trivial, ?_⟩
  rw [Oper.semAt_eq _ _ _ (by intro c h; cases h)]
  obtain ⟨z, hz1, hz2⟩ := tyZero_spec hz
  have hrun : (execOp a.eval ⟨dd, .alloc t, ty, pos, af, g⟩).run E.P w = .ok (.value (.pointer (some ⟨w.heap.size, 0, none⟩))) (w.alloc (.cells zs.toArray t)) := by
    simp [execOp, Instr.alloc, hz1, newVar, newRow, hz2]
  rw [hrun]
  obtain ⟨H, hn, L, hι⟩ := add_hrel hr (.cells zs.toArray t) (.cells t (zs.map fun z => .d (.v z))) ⟨_, rfl, zeros_rel h1⟩
  exact hK _ _ _ H hn L ⟨by rw [hn]; exact Nat.lt_succ_self _, by rw [hι]⟩
theorem OpOK.store {t n i off : Nat} {ag : Bool} {T : TypeId} {xs : List CA} {o1 o2 : Operand} {y : AV} (ht : tyAgg E.P t = some (ag, n)) (h1 : ev st.tm o1 = some (.v (.one (.ptr i off)))) (h2 : ev st.tm o2 = some (.v y))
    (hi : lk st.hp i = some (.cells T xs)) (hn : y.cells.length = n) (hle : off + n ≤ xs.length) (hdd : dd = none) :
    OpOK E ⟨dd, .store t o1 o2, ty, pos, af, g⟩ st (.tup []) ⟨(i, .cells T (setL xs off y.cells)) :: dropK i st.hp, st.tk, st.nx⟩ := by
  intro V a w hr ro n' K Q hK
  refine ⟨fun _ _ => trivial, ?_⟩
  rw [Oper.semAt_eq _ _ _ (by intro c h; cases h)]
  have e1 := hr.ev h1
  have e2 := (hr.ev h2).cells
  obtain ⟨-, hsz⟩ := tyAgg_spec ht w
  obtain ⟨w', hw', H, L⟩ := HRel.storeL (T := T) y.cells (a.eval o2).cells.toList 0 off xs st.hp w hr.h hi (by simpa [hn] using hle) (by simpa using e2.1) (fun j z hz => by
    obtain ⟨u, hu, hz'⟩ := e2.2 j z hz
    exact ⟨u, by simpa using hu, hz'⟩)
  have hrun : (execOp a.eval ⟨dd, .store t o1 o2, ty, pos, af, g⟩).run E.P w = .ok .skip w' := by
    have hs2 : (a.eval o2).cells.size = n := by rw [e2.1, hn]
    simp only [execOp, e1.2, Instr.storeAt, Instr.sureAddr, storeVar, Sem.run_bind, Sem.run_pure, Result.andThen_ok, hsz, hs2]
    simp [hw']
  rw [hrun]
  subst hdd
  exact hK V w' undef (H.congr (fun j => lk_put i _ st.hp j) (fun _ => rfl)) hr.nx L und_rel
theorem build_run0 {t e sz len : Nat} {zs : List Value} {parts : Array (Nat × Operand)} {avs : List (Nat × AV)} {ys : List CA} (ht : tySlice E.P t = some (e, sz)) (hze : tyZero E.P e = some zs) (hzl : zs.length = sz) (hz : zs.all (·.oneCell') = true)
    (hlen : len * sz ≤ 16777216) (hn : parts.toList.length = avs.length)
    (hp : ∀ (j i : Nat) (x : AV), avs[j]? = some (i, x) → ∃ o, parts.toList[j]? = some (i, o) ∧ ev st.tm o = some (.v x)) (hf : fillL (rowPlaces sz len) (zeroRow zs len) avs = some ys)
    {V : Vu} {a : Act} {w : World} (hr : Rel E V st a w) :
    ∃ us : Array Value, (execOp a.eval ⟨dd, .buildSlice t len parts, ty, pos, af, g⟩).run E.P w = .ok (.value (.slice (some ⟨w.heap.size, 0, none⟩) len len)) (w.alloc (.cells us e)) ∧ rels V w ys us := by
  obtain ⟨hu, i0, hi0, hsz⟩ := tySlice_spec ht
  obtain ⟨z, hz1, hz2⟩ := tyZero_spec hze
  have hrel0 : rels V w (zeroRow zs len) ((Array.range (len * sz)).map fun k => zs.toArray[k % zs.toArray.size]!) := by
    refine ⟨by simp [zeroRow, hzl], fun k x hx => ?_⟩
    simp only [zeroRow, List.getElem?_map] at hx
    cases hk : (List.range (len * zs.length))[k]? with
    | none => rw [hk] at hx; cases hx
    | some k' =>
      rw [hk] at hx
      cases hx
      obtain ⟨hlt, rfl⟩ := List.getElem?_eq_some_iff.1 hk
      simp at hlt
      have hpos : 0 < zs.length := by rcases Nat.eq_zero_or_pos zs.length with h0 | h0; (· rw [h0] at hlt; simp at hlt); exact h0
      have hm : k % zs.length < zs.length := Nat.mod_lt _ hpos
      simp only [List.getElem_range]
      refine ⟨zs.getD (k % zs.length) undef, ?_, Reads.v _ ?_⟩
      · rw [← hzl]; simp [hlt, hm]
      · simp [hm]; exact List.all_eq_true.1 hz _ (List.getElem_mem hm)
  obtain ⟨us, h2, h3⟩ := fill_rel (place := fun i => some (i * sz, sz)) (pl := rowPlaces sz len) (fun i p h => by
    simp only [rowPlaces, List.getElem?_map] at h
    cases hk : (List.range len)[i]? with
    | none => rw [hk] at h; cases h
    | some k' => rw [hk] at h; cases h; obtain ⟨_, rfl⟩ := List.getElem?_eq_some_iff.1 hk; simp) avs (parts.toList.map fun p => (p.1, a.eval p.2)) _ ys _ hrel0 (by simpa using hn) (fun j i x hx => by
      obtain ⟨o, h4, h5⟩ := hp j i x hx
      exact ⟨a.eval o, by rw [List.getElem?_map, h4]; rfl, hr.ev h5⟩) hf
  refine ⟨us, ?_, h3⟩
  have hgt : ¬ (len * sz > 2 ^ 24) := by omega
  have e1 : (parts.map fun (x : Nat × Operand) => (x.1, a.eval x.2)).toList = parts.toList.map fun p => (p.1, a.eval p.2) := by simp
  by_cases h0 : len * sz = 0
  · have e0 : ∀ f : Nat → Value, (Array.range 0).map f = #[] := fun f => by apply Array.ext <;> simp
    rw [h0, e0] at h2
    simp only [execOp, Instr.buildSlice, Sem.run_bind, run_underlying hu, Result.andThen_ok, sizeOf, typeInfo, program, Sem.run, hi0, Sem.run_pure, hsz, if_neg hgt, h0, if_true, e0]
    simp [h2, newRow]
  · simp only [execOp, Instr.buildSlice, Sem.run_bind, run_underlying hu, Result.andThen_ok, sizeOf, typeInfo, program, Sem.run, hi0, Sem.run_pure, hsz, if_neg hgt, if_neg h0, hz1, hz2]
    simp at h2
    simp [h2, newRow]
theorem OpOK.litApp {t e sz len : Nat} {zs : List Value} {parts : Array (Nat × Operand)} {avs : List (Nat × AV)} {ys : List CA} (es : List (List C)) (ht : tySlice E.P t = some (e, sz)) (hze : tyZero E.P e = some zs) (hzl : zs.length = sz) (hz : zs.all (·.oneCell') = true)
    (hpos : 0 < sz) (hlen : len * sz ≤ 16777216) (hn : parts.toList.length = avs.length)
    (hp : ∀ (j i : Nat) (x : AV), avs[j]? = some (i, x) → ∃ o, parts.toList[j]? = some (i, o) ∧ ev st.tm o = some (.v x)) (hf : fillL (rowPlaces sz len) (zeroRow zs len) avs = some ys)
    (hs : CSubs ys es.flatten) (hel : ∀ x ∈ es, x.length = sz) (hen : es.length = len) :
    OpOK E ⟨dd, .buildSlice t len parts, ty, pos, af, g⟩ st (.v (.one (.app st.nx sz es))) ⟨st.hp, (st.nx, some ⟨e, sz, es.length⟩) :: st.tk, st.nx + 1⟩ := by
  intro V a w hr ro n K Q hK
  refine ⟨fun _ _ => trivial, ?_⟩
  rw [Oper.semAt_eq _ _ _ (by intro c h; cases h)]
  obtain ⟨us, hrun, husz, hcells⟩ := build_run (pos := pos) (ty := ty) (af := af) (g := g) es ht hze hzl hz hlen hn hp hf hs hel hen hr dd
  rw [hrun]
  have hx : ExtF w (w.alloc (.cells us e)) := ⟨rfl, rfl, rfl, by simp, fun k hk _ => Below.heap_alloc w _ k hk⟩
  obtain ⟨H, L⟩ := hr.h.tokNew (w' := w.alloc (.cells us e)) (i := V.nx) (n := es.length) (g := w.heap.size) (e := e) (sz := sz) (cap := len) (cur := us) (.inl rfl) hx (Nat.le_refl _) (heap_alloc_new w _) husz (Nat.le_of_eq hen) (by
    unfold maxLen
    have := Nat.le_mul_of_pos_right len hpos; omega)
  have hn : (V.tok V.nx es.length (.slice (some ⟨w.heap.size, 0, none⟩) es.length len) w.heap.size (es.length * sz)).nx = st.nx + 1 := by show max V.nx (V.nx + 1) = st.nx + 1; rw [hr.nx]; omega
  refine hK _ _ _ (by rw [← hr.nx]; exact H) hn L ⟨?_, ?_, ?_, ?_⟩
  · rw [hn]; exact Nat.lt_succ_self _
  · rw [← hr.nx, tok_cu]; exact Nat.le_refl _
  · rw [← hr.nx, tok_κ, hen]
  · have e9 : (Value.slice (some ⟨w.heap.size, 0, none⟩) len len) = .slice (some ⟨w.heap.size, 0, none⟩) es.length len := by rw [hen]
    rw [e9]
    refine Reads.of_row (us := fun k => us.getD k undef) hel (Nat.le_of_eq hen) (fun k c hk => ?_)
    obtain ⟨u, hu1, hu2⟩ := hcells k c hk
    have hklt : k < es.length * sz := by have := (List.getElem?_eq_some_iff.1 hk).1; rwa [flat_len es hel] at this
    have e1 : us.getD k undef = u := by simp [hu1]
    rw [e1, Nat.zero_add]
    exact ⟨(cell_of_own (heap_alloc_new w _) k).trans hu1, .inr ⟨rfl, hklt⟩, hu2.mono L.S L.cell⟩
theorem OpOK.litData {t e sz len : Nat} {zs : List Value} {parts : Array (Nat × Operand)} {avs : List (Nat × AV)} {ys : List CA} (es : List (List C)) (ht : tySlice E.P t = some (e, sz)) (hze : tyZero E.P e = some zs) (hzl : zs.length = sz) (hz : zs.all (·.oneCell') = true)
    (hlen : len * sz ≤ 16777216) (hn : parts.toList.length = avs.length)
    (hp : ∀ (j i : Nat) (x : AV), avs[j]? = some (i, x) → ∃ o, parts.toList[j]? = some (i, o) ∧ ev st.tm o = some (.v x)) (hf : fillL (rowPlaces sz len) (zeroRow zs len) avs = some ys)
    (hs : CSubs ys es.flatten) (hel : ∀ x ∈ es, x.length = sz) (hen : es.length = len) :
    OpOK E ⟨dd, .buildSlice t len parts, ty, pos, af, g⟩ st (.v (.one (.d (.sl sz es)))) st.mem := by
  intro V a w hr ro n K Q hK
  refine ⟨fun _ _ => trivial, ?_⟩
  rw [Oper.semAt_eq _ _ _ (by intro c h; cases h)]
  obtain ⟨us, hrun, husz, hcells⟩ := build_run (pos := pos) (ty := ty) (af := af) (g := g) es ht hze hzl hz hlen hn hp hf hs hel hen hr dd
  rw [hrun]
  have hx : ExtF w (w.alloc (.cells us e)) := ⟨rfl, rfl, rfl, by simp, fun k hk _ => Below.heap_alloc w _ k hk⟩
  have hg : V.Grow { V with S := fun b o => V.S b o ∨ (b = w.heap.size ∧ o < len * sz) } w (w.alloc (.cells us e)) :=
    ⟨Nat.le_refl _, fun _ _ => rfl, fun _ _ => rfl, fun _ _ _ _ => rfl, fun _ _ h => .inl h, fun b o h => by
      rcases h with h | ⟨rfl, -⟩
      · exact .inl h
      · exact .inr (Nat.le_refl _), fun b o h => by
      rcases h with h | ⟨rfl, -⟩
      · exact Nat.lt_of_lt_of_le (hr.h.sz b o h) hx.size
      · simp⟩
  have L := hr.h.le hx hg
  refine hK _ _ _ (hr.h.later hx hg) hr.nx L ?_
  have e9 : (Value.slice (some ⟨w.heap.size, 0, none⟩) len len) = .slice (some ⟨w.heap.size, 0, none⟩) es.length len := by rw [hen]
  rw [e9]
  refine Reads.of_row (us := fun k => us.getD k undef) hel (Nat.le_of_eq hen) (fun k c hk => ?_)
  obtain ⟨u, hu1, hu2⟩ := hcells k c hk
  have hklt : k < es.length * sz := by have := (List.getElem?_eq_some_iff.1 hk).1; rwa [flat_len es hel] at this
  have e1 : us.getD k undef = u := by simp [hu1]
  rw [e1, Nat.zero_add]
  exact ⟨(cell_of_own (heap_alloc_new w _) k).trans hu1, .inr ⟨rfl, by rw [← hen]; exact hklt⟩, hu2.mono L.S L.cell⟩
theorem OpOK.litOsl {t e sz len : Nat} {zs : List Value} {parts : Array (Nat × Operand)} {avs : List (Nat × AV)} {ys : List CA} (ht : tySlice E.P t = some (e, sz)) (hze : tyZero E.P e = some zs) (hzl : zs.length = sz) (hz : zs.all (·.oneCell') = true)
    (hlen : len * sz ≤ 16777216) (hn : parts.toList.length = avs.length)
    (hp : ∀ (j i : Nat) (x : AV), avs[j]? = some (i, x) → ∃ o, parts.toList[j]? = some (i, o) ∧ ev st.tm o = some (.v x)) (hf : fillL (rowPlaces sz len) (zeroRow zs len) avs = some ys) :
    OpOK E ⟨dd, .buildSlice t len parts, ty, pos, af, g⟩ st (.v (.one (.osl st.nx 0 len len))) ⟨(st.nx, .cells e ys) :: st.hp, st.tk, st.nx + 1⟩ := by
  intro V a w hr ro n K Q hK
  refine ⟨fun _ _ => trivial, ?_⟩
  rw [Oper.semAt_eq _ _ _ (by intro c h; cases h)]
  obtain ⟨us, hrun, hrel⟩ := build_run0 (dd := dd) (pos := pos) (ty := ty) (af := af) (g := g) ht hze hzl hz hlen hn hp hf hr
  rw [hrun]
  have hE : ExtF w (w.alloc (.cells us e)) := ⟨rfl, rfl, rfl, by simp, fun k hk _ => Below.heap_alloc w _ k hk⟩
  obtain ⟨H, hn, L, hι⟩ := add_hrel hr (.cells us e) (.cells e ys) ⟨_, rfl, hrel.mono (hr.h.le hE (V.add_grow w.heap.size hr.h.sz hE))⟩
  exact hK _ _ _ H hn L ⟨by rw [hn]; exact Nat.lt_succ_self _, by rw [hι]⟩
theorem OpOK.makeSlice {t e sz : Nat} {zs : List Value} {o1 o2 : Operand} {l c by_ : Nat} {k1 k2 : IntKind} (ht : tySlice E.P t = some (e, sz)) (hze : tyZero E.P e = some zs) (hzl : zs.length = sz) (hz : zs.all (·.oneCell') = true) (hel : tyElem E.P e = some (sz, by_))
    (h1 : ev st.tm o1 = some (TVv (.int k1 (l : Int)))) (h2 : ev st.tm o2 = some (TVv (.int k2 (c : Int)))) (hlc : l ≤ c) (hb : by_ * c ≤ 281474976710656) (hc : c ≤ 9223372036854775807) :
    OpOK E ⟨dd, .makeSlice t o1 o2, ty, pos, af, g⟩ st (.v (.one (.osl st.nx 0 l c))) ⟨(st.nx, .cells e (zeroRow zs c)) :: st.hp, st.tk, st.nx + 1⟩ := by
  intro V a w hr ro n K Q hK
  refine ⟨fun _ _ => trivial, ?_⟩
  rw [Oper.semAt_eq _ _ _ (by intro c h; cases h)]
  obtain ⟨hu, i0, hi0, hsz⟩ := tySlice_spec ht
  obtain ⟨i1, z, hi1, hz1, hzs, hpos, hsz1, hby⟩ := tyElem_spec hel
  rw [hi0] at hi1; cases hi1
  have hzc : z.cells = zs.toArray := by
    obtain ⟨z', hz1', hz2'⟩ := tyZero_spec hze
    have := hz1' w
    simp [zeroValue, typeInfo, hi0, hz1] at this
    subst this; exact hz2'
  have hb' : (i0.bytes : Int) * (c : Int) ≤ 281474976710656 := by rw [hby]; have : ((by_ * c : Nat) : Int) ≤ 281474976710656 := by omega
                                                                  rwa [Int.natCast_mul] at this
  have hm := run_make (P := E.P) w t e i0 z hu hi0 hz1 k1 k2 l c (by omega) (by omega) hb' (by omega)
  simp only [Int.toNat_natCast] at hm
  have hrun : (execOp a.eval ⟨dd, .makeSlice t o1 o2, ty, pos, af, g⟩).run E.P w = .ok (.value (.slice (some ⟨w.heap.size, 0, none⟩) l c)) (w.alloc (.cells (madeCells z.cells (c * i0.size)) e)) := by
    simp only [execOp, val_of (hr.ev h1), val_of (hr.ev h2), Sem.run_bind, hm, Result.andThen_ok]; rfl
  rw [hrun]
  have hrel0 : rels (V.add w.heap.size) (w.alloc (.cells (madeCells z.cells (c * i0.size)) e)) (zeroRow zs c) (madeCells z.cells (c * i0.size)) := by
    rw [hsz, hzc]
    refine ⟨by simp [zeroRow, madeCells, hzl], fun k x hx => ?_⟩
    simp only [zeroRow, List.getElem?_map] at hx
    cases hk : (List.range (c * zs.length))[k]? with
    | none => rw [hk] at hx; cases hx
    | some k' =>
      rw [hk] at hx
      cases hx
      obtain ⟨hlt, rfl⟩ := List.getElem?_eq_some_iff.1 hk
      simp at hlt
      have hpos : 0 < zs.length := by omega
      have hm : k % zs.length < zs.length := Nat.mod_lt _ hpos
      simp only [List.getElem_range]
      refine ⟨zs.getD (k % zs.length) undef, ?_, Reads.v _ ?_⟩
      · rw [← hzl]; simp [madeCells, hlt, hm]
      · simp [hm]; exact List.all_eq_true.1 hz _ (List.getElem_mem hm)
  obtain ⟨H, hn, L, hι⟩ := add_hrel hr (.cells (madeCells z.cells (c * i0.size)) e) (.cells e (zeroRow zs c)) ⟨_, rfl, hrel0⟩
  exact hK _ _ _ H hn L ⟨by rw [hn]; exact Nat.lt_succ_self _, by rw [hι]⟩
theorem OpOK.appendApp {t e sz by_ i : Nat} {o1 o2 : Operand} {y : CA} {es es2 : List (List C)} (ht : tySlice E.P t = some (e, sz)) (hte : tyElem E.P e = some (sz, by_)) (hb : by_ ≤ 100000)
    (h1 : ev st.tm o1 = some (.v (.one (.app i sz es)))) (hi : lk st.tk i = some (some ⟨e, sz, es.length⟩)) (h2 : ev st.tm o2 = some (.v (.one y))) (hs : SlOf y sz es2) (hm : es.length + es2.length ≤ 1000000000) :
    OpOK E ⟨dd, .call { callee := .builtin .append, args := #[o1, o2], argTypes := #[t, t] }, ty, pos, af, g⟩ st (.v (.one (.app i sz (es ++ es2)))) ⟨st.hp, (i, some ⟨e, sz, (es ++ es2).length⟩) :: dropK i st.tk, st.nx⟩ := by
  intro V a w hr ro n K Q hK
  refine ⟨fun _ _ => trivial, ?_⟩
  rw [Oper.semAt_eq _ _ _ (by intro c h; cases h)]
  have r1 := hr.ev h1
  have r2 := hs.reads (hr.ev h2)
  have hexec : ∀ v' w', (Builtin.append_ #[t, t] ty #[a.eval o1, a.eval o2]).run E.P w = .ok v' w' → (execOp a.eval ⟨dd, .call { callee := .builtin .append, args := #[o1, o2], argTypes := #[t, t] }, ty, pos, af, g⟩).run E.P w = .ok (.value v') w' := fun v' w' h => by
    simp [execOp, resolve, invoke, builtin, h]
  by_cases h0 : es2 = []
  · subst h0
    obtain ⟨hu, i1, hi1, -⟩ := tySlice_spec ht
    obtain ⟨-, a1, cap1, b1, off1, us1, e1, hc1, -⟩ := r1.2.2.2.row
    obtain ⟨-, a2, cap2, b2, off2, us2, e2, -⟩ := r2.row
    have := run_append0 (w := w) (ty := ty) hu hi1 a1 a2 es.length cap1 cap2 hc1
    rw [hexec _ w (by rw [e1, e2]; exact this)]
    have hl : ∀ j, lk ((i, some (Tok.mk e sz (es ++ []).length)) :: dropK i st.tk) j = lk st.tk j := fun j => by
      rw [lk_put, lk_cons, List.append_nil]; split
      · rename_i e3; subst e3; exact hi.symm
      · rfl
    refine hK V w _ (hr.h.congr (fun _ => rfl) hl) hr.nx (Vu.Le.refl _ _) ?_
    rw [List.append_nil, ← e1]; exact r1
  · obtain ⟨v', w', gb, m, V', hrun, rfl, H, L, hrd⟩ := append_run (ty := ty) hr.h ht hte (.inl ⟨hi, r1.2.2.1⟩) r1.2.2.2 r2 hm hb h0
    rw [hexec v' w' hrun]
    have hlt : i < V.nx := r1.1
    have hnx : (V.tok i (es ++ es2).length v' gb m).nx = st.nx := by show max V.nx (i + 1) = st.nx; rw [← hr.nx]; omega
    refine hK _ w' _ (H.congr (fun _ => rfl) (fun j => lk_put i _ st.tk j)) hnx L ?_
    exact ⟨Nat.lt_of_lt_of_le hlt L.nx, by rw [tok_cu]; exact Nat.le_refl _, by rw [tok_κ], hrd⟩
theorem OpOK.appendNil {t e sz by_ : Nat} {o1 o2 : Operand} {y : CA} {es2 : List (List C)} (ht : tySlice E.P t = some (e, sz)) (hte : tyElem E.P e = some (sz, by_)) (hb : by_ ≤ 100000)
    (h1 : ev st.tm o1 = some (TVv (.slice none 0 0))) (h2 : ev st.tm o2 = some (.v (.one y))) (hs : SlOf y sz es2) (hm : es2.length ≤ 1000000000) (hne : es2 ≠ []) :
    OpOK E ⟨dd, .call { callee := .builtin .append, args := #[o1, o2], argTypes := #[t, t] }, ty, pos, af, g⟩ st (.v (.one (.app st.nx sz es2))) ⟨st.hp, (st.nx, some ⟨e, sz, es2.length⟩) :: st.tk, st.nx + 1⟩ := by
  intro V a w hr ro n K Q hK
  refine ⟨fun _ _ => trivial, ?_⟩
  rw [Oper.semAt_eq _ _ _ (by intro c h; cases h)]
  have r1 := val_of (hr.ev h1)
  have r2 := hs.reads (hr.ev h2)
  have hexec : ∀ v' w', (Builtin.append_ #[t, t] ty #[a.eval o1, a.eval o2]).run E.P w = .ok v' w' → (execOp a.eval ⟨dd, .call { callee := .builtin .append, args := #[o1, o2], argTypes := #[t, t] }, ty, pos, af, g⟩).run E.P w = .ok (.value v') w' := fun v' w' h => by
    simp [execOp, resolve, invoke, builtin, h]
  have hnil : Reads V.S w (.sl sz []) (.slice none 0 0) := (SlOf.nil sz).reads (V := V) (Reads.v _ rfl)
  obtain ⟨v', w', gb, m, V', hrun, rfl, H, L, hrd⟩ := append_run (ty := ty) (i := V.nx) (es := []) hr.h ht hte (.inr ⟨rfl, rfl, rfl⟩) hnil r2 (by simpa using hm) hb hne
  rw [hexec v' w' (by rw [r1]; exact hrun)]
  simp only [List.nil_append] at H L hrd
  refine hK _ w' _ (by rw [← hr.nx]; exact H) (by show max V.nx (V.nx + 1) = st.nx + 1; rw [hr.nx]; omega) L ?_
  rw [← hr.nx]
  exact ⟨Nat.lt_of_lt_of_le (Nat.lt_succ_self _) (Nat.le_max_right _ _), by rw [tok_cu]; exact Nat.le_refl _, by rw [tok_κ], hrd⟩
theorem OpOK.appendNil0 {t e sz : Nat} {o1 o2 : Operand} {y : CA} (ht : tySlice E.P t = some (e, sz))
    (h1 : ev st.tm o1 = some (TVv (.slice none 0 0))) (h2 : ev st.tm o2 = some (.v (.one y))) (hs : SlOf y sz []) :
    OpOK E ⟨dd, .call { callee := .builtin .append, args := #[o1, o2], argTypes := #[t, t] }, ty, pos, af, g⟩ st (TVv (.slice none 0 0)) st.mem := by
  intro V a w hr ro n K Q hK
  refine ⟨fun _ _ => trivial, ?_⟩
  rw [Oper.semAt_eq _ _ _ (by intro c h; cases h)]
  have r1 := val_of (hr.ev h1)
  have r2 := hs.reads (hr.ev h2)
  have hexec : ∀ v' w', (Builtin.append_ #[t, t] ty #[a.eval o1, a.eval o2]).run E.P w = .ok v' w' → (execOp a.eval ⟨dd, .call { callee := .builtin .append, args := #[o1, o2], argTypes := #[t, t] }, ty, pos, af, g⟩).run E.P w = .ok (.value v') w' := fun v' w' h => by
    simp [execOp, resolve, invoke, builtin, h]
  obtain ⟨hu, i1, hi1, -⟩ := tySlice_spec ht
  obtain ⟨-, a2, cap2, b2, off2, us2, e2, -⟩ := r2.row
  have := run_append0 (P := E.P) (w := w) (ty := ty) hu hi1 none a2 0 0 cap2 (Nat.le_refl _)
  rw [hexec _ w (by rw [r1, e2]; exact this)]
  exact hK V w _ hr.h hr.nx (Vu.Le.refl _ _) (rel_of rfl)
theorem OpOK.makeMap {t : TypeId} : OpOK E ⟨dd, .makeMap t none, ty, pos, af, g⟩ st (.v (.one (.mp st.nx))) ⟨(st.nx, .mp [] 0) :: st.hp, st.tk, st.nx + 1⟩ := by
  intro V a w hr ro n K Q hK
  refine ⟨fun _ _ => trivial, ?_⟩
  rw [Oper.semAt_eq _ _ _ (by intro c h; cases h)]
  have hrun : (execOp a.eval ⟨dd, .makeMap t none, ty, pos, af, g⟩).run E.P w = .ok (.value (.map (some w.heap.size))) (w.alloc (.map #[] 0)) := by
    simp only [execOp, Option.map_none, Sem.run_bind, run_makeMap, Result.andThen_ok]; rfl
  rw [hrun]
  obtain ⟨H, hn, L, hι⟩ := add_hrel hr (.map #[] 0) (.mp [] 0) ⟨#[], rfl, rfl, fun i k x b hi => by simp at hi⟩
  exact hK _ _ _ H hn L ⟨by rw [hn]; exact Nat.lt_succ_self _, by rw [hι]⟩
def keyEq : Value → Value → Option Bool
  | .int k a, .int k' b => cond (decide (k = k')) (some (a == b)) none
  | .string a, .string b => some (a == b)
  | _, _ => none
def keyOf (isInt : Bool) : Value → Bool
  | .int _ _ => isInt
  | .string _ => !isInt
  | _ => false
def findE (k : Value) : List (Value × AV × Nat) → Nat → Option (Option (Nat × AV))
  | [], _ => some none
  | (k', x, _) :: es, i => match keyEq k k' with
    | some true => some (some (i, x))
    | some false => findE k es (i + 1)
    | none => none
theorem zeroAV_spec {P : Program} {e : TypeId} {x : AV} (h : zeroAV P e = some x) : ∃ z, (∀ w, (zeroValue e).run P w = .ok z w) ∧ ∀ V w, x.rel V w z := by
  unfold zeroAV at h
  cases hi : P.info? e with
  | none => rw [hi] at h; cases h
  | some i =>
    rw [hi] at h
    cases hz : i.zero with
    | none => simp [hz] at h
    | some z =>
      refine ⟨z, fun w => by simp [zeroValue, typeInfo, hi, hz], fun V w => ?_⟩
      simp only [Option.bind_some, hz] at h
      split at h
      · rename_i vs hv
        cases hv
        cases hc : vs.toList.all (·.oneCell') with
        | false => rw [hc] at h; cases h
        | true =>
          rw [hc] at h; cases h
          exact ⟨vs, rfl, by have := zeros_rel (V := V) (w := w) hc; simpa using this⟩
      · rename_i v hn hv
        cases hv
        cases hc : z.oneCell' with
        | false => rw [hc] at h; cases h
        | true => rw [hc] at h; cases h; exact Reads.v z hc
      · rename_i hv; cases hv
theorem tyMap_spec {P : Program} {t : TypeId} {b : Bool} {x : AV} (h : tyMap P t = some (b, x)) : ∃ k e d, P.underlying t = some (.map k e) ∧ P.underlying k = some d ∧ zeroAV P e = some x ∧
    (∀ v, keyOf b v = true → (∀ (e : Bool) (n : Nat) (w : World), (Instr.checkKey e (n + 1) k v).run P w = .ok () w)) ∧ ∀ v v' r, keyOf b v = true → keyEq v v' = some r → Instr.sameNow d v v' = some r := by
  unfold tyMap at h
  split at h
  · rename_i k e hu
    split at h
    · rename_i kk hk
      cases hz : zeroAV P e with
      | none => rw [hz] at h; cases h
      | some z =>
        rw [hz] at h; cases h
        refine ⟨k, e, .int kk, hu, hk, hz, fun v hv e n w => ?_, fun v v' r hv hr => ?_⟩
        · unfold Instr.checkKey
          simp only [Sem.run_bind, run_underlying hk, Result.andThen_ok]
          cases v <;> simp_all [keyOf]
        · cases v <;> simp [keyOf] at hv
          cases v' <;> simp [keyEq] at hr
          rename_i k1 a k2 b
          by_cases hkk : k1 = k2
          · subst hkk; simp [Instr.sameNow] at hr ⊢; exact hr
          · simp [hkk] at hr
    · rename_i hk
      cases hz : zeroAV P e with
      | none => rw [hz] at h; cases h
      | some z =>
        rw [hz] at h; cases h
        refine ⟨k, e, .string, hu, hk, hz, fun v hv e n w => ?_, fun v v' r hv hr => ?_⟩
        · unfold Instr.checkKey
          simp only [Sem.run_bind, run_underlying hk, Result.andThen_ok]
          cases v <;> simp_all [keyOf]
        · cases v <;> simp [keyOf] at hv
          cases v' <;> simp [keyEq] at hr
          simp [Instr.sameNow, hr]
    · cases h
  · cases h
theorem findE_run {V : Vu} {w : World} {d : TypeDesc} {k : Value} {ib : Bool} (hk : keyOf ib k = true) (hs : ∀ v v' r, keyOf ib v = true → keyEq v v' = some r → Instr.sameNow d v v' = some r) : ∀ (es : List (Value × AV × Nat)) (ents : List MapEntry) (i : Nat) (r : Option (Nat × AV)), ents.length = es.length →
    (∀ (i : Nat) (k : Value) (x : AV) (b : Nat), es[i]? = some (k, x, b) → ∃ v, ents[i]? = some ⟨k, v, b⟩ ∧ x.rel V w v) → findE k es i = some r →
    match r with
    | none => Instr.findNow d k ents i = some none
    | some (j, x) => ∃ v e, Instr.findNow d k ents i = some (some (j, v)) ∧ x.rel V w v ∧ i ≤ j ∧ es[j - i]? = some e ∧ e.2.1 = x ∧ keyEq k e.1 = some true
  | [], ents, i, r, hl, _, hf => by
    have : ents = [] := List.eq_nil_of_length_eq_zero (by simpa using hl)
    subst this
    cases hf
    rfl
  | (k', x, b) :: es, ents, i, r, hl, hr, hf => by
    match ents, hl with
    | en :: ents, hl =>
      obtain ⟨v, hv, hxv⟩ := hr 0 k' x b rfl
      simp at hv; subst hv
      simp only [findE] at hf
      split at hf
      · rename_i hq
        cases hf
        exact ⟨v, _, by simp [Instr.findNow, hs _ _ _ hk hq], hxv, Nat.le_refl _, by rw [Nat.sub_self]; rfl, rfl, hq⟩
      · rename_i hq
        have ih := findE_run hk hs es ents (i + 1) r (by simpa using hl) (fun j k x b hj => by have := hr (j + 1) k x b (by simpa using hj); simpa using this) hf
        have e1 : Instr.findNow d k (⟨k', v, b⟩ :: ents) i = Instr.findNow d k ents (i + 1) := by simp [Instr.findNow, hs _ _ _ hk hq]
        cases r with
        | none => rw [e1]; exact ih
        | some p =>
          obtain ⟨v', e', h1, h2, h3, h4, h5⟩ := ih
          refine ⟨v', e', by rw [e1]; exact h1, h2, by omega, ?_, h5⟩
          rw [show p.1 - i = (p.1 - (i + 1)) + 1 by omega]; simpa using h4
      · cases hf
theorem keyEq_true {k k' : Value} (h : keyEq k k' = some true) : k = k' := by
  cases k <;> cases k' <;> simp [keyEq] at h
  · rename_i k1 a k2 b
    by_cases hkk : k1 = k2
    · subst hkk; simp at h; rw [h]
    · simp [hkk] at h
  · rename_i a b
    rw [(Go.MapKept.bytes_beq a b).1 h]
theorem ev_key {V : Vu} {a : Act} {w : World} (hr : Rel E V st a w) {o : Operand} {k : Value} (h : ev st.tm o = some (TVv k)) : a.eval o = k := val_of (hr.ev h)
theorem RO.lookup {t : TypeId} {ib : Bool} {z : AV} {o1 o2 : Operand} {i : Nat} {es : List (Value × AV × Nat)} {clock : Nat} {k : Value} {r : Option (Nat × AV)} (ht : tyMap E.P t = some (ib, z)) (h1 : ev st.tm o1 = some (.v (.one (.mp i)))) (h2 : ev st.tm o2 = some (TVv k)) (hk : keyOf ib k = true)
    (hi : lk st.hp i = some (.mp es clock)) (hf : findE k es 0 = some r) (ok : Bool) :
    RO E ⟨dd, .lookup t o1 o2 ok, ty, pos, af, g⟩ st (match r with
      | some (_, x) => cond ok (.tup [x, .one (.d (.v (.bool true)))]) (.v x)
      | none => cond ok (.tup [z, .one (.d (.v (.bool false)))]) (.v z)) := by
  refine ⟨(fun _ h => nomatch h), fun V a w hr => ?_⟩
  obtain ⟨kt, et, d, hu, hkt, hz, hck, hsn⟩ := tyMap_spec ht
  obtain ⟨-, hv⟩ := hr.ev h1
  have hkv := ev_key hr h2
  obtain ⟨-, o, ho, ents, rfl, hsz, hents⟩ := hr.h.own i _ hi
  have hfr := findE_run (V := V) (w := w) hk hsn es ents.toList 0 r (by simpa using hsz) (fun i k x b hi => by
    obtain ⟨v, h3, h4⟩ := hents i k x b hi
    exact ⟨v, by simpa using h3, h4⟩) hf
  obtain ⟨zv, hzr, hzrel⟩ := zeroAV_spec hz
  have hck' := hck k hk ents.isEmpty 9999 w
  cases r with
  | some p =>
    obtain ⟨v, e, h3, h4, -⟩ := hfr
    have hfk := Go.MapKept.run_findKey (P := E.P) (w := w) hkt h3
    have hl : (Instr.lookup t (a.eval o1) (a.eval o2) ok).run E.P w = .ok (if ok then .tuple #[v, .bool true] else v) w := by
      simp only [Instr.lookup, hv, hkv, Sem.run_bind, run_underlying hu, Result.andThen_ok, Go.MapKept.run_getObj_map ho, Sem.run_pure, hck', hfk]
    refine ⟨_, by simp only [execOp, Sem.run_bind, hl, Result.andThen_ok]; rfl, ?_⟩
    cases ok with
    | true => exact ⟨_, rfl, rfl, fun j x hx => by
        match j, hx with
        | 0, hx => cases hx; exact ⟨v, rfl, h4⟩
        | 1, hx => cases hx; exact ⟨_, rfl, rel_of rfl⟩⟩
    | false => exact h4
  | none =>
    have hfk := Go.MapKept.run_findKey (P := E.P) (w := w) hkt hfr
    have hl : (Instr.lookup t (a.eval o1) (a.eval o2) ok).run E.P w = .ok (if ok then .tuple #[zv, .bool false] else zv) w := by
      simp only [Instr.lookup, hv, hkv, Sem.run_bind, run_underlying hu, Result.andThen_ok, Go.MapKept.run_getObj_map ho, Sem.run_pure, hck', hfk, hzr]
    refine ⟨_, by simp only [execOp, Sem.run_bind, hl, Result.andThen_ok]; rfl, ?_⟩
    cases ok with
    | true => exact ⟨_, rfl, rfl, fun j x hx => by
        match j, hx with
        | 0, hx => cases hx; exact ⟨zv, rfl, hzrel V w⟩
        | 1, hx => cases hx; exact ⟨_, rfl, rel_of rfl⟩⟩
    | false => exact hzrel V w
theorem sameBits_key {k : Value} {ib : Bool} (hk : keyOf ib k = true) : Instr.sameBits 10000 k k = true := by
  cases k <;> simp [keyOf] at hk <;> simp [Instr.sameBits]
  exact (Go.MapKept.bytes_beq _ _).2 rfl
theorem OpOK.mapUpdate {t : TypeId} {ib : Bool} {z : AV} {o1 o2 o3 : Operand} {i : Nat} {es : List (Value × AV × Nat)} {clock : Nat} {k : Value} {x : AV} {r : Option (Nat × AV)} (ht : tyMap E.P t = some (ib, z)) (h1 : ev st.tm o1 = some (.v (.one (.mp i)))) (h2 : ev st.tm o2 = some (TVv k)) (h3 : ev st.tm o3 = some (.v x)) (hk : keyOf ib k = true)
    (hi : lk st.hp i = some (.mp es clock)) (hf : findE k es 0 = some r) (hdd : dd = none) :
    OpOK E ⟨dd, .mapUpdate t o1 o2 o3, ty, pos, af, g⟩ st (.tup []) ⟨(i, match r with
      | some (j, _) => .mp (es.modify j fun e => (k, x, e.2.2)) clock
      | none => .mp (es ++ [(k, x, clock)]) (clock + 1)) :: dropK i st.hp, st.tk, st.nx⟩ := by
  intro V a w hr ro n K Q hK
  refine ⟨fun _ _ => trivial, ?_⟩
  rw [Oper.semAt_eq _ _ _ (by intro c h; cases h)]
  obtain ⟨kt, et, d, hu, hkt, hz, hck, hsn⟩ := tyMap_spec ht
  obtain ⟨-, hv⟩ := hr.ev h1
  have hkv := ev_key hr h2
  have hxv := hr.ev h3
  obtain ⟨-, o, ho, ents, rfl, hsz, hents⟩ := hr.h.own i _ hi
  have hfr := findE_run (V := V) (w := w) hk hsn es ents.toList 0 r (by simpa using hsz) (fun i k x b hi => by
    obtain ⟨v, h3, h4⟩ := hents i k x b hi
    exact ⟨v, by simpa using h3, h4⟩) hf
  have hck' := hck k hk false 9999 w
  subst hdd
  cases r with
  | some p =>
    obtain ⟨j, x0⟩ := p
    obtain ⟨v, e, h4, h5, -, h6, h7, h8⟩ := hfr
    have hfk := Go.MapKept.run_findKey (P := E.P) (w := w) hkt h4
    simp only [Nat.sub_zero] at h6
    obtain ⟨k0, x1, b0⟩ := e
    obtain ⟨v0, hv0, -⟩ := hents j k0 x1 b0 h6
    have hkk : k = k0 := keyEq_true h8
    subst hkk
    have hstay : (Instr.keyThatStays (((ents[j]?).map (·.key)).getD k) k).run E.P w = .ok k w := by
      rw [hv0]
      simp only [Option.map_some, Option.getD_some, Instr.keyThatStays, sameBits_key hk, if_true]; rfl
    have hrun : (execOp a.eval ⟨none, .mapUpdate t o1 o2 o3, ty, pos, af, g⟩).run E.P w = .ok .skip (w.putObj (V.ι i) (.map (ents.modify j fun e => { e with key := k, val := a.eval o3 }) clock)) := by
      simp only [execOp, Instr.mapUpdate, hv, hkv, Sem.run_bind, run_underlying hu, Result.andThen_ok, Go.MapKept.run_getObj_map ho, hck', hfk, hstay, Go.MapKept.run_setObj_map _ ho]
      rfl
    rw [hrun]
    obtain ⟨H, L⟩ := hr.h.putObj (o' := .map (ents.modify j fun e => { e with key := k, val := a.eval o3 }) clock) (B' := .mp (es.modify j fun e => (k, x, e.2.2)) clock) hi (fun hle => ⟨_, rfl, by simp [hsz], fun q k' x' b' hq => by
      rw [List.getElem?_modify] at hq
      by_cases hqj : j = q
      · subst hqj
        simp only [if_true, h6, Option.map_some] at hq
        cases hq
        exact ⟨a.eval o3, by simp [Array.getElem?_modify, hv0], hxv.mono hle⟩
      · simp only [if_neg hqj, Option.map_id] at hq
        obtain ⟨v', h9, h10⟩ := hents q k' x' b' (by simpa using hq)
        exact ⟨v', by simp [Array.getElem?_modify, hqj, h9], h10.mono hle⟩⟩)
    exact hK V _ undef (H.congr (fun j => lk_put i _ st.hp j) (fun _ => rfl)) hr.nx L und_rel
  | none =>
    have hfk := Go.MapKept.run_findKey (P := E.P) (w := w) hkt hfr
    have hrun : (execOp a.eval ⟨none, .mapUpdate t o1 o2 o3, ty, pos, af, g⟩).run E.P w = .ok .skip (w.putObj (V.ι i) (.map (ents.push { key := k, val := a.eval o3, born := clock }) (clock + 1))) := by
      simp only [execOp, Instr.mapUpdate, hv, hkv, Sem.run_bind, run_underlying hu, Result.andThen_ok, Go.MapKept.run_getObj_map ho, hck', hfk, Go.MapKept.run_setObj_map _ ho]
      rfl
    rw [hrun]
    obtain ⟨H, L⟩ := hr.h.putObj (o' := .map (ents.push { key := k, val := a.eval o3, born := clock }) (clock + 1)) (B' := .mp (es ++ [(k, x, clock)]) (clock + 1)) hi (fun hle => ⟨_, rfl, by simp [hsz], fun q k' x' b' hq => by
      by_cases hqj : q < es.length
      · rw [List.getElem?_append_left hqj] at hq
        obtain ⟨v', h9, h10⟩ := hents q k' x' b' hq
        exact ⟨v', by rw [Array.getElem?_push, if_neg (by omega)]; exact h9, h10.mono hle⟩
      · rw [List.getElem?_append_right (by omega)] at hq
        have : q = es.length := by
          have := (List.getElem?_eq_some_iff.1 hq).1
          simp at this; omega
        subst this
        simp at hq
        obtain ⟨rfl, rfl, rfl⟩ := hq
        exact ⟨a.eval o3, by rw [Array.getElem?_push, if_pos hsz.symm], hxv.mono hle⟩⟩)
    exact hK V _ undef (H.congr (fun j => lk_put i _ st.hp j) (fun _ => rfl)) hr.nx L und_rel
end
end Go.Proofs.YtcapifnaceegmaaGreatDoor
namespace Go.Proofs.YtcapifnaceegmaaGreatDoor
open Go.RowKit
set_option linter.unusedSimpArgs false
set_option linter.unusedVariables false
set_option linter.unusedSectionVars false
def asC : CA → Option C
  | .d c => some c
  | .app _ sz es => some (.sl sz es)
  | _ => none
def asCs : List CA → Option (List C)
  | [] => some []
  | x :: xs => match asC x, asCs xs with
    | some c, some cs => some (c :: cs)
    | _, _ => none
theorem asC_sub {x : CA} {c : C} (h : asC x = some c) : CSub x c := by
  cases x <;> simp [asC] at h <;> subst h <;> first | exact .d _ | exact .app _ _ _
theorem asCs_subs : ∀ {xs : List CA} {cs : List C}, asCs xs = some cs → CSubs xs cs ∧ LSub xs (cs.map .d)
  | [], cs, h => by cases h; exact ⟨.nil, .nil⟩
  | x :: xs, cs, h => by
    simp only [asCs] at h
    split at h
    · rename_i c cs' hc hcs
      cases h
      obtain ⟨h1, h2⟩ := asCs_subs hcs
      exact ⟨.cons (asC_sub hc) h1, .cons (asC_sub hc) h2⟩
    · cases h
def asAV : AV → Option AV
  | .one x => match asC x with
    | some c => some (.one (.d c))
    | none => none
  | .agg xs => match asCs xs with
    | some cs => some (.agg (cs.map .d))
    | none => none
theorem asAV_sub {x y : AV} (h : asAV x = some y) : ASub x y := by
  cases x with
  | one x =>
    simp only [asAV] at h
    split at h
    · rename_i c hc; cases h; exact .one (asC_sub hc)
    · cases h
  | agg xs =>
    simp only [asAV] at h
    split at h
    · rename_i cs hc; cases h; exact .agg (asCs_subs hc).2
    · cases h
def asAVs : List AV → Option (List AV)
  | [] => some []
  | x :: xs => match asAV x, asAVs xs with
    | some y, some ys => some (y :: ys)
    | _, _ => none
theorem asAVs_spec : ∀ {xs ys : List AV}, asAVs xs = some ys → xs.length = ys.length ∧ ∀ (i : Nat) (y : AV), ys[i]? = some y → ∃ x, xs[i]? = some x ∧ ASub x y
  | [], ys, h => by cases h; exact ⟨rfl, fun i y hy => by simp at hy⟩
  | x :: xs, ys, h => by
    simp only [asAVs] at h
    split at h
    · rename_i y ys' hy hys
      cases h
      obtain ⟨h1, h2⟩ := asAVs_spec hys
      refine ⟨by simp [h1], fun i z hz => ?_⟩
      cases i with
      | zero => simp at hz; subst hz; exact ⟨x, rfl, asAV_sub hy⟩
      | succ i => exact h2 i z (by simpa using hz)
    · cases h
def asTV : TV → Option TV
  | .v x => match asAV x with
    | some y => some (.v y)
    | none => none
  | .tup xs => match asAVs xs with
    | some ys => some (.tup ys)
    | none => none
  | .unk => none
theorem asTV_rel {x y : TV} (h : asTV x = some y) {V : Vu} {w : World} {v : Value} (hv : x.rel V w v) : y.rel (Vu.of V.S) w v := by
  cases x with
  | v x =>
    simp only [asTV] at h
    split at h
    · rename_i z hz; cases h; exact (asAV_sub hz).rel hv
    · cases h
  | tup xs =>
    simp only [asTV] at h
    split at h
    · rename_i ys hys
      cases h
      obtain ⟨vs, h1, h2, h3⟩ := hv
      obtain ⟨h4, h5⟩ := asAVs_spec hys
      refine ⟨vs, h1, by omega, fun i y hy => ?_⟩
      obtain ⟨x, hx, hs⟩ := h5 i y hy
      obtain ⟨u, hu, hxu⟩ := h3 i x hx
      exact ⟨u, hu, hs.rel hxu⟩
    · cases h
  | unk => cases h
theorem of_le {V : Vu} {w : World} : (Vu.of V.S).Le V w w := ⟨Nat.zero_le _, (fun i hi => absurd hi (Nat.not_lt_zero i)), (fun i hi => absurd hi (Nat.not_lt_zero i)), (fun i hi => absurd hi (Nat.not_lt_zero i)), fun _ _ h => h, fun _ _ _ => rfl⟩
def mem0 : Mem := ⟨[], [], 0⟩
theorem hrel0 {P : Program} {S : Nat → Nat → Prop} {w : World} (hS : ∀ b o, S b o → b < w.heap.size) (hT : Tabs P S w) : HRel (EnvF P w S) (Vu.of S) [] [] w := by
  refine ⟨ExtM.refl _ _, ⟨Vu.Le.refl _ _, hT⟩, hS, fun b o h => .inl h, ?_, ?_, ?_, ?_, ?_⟩
  · intro i B hi; cases hi
  · intro i j A B hi; cases hi
  · intro i B hi; cases hi
  · intro i T hi; cases hi
  · intro i j T U g hi; cases hi
section
variable {E : Env} {st : St} {dd : Option Nat} {ty : TypeId} {pos : String} {af : Array Edge} {g : Option (Nat × Bool)}
theorem call_enters {P : Program} {x : Operand} {f : FuncId} {ars : Array Operand} {ats : Array TypeId} {ρ : Operand → Value} {w : World} (hx : ρ x = .func (.func f) #[] #[]) (he : Enters P f) :
    (execOp ρ ⟨dd, .call { callee := .value x, args := ars, argTypes := ats }, ty, pos, af, g⟩).run P w = .ok (.enter f (ars.map ρ)) w := by
  have := he (ars.map ρ) w
  simp [execOp, resolve, hx, Deferred.ofValue, invoke]
  simpa using this
theorem OpOK.callPure {x : Operand} {f : FuncId} {ars : Array Operand} {args args' : List AV} {ats : Array TypeId} {res res' : TV} {m1 : Mem} (hx : ev st.tm x = some (.v (.one (.fn f [])))) (ha : evArgs st.tm ars.toList = some args) (hs : asAVs args = some args')
    (hc : CallM E.P f args' mem0 res m1) (hr' : asTV res = some res') : OpOK E ⟨dd, .call { callee := .value x, args := ars, argTypes := ats }, ty, pos, af, g⟩ st res' st.mem := by
  intro V a w hr ro n K Q hK
  refine ⟨fun _ _ => trivial, ?_⟩
  rw [Oper.semAt_eq _ _ _ (by intro c h; cases h)]
  rw [call_enters (by have := (hr.ev hx).2; simpa using this) hc.1]
  refine ⟨(by intro h; cases h), ?_⟩
  have har : argsRel (Vu.of V.S) w args' (ars.map a.eval) := by
    obtain ⟨h1, h2⟩ := args_rel hr ha
    obtain ⟨h3, h4⟩ := asAVs_spec hs
    refine ⟨by omega, fun i y hy => ?_⟩
    obtain ⟨x, hx', hxy⟩ := h4 i y hy
    obtain ⟨u, hu, hxu⟩ := h2 i x hx'
    exact ⟨u, hu, hxy.rel hxu⟩
  have hc' : CallsIn Fence.wide (n - 1) E.P f _ w _ := callsIn_wide.2 (hc.2 (EnvF E.P w V.S) (Vu.of V.S) w _ rfl (hrel0 hr.h.sz hr.h.tabs) rfl har)
  refine CallsIn.mono (F := FR ro) hc' ?_
  rintro e w' ⟨v, V1, rfl, H, hn, L, hres⟩
  have hg : V.Grow { V with S := V1.S } w w' := ⟨Nat.le_refl _, fun _ _ => rfl, fun _ _ => rfl, fun _ _ _ _ => rfl, H.le0.S, fun b o h => by
    rcases H.sub b o h with h1 | h1 | h1
    · exact .inl h1
    · exact .inr h1
    · exact h1.elim, H.sz⟩
  have hx' : ExtF w w' := H.ext
  exact hK { V with S := V1.S } w' v (hr.h.later hx' hg) hr.nx (hr.h.le hx' hg) ((asTV_rel hr' hres).mono (of_le (V := { V with S := V1.S })))
def CA.shift (n : Nat) : CA → CA
  | .ptr i off => .ptr (i + n) off
  | .fn f caps => .fn f (caps.map fun p => (p.1 + n, p.2))
  | .app i sz es => .app (i + n) sz es
  | .osl i off len cap => .osl (i + n) off len cap
  | .mp i => .mp (i + n)
  | .yld i => .yld (i + n)
  | x => x
def AV.shift (n : Nat) : AV → AV
  | .one x => .one (x.shift n)
  | .agg xs => .agg (xs.map (CA.shift n))
def TV.shift (n : Nat) : TV → TV
  | .v x => .v (x.shift n)
  | .tup xs => .tup (xs.map (AV.shift n))
  | .unk => .unk
def HB.shift (n : Nat) : HB → HB
  | .cells T xs => .cells T (xs.map (CA.shift n))
  | .obj o => .obj o
  | .loop s p tm nt ps ars bd D => .loop s p (tm.map fun q => (q.1, q.2.shift n)) nt ps ars bd (D + n)
  | .mp es c => .mp (es.map fun e => (e.1, e.2.1.shift n, e.2.2)) c
def Vu.join (V V1 : Vu) (n : Nat) : Vu :=
  ⟨n + V1.nx, fun i => if i < n then V.ι i else V1.ι (i - n), fun i m => if i < n then V.κ i m else V1.κ (i - n) m, fun i => if i < n then V.cu i else V1.cu (i - n), V1.S⟩
theorem join_hi {V V1 : Vu} {n i : Nat} : (V.join V1 n).ι (i + n) = V1.ι i ∧ (∀ m, (V.join V1 n).κ (i + n) m = V1.κ i m) ∧ (V.join V1 n).cu (i + n) = V1.cu i := by
  have h : ¬ (i + n < n) := by omega
  refine ⟨?_, fun m => ?_, ?_⟩ <;> simp [Vu.join, h, Nat.add_sub_cancel]
theorem CA.rel.shift {V V1 : Vu} {n : Nat} {w : World} {x : CA} {v : Value} (h : x.rel V1 w v) : (x.shift n).rel (V.join V1 n) w v := by
  have hlt : ∀ i, i < V1.nx → i + n < (V.join V1 n).nx := fun i hi => by show i + n < n + V1.nx; omega
  cases x with
  | d c => exact h
  | ptr i off => exact ⟨hlt i h.1, by rw [join_hi.1]; exact h.2⟩
  | pel e off => exact h
  | fn f caps =>
    refine ⟨fun p hp => ?_, ?_⟩
    · obtain ⟨q, hq, rfl⟩ := List.mem_map.1 hp; exact hlt q.1 (h.1 q hq)
    · rw [h.2]
      congr 2
      rw [List.map_map]
      exact List.map_congr_left fun p hp => by simp only [Function.comp]; rw [join_hi.1]
  | app i sz es => exact ⟨hlt i h.1, by rw [join_hi.2.2]; exact h.2.1, by rw [join_hi.2.1]; exact h.2.2.1, h.2.2.2⟩
  | osl i off len cap => exact ⟨hlt i h.1, by rw [join_hi.1]; exact h.2⟩
  | mp i => exact ⟨hlt i h.1, by rw [join_hi.1]; exact h.2⟩
  | yld i => exact ⟨hlt i h.1, by rw [join_hi.1]; exact h.2⟩
  | clo f caps => exact h
  | any => exact h
theorem rels.shift {V V1 : Vu} {n : Nat} {w : World} {xs : List CA} {vs : Array Value} (h : rels V1 w xs vs) : rels (V.join V1 n) w (xs.map (CA.shift n)) vs := by
  refine ⟨by simp [h.1], fun i x hx => ?_⟩
  rw [List.getElem?_map] at hx
  cases hi : xs[i]? with
  | none => rw [hi] at hx; cases hx
  | some y => rw [hi] at hx; cases hx; obtain ⟨u, h1, h2⟩ := h.2 i y hi; exact ⟨u, h1, h2.shift⟩
theorem AV.rel.shift {V V1 : Vu} {n : Nat} {w : World} {x : AV} {v : Value} (h : x.rel V1 w v) : (x.shift n).rel (V.join V1 n) w v := by
  cases x with
  | one x => exact CA.rel.shift h
  | agg xs => obtain ⟨vs, h1, h2⟩ := h; exact ⟨vs, h1, h2.shift⟩
theorem TV.rel.shift {V V1 : Vu} {n : Nat} {w : World} {x : TV} {v : Value} (h : x.rel V1 w v) : (x.shift n).rel (V.join V1 n) w v := by
  cases x with
  | v x => exact AV.rel.shift h
  | tup xs =>
    obtain ⟨vs, h1, h2, h3⟩ := h
    refine ⟨vs, h1, by simp [h2], fun i x hx => ?_⟩
    rw [List.getElem?_map] at hx
    cases hi : xs[i]? with
    | none => rw [hi] at hx; cases hx
    | some y => rw [hi] at hx; cases hx; obtain ⟨u, h1, h2⟩ := h3 i y hi; exact ⟨u, h1, h2.shift⟩
  | unk => trivial
theorem lk_mapv {α : Type} {f : α → α} : ∀ (l : List (Nat × α)) (i : Nat) (y : α), lk (l.map fun q => (q.1, f q.2)) i = some y → ∃ x, lk l i = some x ∧ y = f x
  | [], i, y, h => by cases h
  | (k, v) :: l, i, y, h => by
    simp only [List.map_cons, lk_cons] at h ⊢
    split at h
    · rename_i e; cases h; exact ⟨v, by rw [if_pos e], rfl⟩
    · rename_i e; obtain ⟨x, h1, h2⟩ := lk_mapv l i y h; exact ⟨x, by rw [if_neg e]; exact h1, h2⟩
theorem HB.rel.shift {V V1 : Vu} {n : Nat} {w : World} {B : HB} {o : Obj} (h : B.rel V1 w o) : (B.shift n).rel (V.join V1 n) w o := by
  cases B with
  | cells T xs => obtain ⟨vs, h1, h2⟩ := h; exact ⟨vs, h1, h2.shift⟩
  | obj o' => exact h
  | loop s p tm nt ps ars bd D =>
    obtain ⟨hD, fn, tmps, h1, h2, h3⟩ := h
    refine ⟨by show D + n < n + V1.nx; omega, fn, tmps, by rw [join_hi.1]; exact h1, h2, fun t x hx => ?_⟩
    obtain ⟨y, hy, rfl⟩ := lk_mapv tm t x hx
    exact (h3 t y hy).shift
  | mp es c =>
    obtain ⟨ents, h1, h2, h3⟩ := h
    refine ⟨ents, h1, by simp [h2], fun i k x b hi => ?_⟩
    rw [List.getElem?_map] at hi
    cases he : es[i]? with
    | none => rw [he] at hi; cases hi
    | some e =>
      rw [he] at hi; cases hi
      obtain ⟨k', x', b'⟩ := e
      obtain ⟨v, h4, h5⟩ := h3 i k' x' b' he
      exact ⟨v, h4, h5.shift⟩
def shiftK {α : Type} (n : Nat) (f : α → α) (l : List (Nat × α)) : List (Nat × α) := l.map fun p => (p.1 + n, f p.2)
theorem lk_shiftK {α : Type} {n : Nat} {f : α → α} : ∀ (l : List (Nat × α)) (i : Nat) (y : α), lk (shiftK n f l) i = some y → ∃ j x, i = j + n ∧ lk l j = some x ∧ y = f x
  | [], i, y, h => by cases h
  | (k, v) :: l, i, y, h => by
    simp only [shiftK, List.map_cons, lk_cons] at h
    split at h
    · rename_i e; cases h; exact ⟨k, v, e.symm, by rw [lk_cons, if_pos rfl], rfl⟩
    · rename_i e
      obtain ⟨j, x, h1, h2, h3⟩ := lk_shiftK l i y h
      exact ⟨j, x, h1, by rw [lk_cons, if_neg (fun e' => e (by omega))]; exact h2, h3⟩
def Mem.join (m m1 : Mem) : Mem := ⟨shiftK m.nx (HB.shift m.nx) m1.hp ++ m.hp, shiftK m.nx id m1.tk ++ m.tk, m.nx + m1.nx⟩
theorem HRel.join {V V1 : Vu} {hp : List (Nat × HB)} {tk : List (Nat × Option Tok)} {m1 : Mem} {w w' : World} (h : HRel E V hp tk w) (H : HRel (EnvF E.P w V.S) V1 m1.hp m1.tk w') :
    HRel E (V.join V1 V.nx) (shiftK V.nx (HB.shift V.nx) m1.hp ++ hp) (shiftK V.nx id m1.tk ++ tk) w' ∧ V.Le (V.join V1 V.nx) w w' := by
  have hx : ExtF w w' := H.ext
  have hback : ∀ b o, V1.S b o → V.S b o ∨ w.heap.size ≤ b := fun b o hs => by
    rcases H.sub b o hs with h1 | h1 | h1
    · exact .inl h1
    · exact .inr h1
    · exact h1.elim
  have hι : ∀ i, i < V.nx → (V.join V1 V.nx).ι i = V.ι i := fun i hi => by simp [Vu.join, hi]
  have hκ : ∀ i, i < V.nx → ∀ m, (V.join V1 V.nx).κ i m = V.κ i m := fun i hi m => by simp [Vu.join, hi]
  have hcu : ∀ i, i < V.nx → (V.join V1 V.nx).cu i = V.cu i := fun i hi => by simp [Vu.join, hi]
  have hg : V.Grow (V.join V1 V.nx) w w' := ⟨Nat.le_add_right _ _, hι, hcu, fun i hi m _ => hκ i hi m, H.le0.S, hback, H.sz⟩
  have H0 := h.later hx hg
  have L := h.le hx hg
  have hnew : ∀ i B, lk m1.hp i = some B → w.heap.size ≤ V1.ι i := fun i B hi => by
    rcases (H.new i B hi).1 with h1 | h1
    · exact h1
    · exact h1.elim
  have hold : ∀ i B, lk hp i = some B → (V.join V1 V.nx).ι i < w.heap.size := fun i B hi => by
    obtain ⟨h1, o, ho, -⟩ := h.own i B hi
    rw [hι i h1]; exact heap_lt ho
  have htn : ∀ i T g, lk m1.tk i = some (some T) → (V1.κ i T.n).ownBlock = some g → w.heap.size ≤ g := fun i T g hi hg => by
    obtain ⟨-, -, xs, -, h4⟩ := H.tok i T hi
    rcases (h4 g hg).1 with h5 | h5
    · exact h5
    · exact h5.elim
  have hto : ∀ i T g, lk tk i = some (some T) → ((V.join V1 V.nx).κ i T.n).ownBlock = some g → g < w.heap.size := fun i T g hi hg => by
    obtain ⟨h1, -, xs, h3, -⟩ := h.tok i T hi
    rw [hκ i h1] at hg
    exact (h3.lt g hg).2
  have hlk : ∀ {α : Type} (f : α → α) (l m : List (Nat × α)) (i : Nat) (B : α), lk (shiftK V.nx f l ++ m) i = some B → (∃ j B0, i = j + V.nx ∧ lk l j = some B0 ∧ B = f B0) ∨ lk m i = some B := by
    intro α f l m i B hi
    rw [lk_append] at hi
    split at hi
    · rename_i y hy; cases hi; exact .inl (lk_shiftK l i _ hy)
    · exact .inr hi
  refine ⟨⟨H0.ext, H0.le0, H0.sz, H0.sub, ?_, ?_, ?_, ?_, ?_⟩, L⟩
  · intro i B hi
    rcases hlk _ _ _ i B hi with ⟨j, B0, rfl, h1, rfl⟩ | h1
    · obtain ⟨h2, o, h3, h4⟩ := H.own j B0 h1
      exact ⟨by show j + V.nx < V.nx + V1.nx; omega, o, by rw [join_hi.1]; exact h3, h4.shift⟩
    · exact H0.own i B h1
  · intro i j A B hi hj e
    rcases hlk _ _ _ i A hi with ⟨i', A0, rfl, h1, -⟩ | h1 <;> rcases hlk _ _ _ j B hj with ⟨j', B0, rfl, h2, -⟩ | h2
    · rw [join_hi.1, join_hi.1] at e
      rw [H.inj i' j' A0 B0 h1 h2 e]
    · rw [join_hi.1] at e
      have := hnew _ _ h1; have := hold _ _ h2; omega
    · rw [join_hi.1] at e
      have := hnew _ _ h2; have := hold _ _ h1; omega
    · exact H0.inj i j A B h1 h2 e
  · intro i B hi
    rcases hlk _ _ _ i B hi with ⟨j, B0, rfl, h1, rfl⟩ | h1
    · rw [join_hi.1]
      exact ⟨.inl (Nat.le_trans h.ext.size (hnew _ _ h1)), (H.new j B0 h1).2⟩
    · exact H0.new i B h1
  · intro i T hi
    rcases hlk _ _ _ i _ hi with ⟨j, T0, rfl, h1, rfl⟩ | h1
    · obtain ⟨h2, h3, xs, h4, h5⟩ := H.tok j T h1
      refine ⟨by show j + V.nx < V.nx + V1.nx; omega, by rw [join_hi.2.2]; exact h3, xs, by rw [join_hi.2.1]; exact h4, fun g hg => ?_⟩
      rw [join_hi.2.1] at hg
      have hge := htn j T g h1 hg
      refine ⟨.inl (Nat.le_trans h.ext.size hge), (h5 g hg).2.1, fun k B hk => ?_⟩
      rcases hlk _ _ _ k B hk with ⟨k', B0, rfl, h6, -⟩ | h6
      · rw [join_hi.1]; exact (h5 g hg).2.2 k' B0 h6
      · have := hold _ _ h6; omega
    · obtain ⟨h2, h3, xs, h4, h5⟩ := H0.tok i T h1
      refine ⟨h2, h3, xs, h4, fun g hg => ⟨(h5 g hg).1, (h5 g hg).2.1, fun k B hk => ?_⟩⟩
      rcases hlk _ _ _ k B hk with ⟨k', B0, rfl, h6, -⟩ | h6
      · rw [join_hi.1]
        have := hnew _ _ h6; have := hto _ _ _ h1 hg; omega
      · exact (h5 g hg).2.2 k B h6
  · intro i j T U g hi hj ei ej
    rcases hlk _ _ _ i _ hi with ⟨i', T0, rfl, h1, rfl⟩ | h1 <;> rcases hlk _ _ _ j _ hj with ⟨j', U0, rfl, h2, rfl⟩ | h2
    · rw [join_hi.2.1] at ei ej
      rw [H.tki i' j' T U g h1 h2 ei ej]
    · rw [join_hi.2.1] at ei
      have := htn _ _ _ h1 ei; have := hto _ _ _ h2 ej; omega
    · rw [join_hi.2.1] at ej
      have := htn _ _ _ h2 ej; have := hto _ _ _ h1 ei; omega
    · exact H0.tki i j T U g h1 h2 ei ej
theorem OpOK.callJoin {x : Operand} {f : FuncId} {ars : Array Operand} {args args' : List AV} {ats : Array TypeId} {res : TV} {m1 : Mem} (hx : ev st.tm x = some (.v (.one (.fn f [])))) (ha : evArgs st.tm ars.toList = some args) (hs : asAVs args = some args')
    (hc : CallM E.P f args' mem0 res m1) : OpOK E ⟨dd, .call { callee := .value x, args := ars, argTypes := ats }, ty, pos, af, g⟩ st (res.shift st.nx) (st.mem.join m1) := by
  intro V a w hr ro n K Q hK
  refine ⟨fun _ _ => trivial, ?_⟩
  rw [Oper.semAt_eq _ _ _ (by intro c h; cases h)]
  rw [call_enters (by have := (hr.ev hx).2; simpa using this) hc.1]
  refine ⟨(by intro h; cases h), ?_⟩
  have har : argsRel (Vu.of V.S) w args' (ars.map a.eval) := by
    obtain ⟨h1, h2⟩ := args_rel hr ha
    obtain ⟨h3, h4⟩ := asAVs_spec hs
    refine ⟨by omega, fun i y hy => ?_⟩
    obtain ⟨x, hx', hxy⟩ := h4 i y hy
    obtain ⟨u, hu, hxu⟩ := h2 i x hx'
    exact ⟨u, hu, hxy.rel hxu⟩
  have hc' : CallsIn Fence.wide (n - 1) E.P f _ w _ := callsIn_wide.2 (hc.2 (EnvF E.P w V.S) (Vu.of V.S) w _ rfl (hrel0 hr.h.sz hr.h.tabs) rfl har)
  refine CallsIn.mono (F := FR ro) hc' ?_
  rintro e w' ⟨v, V1, rfl, H, hn, -, hres⟩
  obtain ⟨H2, L2⟩ := hr.h.join H
  rw [hr.nx] at H2 L2
  exact hK _ w' v H2 (by show st.nx + V1.nx = _; rw [hn]; rfl) L2 hres.shift
end
end Go.Proofs.YtcapifnaceegmaaGreatDoor
namespace Go.Proofs.YtcapifnaceegmaaGreatDoor
open Go.RowKit
set_option linter.unusedSimpArgs false
set_option linter.unusedVariables false
set_option linter.unusedSectionVars false
structure Cfg extends Tables where
  keep : List Nat
  oslT : List Nat
  rounds : Nat
structure Rec where
  call : FuncId → List AV → Mem → Option (TV × Mem)
  exec : Option Nat → Code → St → Option (Exit × St)
structure RecOK (P : Program) (r : Rec) : Prop where
  call : ∀ {f args m res m'}, r.call f args m = some (res, m') → CallM P f args m res m'
  exec : ∀ {rn c st e st'}, r.exec rn c st = some (e, st') → ExecOK P rn c st e st'
def rd (v : Option TV) : Option (TV × Option Mem) := match v with
  | some x => some (x, none)
  | none => none
def aSl (sz : Nat) : CA → Option (List (List C))
  | .d (.sl sz' es) => cond (Nat.beq sz' sz) (some es) none
  | .app _ sz' es => cond (Nat.beq sz' sz) (some es) none
  | .d (.v (.slice none 0 0)) => some []
  | _ => none
theorem aSl_ok {sz : Nat} {y : CA} {es : List (List C)} (h : aSl sz y = some es) : SlOf y sz es := by
  unfold aSl at h
  split at h
  · rename_i sz' es'
    cases hb : Nat.beq sz' sz with
    | false => rw [hb] at h; cases h
    | true => rw [hb] at h; cases h; rw [Nat.eq_of_beq_eq_true hb]; exact .d _ _
  · rename_i i sz' es'
    cases hb : Nat.beq sz' sz with
    | false => rw [hb] at h; cases h
    | true => rw [hb] at h; cases h; rw [Nat.eq_of_beq_eq_true hb]; exact .app _ _ _
  · cases h; exact .nil _
  · cases h
section
variable (T : Cfg) (st : St)
def aBin (op : BinOp) (t : TypeId) (x y : Operand) : Option TV :=
  match ev st.tm x, ev st.tm y with
  | some (.v (.one (.d (.v (.int k a))))), some (.v (.one (.d (.v (.int k' b))))) => match intBin op k a k' b with
    | some v => some (TVv v)
    | none => none
  | some (.v (.one (.d (.v (.string a))))), some (.v (.one (.d (.v (.string b))))) => match strBin op a b with
    | some v => some (TVv v)
    | none => none
  | some (.v (.one (.d (.v (.bool a))))), some (.v (.one (.d (.v (.bool b))))) => match lk T.bools t, op with
    | some _, .eql => some (TB (a == b))
    | some _, .neq => some (TB (!(a == b)))
    | _, _ => none
  | some (.v (.agg [.d (.v (.int .i64 a0)), .d (.v (.int .i64 a1))])), some (.v (.agg [.d (.v (.int .i64 b0)), .d (.v (.int .i64 b1))])) => match lk T.pairs t, op with
    | some _, .eql => some (TB ((a0 == b0) && (a1 == b1)))
    | some _, .neq => some (TB (!((a0 == b0) && (a1 == b1))))
    | _, _ => none
  | _, _ => none
def aUn (op : UnOp) (x : Operand) : Option TV :=
  match op, ev st.tm x with
  | .not, some (.v (.one (.d (.v (.bool b))))) => some (TB (!b))
  | .neg, some (.v (.one (.d (.v (.int k m))))) => some (TVv (.int k (k.wrap (0 - m))))
  | _, _ => none
def aField (s : TypeId) (x : Operand) (f : Nat) : Option TV :=
  match lk T.fld s with
  | none => none
  | some fs => match lk fs f with
    | none => none
    | some k => match ev st.tm x with
      | some (.v (.one (.ptr i off))) => some (.v (.one (.ptr i (off + k))))
      | some (.v (.one (.pel e off))) => some (.v (.one (.pel e (off + k))))
      | _ => none
def aLoad (t : TypeId) (x : Operand) : Option TV :=
  match lk T.agg t with
  | none => none
  | some (ag, n) => match ev st.tm x with
    | some (.v (.one (.ptr i off))) => match lk st.hp i with
      | some (.cells _ xs) => match ag with
        | false => match xs[off]? with
          | some y => some (.v (.one y))
          | none => none
        | true => cond (Nat.beq ((xs.drop off).take n).length n) (some (.v (.agg ((xs.drop off).take n)))) none
      | _ => none
    | some (.v (.one (.pel e off))) => match ag with
      | false => match e[off]? with
        | some c => some (.v (.one (.d c)))
        | none => none
      | true => cond (Nat.beq ((e.drop off).take n).length n) (some (.v (.agg (((e.drop off).take n).map .d)))) none
    | _ => none
def aIndex (t : TypeId) (x y : Operand) : Option TV :=
  match ev st.tm y with
  | some (.v (.one (.d (.v (.int kk (.ofNat k)))))) => match lk T.sl t with
    | some (_, sz) => match ev st.tm x with
      | some (.v (.one (.osl i off len _))) => cond (Nat.blt k len) (some (.v (.one (.ptr i (off + k * sz))))) none
      | some (.v (.one z)) => match kk, aSl sz z with
        | .i64, some es => match es[k]? with
          | some e => some (.v (.one (.pel e 0)))
          | none => none
        | _, _ => none
      | _ => none
    | none => match lk T.arr t with
      | some (n, sz) => cond (Nat.blt k n) (match ev st.tm x with
        | some (.v (.one (.ptr i off))) => some (.v (.one (.ptr i (off + k * sz))))
        | some (.v (.one (.pel e off))) => some (.v (.one (.pel e (off + k * sz))))
        | _ => none) none
      | none => none
  | _ => none
def aIndexStr (t : TypeId) (x y : Operand) : Option TV :=
  match lk T.strs t, ev st.tm x, ev st.tm y with
  | some _, some (.v (.one (.d (.v (.string s))))), some (.v (.one (.d (.v (.int _ (.ofNat k)))))) => match s[k]? with
    | some b => some (TVv (.int .u8 b.toNat))
    | none => none
  | _, _, _ => none
def aExtract (x : Operand) (k : Nat) : Option TV :=
  match ev st.tm x with
  | some (.tup xs) => match xs[k]? with
    | some y => some (.v y)
    | none => none
  | _ => none
def evParts (tm : List (Nat × TV)) : List (Nat × Operand) → Option (List (Nat × AV))
  | [] => some []
  | (i, o) :: os => match ev tm o, evParts tm os with
    | some (.v x), some xs => some ((i, x) :: xs)
    | _, _ => none
def aBuild (t : TypeId) (parts : Array (Nat × Operand)) : Option TV :=
  match lk T.places t, lk T.zero t, evParts st.tm parts.toList with
  | some pl, some zs, some avs => match fillL pl (zs.map fun z => .d (.v z)) avs with
    | some ys => some (.v (.agg ys))
    | none => none
  | _, _, _ => none
def aPtrs (tm : List (Nat × TV)) : List Operand → Option (List (Nat × Nat))
  | [] => some []
  | o :: os => match ev tm o, aPtrs tm os with
    | some (.v (.one (.ptr i k))), some l => some ((i, k) :: l)
    | _, _ => none
def aFunc (fn : Fn) (first caps : List Operand) : Option (TV × Option Mem) :=
  match fn, first, aPtrs st.tm caps with
  | .func f, [], some l => some (.v (.one (.fn f l)), none)
  | _, _, _ => none
def aSlice (t : TypeId) (x : Operand) (lo hi mx : Option Operand) : Option TV :=
  match ev st.tm x with
  | some (.v (.one (.d (.v (.string s))))) => match lk T.strs t, boundsOf st s.size lo hi mx with
    | some _, some (l, h) => some (TVv (.string (s.extract l h)))
    | _, _ => none
  | some (.v (.one (.osl i off len cap))) => match lk T.sl t, boundsOf st len lo hi mx with
    | some (_, sz), some (l, h) => cond (Nat.ble len cap) (some (.v (.one (.osl i (cond (Nat.beq cap l) off (off + l * sz)) (h - l) (cap - l))))) none
    | _, _ => none
  | some (.v (.one y)) => match lk T.sl t with
    | some (_, sz) => match aSl sz y with
      | some es => match boundsOf st es.length lo hi mx with
        | some (l, h) => some (.v (.one (.d (.sl sz ((es.drop l).take (h - l))))))
        | none => none
      | none => none
    | none => none
  | _ => none
def aNil (x : Operand) : Option TV :=
  match ev st.tm x with
  | some (.v (.one (.ptr i off))) => some (.v (.one (.ptr i off)))
  | some (.v (.one (.pel e off))) => some (.v (.one (.pel e off)))
  | _ => none
def aConv (s t : TypeId) (x : Operand) : Option TV :=
  match lk T.ints s, lk T.ints t, ev st.tm x with
  | some _, some k', some (.v (.one (.d (.v (.int _ m))))) => some (TVv (.int k' (k'.wrap m)))
  | _, _, _ => none
def aLookup (t : TypeId) (x y : Operand) (ok : Bool) : Option TV :=
  match lk T.mp t, ev st.tm x, ev st.tm y with
  | some (ib, z), some (.v (.one (.mp i))), some (.v (.one (.d (.v k)))) => match lk st.hp i with
    | some (.mp es _) => cond (keyOf ib k) (match findE k es 0 with
      | some (some (_, x)) => some (cond ok (.tup [x, .one (.d (.v (.bool true)))]) (.v x))
      | some none => some (cond ok (.tup [z, .one (.d (.v (.bool false)))]) (.v z))
      | none => none) none
    | _ => none
  | _, _, _ => none
def aBuiltin (b : Builtin) (ars : List Operand) (ts : List TypeId) : Option (TV × Option Mem) :=
  match b, ars, ts with
  | .len, [x], [t] => match ev st.tm x with
    | some (.v (.one (.d (.v (.string s))))) => match lk T.strs t with
      | some _ => some (TI s.size, none)
      | none => none
    | some (.v (.one (.osl _ _ len _))) => match lk T.sl t with
      | some _ => some (TI len, none)
      | none => none
    | some (.v (.one y)) => match lk T.sl t with
      | some (_, sz) => match aSl sz y with
        | some es => some (TI es.length, none)
        | none => none
      | none => none
    | _ => none
  | .max, [x, y], [_, _] => match ev st.tm x, ev st.tm y with
    | some (.v (.one (.d (.v (.int .i64 a))))), some (.v (.one (.d (.v (.int .i64 b))))) => some (TI (max a b), none)
    | _, _ => none
  | .min, [x, y], [_, _] => match ev st.tm x, ev st.tm y with
    | some (.v (.one (.d (.v (.int .i64 a))))), some (.v (.one (.d (.v (.int .i64 b))))) => some (TI (min a b), none)
    | _, _ => none
  | .append, [x, y], [t, t'] => match lk T.sl t with
    | some (e, sz) => match lk T.elem e, Nat.beq t t' with
      | some (sz', by_), true => cond (Nat.beq sz' sz && Nat.ble by_ 100000) (match ev st.tm y with
        | some (.v (.one z)) => match aSl sz z with
          | some es2 => match ev st.tm x with
            | some (.v (.one (.app i sz2 es))) => match lk st.tk i with
              | some (some T') => cond (Nat.beq sz2 sz && Nat.beq T'.E e && Nat.beq T'.sz sz && Nat.beq T'.n es.length && Nat.ble (es.length + es2.length) 1000000000)
                (some (.v (.one (.app i sz (es ++ es2))), some ⟨st.hp, (i, some ⟨e, sz, (es ++ es2).length⟩) :: dropK i st.tk, st.nx⟩)) none
              | _ => none
            | some (.v (.one (.d (.v (.slice none 0 0))))) => match es2 with
              | [] => some (TVv (.slice none 0 0), none)
              | e2 :: r => cond (Nat.ble (e2 :: r).length 1000000000) (some (.v (.one (.app st.nx sz (e2 :: r))), some ⟨st.hp, (st.nx, some ⟨e, sz, (e2 :: r).length⟩) :: st.tk, st.nx + 1⟩)) none
            | _ => none
          | none => none
        | _ => none) none
      | _, _ => none
    | none => none
  | _, _, _ => none
def chunks (sz : Nat) : Nat → List C → List (List C)
  | 0, _ => []
  | n + 1, l => l.take sz :: chunks sz n (l.drop sz)
def aLit (ap : Bool) (t len : Nat) (parts : Array (Nat × Operand)) : Option (TV × Option Mem) :=
  match lk T.sl t with
  | none => none
  | some (e, sz) => match lk T.zero e, evParts st.tm parts.toList with
    | some zs, some avs => cond (Nat.beq zs.length sz && Nat.blt 0 sz && Nat.ble (len * sz) 16777216) (match fillL (rowPlaces sz len) (zeroRow zs len) avs with
      | some ys => match T.oslT.contains t, asCs ys with
        | false, some cs => cond (Nat.beq cs.length (len * sz)) (cond ap
            (some (.v (.one (.app st.nx sz (chunks sz len cs))), some ⟨st.hp, (st.nx, some ⟨e, sz, len⟩) :: st.tk, st.nx + 1⟩))
            (some (.v (.one (.d (.sl sz (chunks sz len cs)))), none))) none
        | _, _ => some (.v (.one (.osl st.nx 0 len len)), some ⟨(st.nx, .cells e ys) :: st.hp, st.tk, st.nx + 1⟩)
      | none => none) none
    | _, _ => none
def aMake (t : TypeId) (x y : Operand) : Option (TV × Option Mem) :=
  match lk T.sl t, ev st.tm x, ev st.tm y with
  | some (e, sz), some (.v (.one (.d (.v (.int _ (.ofNat l)))))), some (.v (.one (.d (.v (.int _ (.ofNat c)))))) => match lk T.zero e, lk T.elem e with
    | some zs, some (sz', by_) => cond (Nat.beq zs.length sz && Nat.beq sz' sz && Nat.ble l c && Nat.ble (by_ * c) 281474976710656 && Nat.ble c 9223372036854775807)
      (some (.v (.one (.osl st.nx 0 l c)), some ⟨(st.nx, .cells e (zeroRow zs c)) :: st.hp, st.tk, st.nx + 1⟩)) none
    | _, _ => none
  | _, _, _ => none
def aStore (t : TypeId) (x y : Operand) : Option (TV × Option Mem) :=
  match lk T.agg t, ev st.tm x, ev st.tm y with
  | some (_, n), some (.v (.one (.ptr i off))), some (.v z) => match lk st.hp i with
    | some (.cells T' xs) => cond (Nat.beq z.cells.length n && Nat.ble (off + n) xs.length) (some (.tup [], some ⟨(i, .cells T' (setL xs off z.cells)) :: dropK i st.hp, st.tk, st.nx⟩)) none
    | _ => none
  | _, _, _ => none
def aMapSet (t : TypeId) (x y z : Operand) : Option (TV × Option Mem) :=
  match lk T.mp t, ev st.tm x, ev st.tm y with
  | some (ib, _), some (.v (.one (.mp i))), some (.v (.one (.d (.v k)))) => match lk st.hp i, ev st.tm z with
    | some (.mp es clock), some (.v v) => cond (keyOf ib k) (match findE k es 0 with
      | some (some (j, _)) => some (.tup [], some ⟨(i, .mp (es.modify j fun e => (k, v, e.2.2)) clock) :: dropK i st.hp, st.tk, st.nx⟩)
      | some none => some (.tup [], some ⟨(i, .mp (es ++ [(k, v, clock)]) (clock + 1)) :: dropK i st.hp, st.tk, st.nx⟩)
      | none => none) none
    | _, _ => none
  | _, _, _ => none
def aYield (r : Rec) (L : Nat) (args : List AV) : Option (TV × Option Mem) :=
  match lk st.hp L with
  | some (.loop .ready _ tm0 nt0 ps0 as0 bd0 _) => cond (Nat.beq args.length ps0.size && ps0.toList.all fun t => Nat.blt t nt0)
    (match r.exec (some L) as0 ⟨putArgs ps0.toList args tm0, st.hp, st.tk, st.nx, nt0, []⟩ with
      | some (.normal, sa) => match lk sa.hp L with
        | some (.loop .ready p1 tm1 nt1 ps1 as1 bd1 D1) => match r.exec (some L) bd0 ⟨sa.tm, (L, .loop .busy p1 tm1 nt1 ps1 as1 bd1 D1) :: dropK L sa.hp, sa.tk, sa.nx, sa.nt, sa.df⟩ with
          | some (e, sb) => match lk sb.hp L, jumpOf e with
            | some (.loop .busy _ tm2 nt2 ps2 as2 bd2 D2), some jump => some (TB jump.isNone, some ⟨(L, .loop (if jump.isNone then .ready else .done) jump tm2 nt2 ps2 as2 bd2 D2) :: dropK L sb.hp, sb.tk, sb.nx⟩)
            | _, _ => none
          | none => none
        | _ => none
      | _ => none) none
  | _ => none
def aCall (r : Rec) (x : Operand) (ars : Array Operand) : Option (TV × Option Mem) :=
  match evArgs st.tm ars.toList with
  | none => none
  | some args => match ev st.tm x with
    | some (.v (.one (.fn f caps))) => match caps, asAVs args with
      | [], some args' => match r.call f args' mem0 with
        | some (res, m1) => match T.keep.contains f, asTV res with
          | false, some res' => some (res', none)
          | _, _ => some (res.shift st.nx, some (st.mem.join m1))
        | none => none
      | _, _ => match r.call f (args ++ ptrs caps) st.mem with
        | some (res, m1) => some (res, some m1)
        | none => none
    | some (.v (.one (.yld L))) => aYield st r L args
    | _ => none
def aop (r : Rec) (ap : Bool) (o : Oper) : Option (TV × Option Mem) :=
  match o.op with
  | .move x => rd (ev st.tm x)
  | .assign x => rd (ev st.tm x)
  | .pick c x y => match ev st.tm c with
    | some (.v (.one (.d (.v (.bool true))))) => rd (ev st.tm x)
    | some (.v (.one (.d (.v (.bool false))))) => rd (ev st.tm y)
    | _ => none
  | .binOp op t x y _ => rd (aBin T st op t x y)
  | .unOp op _ x => rd (aUn st op x)
  | .fieldAddr s x f => rd (aField T st s x f)
  | .load t x => rd (aLoad T st t x)
  | .indexAddr t x y => rd (aIndex T st t x y)
  | .index t x y => rd (aIndexStr T st t x y)
  | .extract x k => rd (aExtract st x k)
  | .build t parts => rd (aBuild T st t parts)
  | .makeFunc fn first caps => aFunc st fn first.toList caps.toList
  | .nilCheck x => rd (aNil st x)
  | .convert s t x => rd (aConv T st s t x)
  | .slice t x lo hi mx => rd (aSlice T st t x lo hi mx)
  | .lookup t x y ok => rd (aLookup T st t x y ok)
  | .box t x => match ev st.tm x with
    | some (.v v) => some (.v (.one (.ptr st.nx 0)), some ⟨(st.nx, .cells t v.cells) :: st.hp, st.tk, st.nx + 1⟩)
    | _ => none
  | .alloc t => match lk T.zero t with
    | some zs => some (.v (.one (.ptr st.nx 0)), some ⟨(st.nx, .cells t (zs.map fun z => .d (.v z))) :: st.hp, st.tk, st.nx + 1⟩)
    | none => none
  | .store t x y => match o.dst with
    | none => aStore T st t x y
    | some _ => none
  | .buildSlice t len parts => aLit T st ap t len parts
  | .makeSlice t x y => aMake T st t x y
  | .makeMap _ none => some (.v (.one (.mp st.nx)), some ⟨(st.nx, .mp [] 0) :: st.hp, st.tk, st.nx + 1⟩)
  | .mapUpdate t x y z => match o.dst with
    | none => aMapSet T st t x y z
    | some _ => none
  | .call c => match c.callee with
    | .builtin b => aBuiltin T st b c.args.toList c.argTypes.toList
    | .value x => aCall T st r x c.args
    | _ => none
  | _ => none
end
section
variable {E : Env} {T : Cfg} {st : St} {dd : Option Nat} {ty : TypeId} {pos : String} {af : Array Edge} {g : Option (Nat × Bool)}
theorem beq_t {a b : Nat} {α : Type} {x y : α} (h : cond (Nat.beq a b) (some x) none = some y) : a = b ∧ x = y := by
  cases hb : Nat.beq a b with
  | false => rw [hb] at h; cases h
  | true => rw [hb] at h; cases h; exact ⟨Nat.eq_of_beq_eq_true hb, rfl⟩
theorem cond_t {b : Bool} {α : Type} {x : Option α} {y : α} (h : cond b x none = some y) : b = true ∧ x = some y := by
  cases b with
  | false => cases h
  | true => exact ⟨rfl, h⟩
theorem blt_t {a b : Nat} (h : Nat.blt a b = true) : a < b := Nat.le_of_ble_eq_true h
theorem aBin_ok (hT : T.OK E.P) {op : BinOp} {t t' : TypeId} {x y : Operand} {v : TV} (h : aBin T st op t x y = some v) : RO E ⟨dd, .binOp op t x y t', ty, pos, af, g⟩ st v := by
  unfold aBin at h
  split at h
  · rename_i k a k' b hx hy
    split at h
    · rename_i v' hv; cases h; exact RO.binInt hx hy hv
    · cases h
  · rename_i a b hx hy
    split at h
    · rename_i v' hv; cases h; exact RO.binStr hx hy hv
    · cases h
  · rename_i a b hx hy
    split at h
    · rename_i u hl; cases h; exact RO.eqBool (hT.bools.get hl) hx hy
    · rename_i u hl; cases h; exact RO.neqBool (hT.bools.get hl) hx hy
    · cases h
  · rename_i a0 a1 b0 b1 hx hy
    split at h
    · rename_i u hl; cases h; exact RO.eqPair (hT.pairs.get hl) hx hy
    · rename_i u hl; cases h; exact RO.neqPair (hT.pairs.get hl) hx hy
    · cases h
  · cases h
theorem aUn_ok {op : UnOp} {t : TypeId} {x : Operand} {v : TV} (h : aUn st op x = some v) : RO E ⟨dd, .unOp op t x, ty, pos, af, g⟩ st v := by
  unfold aUn at h
  split at h
  · rename_i b hx; cases h; exact RO.not hx
  · rename_i k m hx; cases h; exact RO.negI hx
  · cases h
theorem aField_ok (hT : T.OK E.P) {s f : Nat} {x : Operand} {v : TV} (h : aField T st s x f = some v) : RO E ⟨dd, .fieldAddr s x f, ty, pos, af, g⟩ st v := by
  unfold aField at h
  split at h
  · cases h
  · rename_i fs hfs
    split at h
    · cases h
    · rename_i k hk
      have hf := (hT.fld.get hfs).get hk
      split at h
      · rename_i i off hx; cases h; exact RO.fieldOwn hf hx
      · rename_i e off hx; cases h; exact RO.fieldPel hf hx
      · cases h
theorem aLoad_ok (hT : T.OK E.P) {t : Nat} {x : Operand} {v : TV} (h : aLoad T st t x = some v) : RO E ⟨dd, .load t x, ty, pos, af, g⟩ st v := by
  unfold aLoad at h
  split at h
  · cases h
  · rename_i ag n ha
    have ha := hT.agg.get ha
    split at h
    · rename_i i off hx
      split at h
      · rename_i T' xs hi
        split at h
        · split at h
          · rename_i y hy; cases h; exact RO.loadOwn ha hx hi hy
          · cases h
        · obtain ⟨hn, rfl⟩ := beq_t h
          exact RO.loadOwnAgg ha hx hi rfl hn
      · cases h
    · rename_i e off hx
      split at h
      · split at h
        · rename_i c hc; cases h; exact RO.loadPel ha hx hc
        · cases h
      · obtain ⟨hn, rfl⟩ := beq_t h
        exact RO.loadPelAgg ha hx rfl hn
    · cases h
theorem aIndex_ok (hT : T.OK E.P) {t : Nat} {x y : Operand} {v : TV} (h : aIndex T st t x y = some v) : RO E ⟨dd, .indexAddr t x y, ty, pos, af, g⟩ st v := by
  unfold aIndex at h
  split at h
  · rename_i kk k hy
    split at h
    · rename_i e sz hs
      have hs := hT.sl.get hs
      split at h
      · rename_i i off len cap hx
        obtain ⟨hb, hv⟩ := cond_t h
        cases hv
        exact RO.indexOsl hs hx hy rfl (blt_t hb)
      · rename_i z hnot hx
        split at h
        · rename_i es hes
          split at h
          · rename_i el hel; cases h; exact RO.index hs hx (aSl_ok hes) hy rfl hel
          · cases h
        · cases h
      · cases h
    · split at h
      · rename_i n sz ha
        have ha := hT.arr.get ha
        obtain ⟨hb, h⟩ := cond_t h
        split at h
        · rename_i i off hx; cases h; exact RO.indexArrOwn ha hx hy rfl (blt_t hb)
        · rename_i e off hx; cases h; exact RO.indexArrPel ha hx hy rfl (blt_t hb)
        · cases h
      · cases h
  · cases h
theorem aIndexStr_ok (hT : T.OK E.P) {t : Nat} {x y : Operand} {v : TV} (h : aIndexStr T st t x y = some v) : RO E ⟨dd, .index t x y, ty, pos, af, g⟩ st v := by
  unfold aIndexStr at h
  split at h
  · rename_i u s kk k ht hx hy
    split at h
    · rename_i b hb; cases h; exact RO.indexStr (hT.strs.get ht) hx hy rfl hb
    · cases h
  · cases h
theorem aExtract_ok {x : Operand} {k : Nat} {v : TV} (h : aExtract st x k = some v) : RO E ⟨dd, .extract x k, ty, pos, af, g⟩ st v := by
  unfold aExtract at h
  split at h
  · rename_i xs hx
    split at h
    · rename_i y hy; cases h; exact RO.extract hx hy
    · cases h
  · cases h
theorem evParts_spec {tm : List (Nat × TV)} : ∀ {ps : List (Nat × Operand)} {avs : List (Nat × AV)}, evParts tm ps = some avs → ps.length = avs.length ∧ ∀ (j i : Nat) (x : AV), avs[j]? = some (i, x) → ∃ o, ps[j]? = some (i, o) ∧ ev tm o = some (.v x)
  | [], avs, h => by cases h; exact ⟨rfl, fun j i x hx => by simp at hx⟩
  | (i0, o) :: ps, avs, h => by
    simp only [evParts] at h
    split at h
    · rename_i x xs hx hxs
      cases h
      obtain ⟨h1, h2⟩ := evParts_spec hxs
      refine ⟨by simp [h1], fun j i y hy => ?_⟩
      cases j with
      | zero => simp at hy; obtain ⟨rfl, rfl⟩ := hy; exact ⟨o, rfl, hx⟩
      | succ j => exact h2 j i y (by simpa using hy)
    · cases h
theorem aBuild_ok (hT : T.OK E.P) {t : Nat} {parts : Array (Nat × Operand)} {v : TV} (h : aBuild T st t parts = some v) : RO E ⟨dd, .build t parts, ty, pos, af, g⟩ st v := by
  unfold aBuild at h
  split at h
  · rename_i pl zs avs hpl hzs havs
    split at h
    · rename_i ys hf
      cases h
      obtain ⟨h1, h2⟩ := evParts_spec havs
      obtain ⟨hz1, hz2⟩ := hT.zero.get hzs
      exact RO.build ⟨hT.places.get hpl, hz1⟩ hz2 h1 h2 hf
    · cases h
  · cases h
theorem aPtrs_spec {tm : List (Nat × TV)} : ∀ {os : List Operand} {l : List (Nat × Nat)}, aPtrs tm os = some l → os.length = l.length ∧ ∀ (k : Nat) (p : Nat × Nat), l[k]? = some p → ∃ o, os[k]? = some o ∧ ev tm o = some (.v (.one (.ptr p.1 p.2)))
  | [], l, h => by cases h; exact ⟨rfl, fun k p hp => by simp at hp⟩
  | o :: os, l, h => by
    simp only [aPtrs] at h
    split at h
    · rename_i i k l' hx hl
      cases h
      obtain ⟨h1, h2⟩ := aPtrs_spec hl
      refine ⟨by simp [h1], fun j p hp => ?_⟩
      cases j with
      | zero => simp at hp; subst hp; exact ⟨o, rfl, hx⟩
      | succ j => exact h2 j p (by simpa using hp)
    · cases h
theorem aFunc_ok {fn : Fn} {first caps : Array Operand} {x : TV} {m : Option Mem} (h : aFunc st fn first.toList caps.toList = some (x, m)) : OpOK E ⟨dd, .makeFunc fn first caps, ty, pos, af, g⟩ st x (m.getD st.mem) := by
  obtain ⟨first⟩ := first
  obtain ⟨caps⟩ := caps
  unfold aFunc at h
  split at h
  · rename_i f l hl hfirst
    cases h
    subst hl
    obtain ⟨h1, h2⟩ := aPtrs_spec hfirst
    exact OpOK.of_ro (RO.makeFunc (by simpa using h1) (fun k p hp => by obtain ⟨o, h3, h4⟩ := h2 k p hp; exact ⟨o, by simpa using h3, h4⟩))
  · cases h
theorem aSlice_ok (hT : T.OK E.P) {t : Nat} {x : Operand} {lo hi mx : Option Operand} {v : TV} (h : aSlice T st t x lo hi mx = some v) : RO E ⟨dd, .slice t x lo hi mx, ty, pos, af, g⟩ st v := by
  unfold aSlice at h
  split at h
  · rename_i s hx
    split at h
    · rename_i u l h' ht hb; cases h; exact RO.sliceStr (hT.strs.get ht) hx hb
    · cases h
  · rename_i i off len cap hx
    split at h
    · rename_i e sz l h' ht hb
      obtain ⟨hc, hv⟩ := cond_t h
      cases hv
      have := RO.sliceOsl (E := E) (d := dd) (ty := ty) (pos := pos) (af := af) (g := g) (hT.sl.get ht) hx (Nat.le_of_ble_eq_true hc) hb
      have e1 : cond (Nat.beq cap l) off (off + l * sz) = if cap = l then off else off + l * sz := by
        cases hq : Nat.beq cap l with
        | true => rw [if_pos (Nat.eq_of_beq_eq_true hq)]; rfl
        | false => rw [if_neg (fun e => by subst e; simp at hq)]; rfl
      rw [e1]; exact this
    · cases h
  · rename_i y hn1 hn2 hx
    split at h
    · rename_i e sz ht
      split at h
      · rename_i es hes
        split at h
        · rename_i l h' hb; cases h; exact RO.sliceD (hT.sl.get ht) hx (aSl_ok hes) hb
        · cases h
      · cases h
    · cases h
  · cases h
theorem aNil_ok {x : Operand} {v : TV} (h : aNil st x = some v) : RO E ⟨dd, .nilCheck x, ty, pos, af, g⟩ st v := by
  unfold aNil at h
  split at h
  · rename_i i off hx; cases h; exact RO.nilCheckPtr hx
  · rename_i e off hx; cases h; exact RO.nilCheckPel hx
  · cases h
theorem aConv_ok (hT : T.OK E.P) {s t : Nat} {x : Operand} {v : TV} (h : aConv T st s t x = some v) : RO E ⟨dd, .convert s t x, ty, pos, af, g⟩ st v := by
  unfold aConv at h
  split at h
  · rename_i k k' k2 m hs ht hx
    cases h
    refine RO.convInt (hT.ints.get ht) ?_ hx
    have := hT.ints.get hs
    unfold tyInt at this
    split at this
    · rename_i hu; exact ⟨_, hu⟩
    · cases this
  · cases h
theorem aLookup_ok (hT : T.OK E.P) {t : Nat} {x y : Operand} {ok : Bool} {v : TV} (h : aLookup T st t x y ok = some v) : RO E ⟨dd, .lookup t x y ok, ty, pos, af, g⟩ st v := by
  unfold aLookup at h
  split at h
  · rename_i ib z i k ht hx hy
    split at h
    · rename_i es clock hi
      obtain ⟨hk, h⟩ := cond_t h
      split at h
      · rename_i j x' hf; cases h; exact RO.lookup (hT.mp.get ht) hx hy hk hi hf ok
      · rename_i hf; cases h; exact RO.lookup (hT.mp.get ht) hx hy hk hi hf ok
      · cases h
    · cases h
  · cases h
theorem aBuiltin_ok (hT : T.OK E.P) {b : Builtin} {ars : Array Operand} {ts : Array TypeId} {x : TV} {m : Option Mem} (h : aBuiltin T st b ars.toList ts.toList = some (x, m)) : OpOK E ⟨dd, .call { callee := .builtin b, args := ars, argTypes := ts }, ty, pos, af, g⟩ st x (m.getD st.mem) := by
  obtain ⟨ars⟩ := ars
  obtain ⟨ts⟩ := ts
  simp only at h
  unfold aBuiltin at h
  split at h
  · rename_i x0 t
    split at h
    · rename_i s hx
      split at h
      · rename_i u ht; cases h; exact OpOK.of_ro (RO.lenStr (hT.strs.get ht) hx)
      · cases h
    · rename_i i off len cap hx
      split at h
      · rename_i u ht; cases h; exact OpOK.of_ro (RO.lenOsl (hT.sl.get ht) hx)
      · cases h
    · rename_i y hn1 hn2 hx
      split at h
      · rename_i e sz ht
        split at h
        · rename_i es hes; cases h; exact OpOK.of_ro (RO.len (hT.sl.get ht) hx (aSl_ok hes))
        · cases h
      · cases h
    · cases h
  · split at h
    · rename_i hx hy; cases h; exact OpOK.of_ro (RO.max2 hx hy)
    · cases h
  · split at h
    · rename_i hx hy; cases h; exact OpOK.of_ro (RO.min2 hx hy)
    · cases h
  · rename_i x0 y0 t t'
    split at h
    · rename_i e sz ht
      have ht := hT.sl.get ht
      split at h
      · rename_i sz' by_ hel hbt
        have htt : t = t' := Nat.eq_of_beq_eq_true hbt
        subst htt
        have hel := hT.elem.get hel
        obtain ⟨hc, h⟩ := cond_t h
        simp only [Bool.and_eq_true] at hc
        have hsz : sz' = sz := Nat.eq_of_beq_eq_true hc.1
        subst hsz
        have hby := Nat.le_of_ble_eq_true hc.2
        split at h
        · rename_i z hy
          split at h
          · rename_i es2 hes
            have hes := aSl_ok hes
            split at h
            · rename_i i sz2 es hx
              split at h
              · rename_i T' hi
                obtain ⟨hc2, h⟩ := cond_t h
                cases h
                simp only [Bool.and_eq_true] at hc2
                obtain ⟨⟨⟨⟨q1, q2⟩, q3⟩, q4⟩, q5⟩ := hc2
                have e1 := Nat.eq_of_beq_eq_true q1
                have e2 := Nat.eq_of_beq_eq_true q2
                have e3 := Nat.eq_of_beq_eq_true q3
                have e4 := Nat.eq_of_beq_eq_true q4
                obtain ⟨TE, Ts, Tn⟩ := T'
                dsimp only at e2 e3 e4
                subst e1; subst e2; subst e3; subst e4
                exact OpOK.appendApp ht hel hby hx hi hy hes (Nat.le_of_ble_eq_true q5)
              · cases h
            · rename_i hx
              split at h
              · cases h; exact OpOK.appendNil0 ht hx hy hes
              · rename_i e2 r
                obtain ⟨hc2, h⟩ := cond_t h
                cases h
                exact OpOK.appendNil ht hel hby hx hy hes (Nat.le_of_ble_eq_true hc2) (by simp)
            · cases h
          · cases h
        · cases h
      · cases h
    · cases h
  · cases h
theorem chunks_spec {sz : Nat} : ∀ (n : Nat) (l : List C), l.length = n * sz → (chunks sz n l).flatten = l ∧ (∀ x ∈ chunks sz n l, x.length = sz) ∧ (chunks sz n l).length = n
  | 0, l, h => by
    have : l = [] := List.eq_nil_of_length_eq_zero (by simpa using h)
    subst this
    exact ⟨rfl, fun x hx => by simp [chunks] at hx, rfl⟩
  | n + 1, l, h => by
    rw [Nat.succ_mul] at h
    obtain ⟨h1, h2, h3⟩ := chunks_spec (sz := sz) n (l.drop sz) (by rw [List.length_drop]; omega)
    refine ⟨by simp only [chunks, List.flatten_cons, h1, List.take_append_drop], fun x hx => ?_, by simp [chunks, h3]⟩
    simp only [chunks, List.mem_cons] at hx
    rcases hx with rfl | hx
    · rw [List.length_take]; omega
    · exact h2 x hx
theorem aLit_ok (hT : T.OK E.P) {ap : Bool} {t len : Nat} {parts : Array (Nat × Operand)} {x : TV} {m : Option Mem} (h : aLit T st ap t len parts = some (x, m)) : OpOK E ⟨dd, .buildSlice t len parts, ty, pos, af, g⟩ st x (m.getD st.mem) := by
  unfold aLit at h
  split at h
  · cases h
  · rename_i e sz ht
    have ht := hT.sl.get ht
    split at h
    · rename_i zs avs hzs havs
      obtain ⟨hz1, hz2⟩ := hT.zero.get hzs
      obtain ⟨h1, h2⟩ := evParts_spec havs
      obtain ⟨hc, h⟩ := cond_t h
      simp only [Bool.and_eq_true] at hc
      obtain ⟨⟨q1, q2⟩, q3⟩ := hc
      have e1 := Nat.eq_of_beq_eq_true q1
      have e2 := blt_t q2
      have e3 := Nat.le_of_ble_eq_true q3
      split at h
      · rename_i ys hf
        split at h
        · rename_i cs ho hcs
          obtain ⟨hc, h⟩ := cond_t h
          obtain ⟨c1, c2, c3⟩ := chunks_spec len cs (Nat.eq_of_beq_eq_true hc)
          have hsub : CSubs ys (chunks sz len cs).flatten := by rw [c1]; exact (asCs_subs hcs).1
          cases ap with
          | true =>
            cases h
            have := OpOK.litApp (E := E) (dd := dd) (ty := ty) (pos := pos) (af := af) (g := g) (chunks sz len cs) ht hz1 e1 hz2 e2 e3 h1 h2 hf hsub c2 c3
            rw [c3] at this; exact this
          | false =>
            cases h
            exact OpOK.litData (chunks sz len cs) ht hz1 e1 hz2 e3 h1 h2 hf hsub c2 c3
        · cases h; exact OpOK.litOsl ht hz1 e1 hz2 e3 h1 h2 hf
      · cases h
    · cases h
theorem aMake_ok (hT : T.OK E.P) {t : Nat} {o1 o2 : Operand} {x : TV} {m : Option Mem} (h : aMake T st t o1 o2 = some (x, m)) : OpOK E ⟨dd, .makeSlice t o1 o2, ty, pos, af, g⟩ st x (m.getD st.mem) := by
  unfold aMake at h
  split at h
  · rename_i e sz k1 l k2 c ht hx hy
    split at h
    · rename_i zs sz' by_ hzs hel
      obtain ⟨hc, h⟩ := cond_t h
      cases h
      simp only [Bool.and_eq_true] at hc
      obtain ⟨⟨⟨⟨q1, q2⟩, q3⟩, q4⟩, q5⟩ := hc
      have e2 := Nat.eq_of_beq_eq_true q2
      subst e2
      obtain ⟨hz1, hz2⟩ := hT.zero.get hzs
      exact OpOK.makeSlice (hT.sl.get ht) hz1 (Nat.eq_of_beq_eq_true q1) hz2 (hT.elem.get hel) hx hy (Nat.le_of_ble_eq_true q3) (Nat.le_of_ble_eq_true q4) (Nat.le_of_ble_eq_true q5)
    · cases h
  · cases h
theorem aStore_ok (hT : T.OK E.P) {t : Nat} {o1 o2 : Operand} {x : TV} {m : Option Mem} (h : aStore T st t o1 o2 = some (x, m)) : OpOK E ⟨none, .store t o1 o2, ty, pos, af, g⟩ st x (m.getD st.mem) := by
  unfold aStore at h
  split at h
  · rename_i ag n i off z ht hx hy
    split at h
    · rename_i T' xs hi
      obtain ⟨hc, h⟩ := cond_t h
      cases h
      simp only [Bool.and_eq_true] at hc
      exact OpOK.store (hT.agg.get ht) hx hy hi (Nat.eq_of_beq_eq_true hc.1) (Nat.le_of_ble_eq_true hc.2) rfl
    · cases h
  · cases h
theorem aMapSet_ok (hT : T.OK E.P) {t : Nat} {o1 o2 o3 : Operand} {x : TV} {m : Option Mem} (h : aMapSet T st t o1 o2 o3 = some (x, m)) : OpOK E ⟨none, .mapUpdate t o1 o2 o3, ty, pos, af, g⟩ st x (m.getD st.mem) := by
  unfold aMapSet at h
  split at h
  · rename_i ib z i k ht hx hy
    split at h
    · rename_i es clock v hi hz
      obtain ⟨hk, h⟩ := cond_t h
      split at h
      · rename_i j x' hf; cases h; exact OpOK.mapUpdate (hT.mp.get ht) hx hy hz hk hi hf rfl
      · rename_i hf; cases h; exact OpOK.mapUpdate (hT.mp.get ht) hx hy hz hk hi hf rfl
      · cases h
    · cases h
  · cases h
theorem aYield_ok {r : Rec} (hr : RecOK E.P r) {o : Operand} {L : Nat} {ars : Array Operand} {ats : Array TypeId} {args : List AV} {x : TV} {m : Option Mem} (hx : ev st.tm o = some (.v (.one (.yld L)))) (ha : evArgs st.tm ars.toList = some args) (h : aYield st r L args = some (x, m)) :
    OpOK E ⟨dd, .call { callee := .value o, args := ars, argTypes := ats }, ty, pos, af, g⟩ st x (m.getD st.mem) := by
  unfold aYield at h
  split at h
  · rename_i p0 tm0 nt0 ps0 as0 bd0 D0 hL
    obtain ⟨hc, h⟩ := cond_t h
    simp only [Bool.and_eq_true] at hc
    split at h
    · rename_i sa h1
      split at h
      · rename_i p1 tm1 nt1 ps1 as1 bd1 D1 h2
        split at h
        · rename_i e sb h3
          split at h
          · rename_i p2 tm2 nt2 ps2 as2 bd2 D2 jump h4 he
            cases h
            refine OpOK.yield hx ha hL ?_ hc.2 (hr.exec h1) h2 (hr.exec h3) h4 he
            have h5 := Nat.eq_of_beq_eq_true hc.1
            have h6 := (evArgs_spec ha).1
            simp only [Array.length_toList] at h6
            omega
          · cases h
        · cases h
      · cases h
    · cases h
  · cases h
theorem aCall_ok {r : Rec} (hr : RecOK E.P r) {o : Operand} {ars : Array Operand} {ats : Array TypeId} {x : TV} {m : Option Mem} (h : aCall T st r o ars = some (x, m)) : OpOK E ⟨dd, .call { callee := .value o, args := ars, argTypes := ats }, ty, pos, af, g⟩ st x (m.getD st.mem) := by
  unfold aCall at h
  split at h
  · cases h
  · rename_i args ha
    split at h
    · rename_i f caps hx
      split at h
      · rename_i args' hs
        split at h
        · rename_i res m1 hc
          split at h
          · rename_i res' hk hres; cases h; exact OpOK.callPure hx ha hs (hr.call hc) hres
          · cases h; exact OpOK.callJoin hx ha hs (hr.call hc)
        · cases h
      · split at h
        · rename_i res m1 hc; cases h; exact OpOK.call hx ha (hr.call hc)
        · cases h
    · rename_i L hx; exact aYield_ok hr hx ha h
    · cases h
theorem rd_ok {o : Oper} {v : Option TV} {x : TV} {m : Option Mem} (h : rd v = some (x, m)) (hv : ∀ y, v = some y → RO E o st y) : OpOK E o st x (m.getD st.mem) := by
  unfold rd at h
  split at h
  · rename_i y; cases h; exact OpOK.of_ro (hv _ rfl)
  · cases h
theorem aop_ok (hT : T.OK E.P) {r : Rec} (hr : RecOK E.P r) {ap : Bool} {o : Oper} {x : TV} {m : Option Mem} (h : aop T st r ap o = some (x, m)) : OpOK E o st x (m.getD st.mem) := by
  obtain ⟨dst, op, ty, pos, af, g⟩ := o
  unfold aop at h
  dsimp only at h
  split at h
  · exact rd_ok h fun y hy => RO.move hy
  · exact rd_ok h fun y hy => RO.assign hy
  · split at h
    · rename_i hc; exact rd_ok h fun y hy => RO.pickT hc hy
    · rename_i hc; exact rd_ok h fun y hy => RO.pickF hc hy
    · cases h
  · exact rd_ok h fun y hy => aBin_ok hT hy
  · exact rd_ok h fun y hy => aUn_ok hy
  · exact rd_ok h fun y hy => aField_ok hT hy
  · exact rd_ok h fun y hy => aLoad_ok hT hy
  · exact rd_ok h fun y hy => aIndex_ok hT hy
  · exact rd_ok h fun y hy => aIndexStr_ok hT hy
  · exact rd_ok h fun y hy => aExtract_ok hy
  · exact rd_ok h fun y hy => aBuild_ok hT hy
  · exact aFunc_ok h
  · exact rd_ok h fun y hy => aNil_ok hy
  · exact rd_ok h fun y hy => aConv_ok hT hy
  · exact rd_ok h fun y hy => aSlice_ok hT hy
  · exact rd_ok h fun y hy => aLookup_ok hT hy
  · split at h
    · rename_i v hx; cases h; exact OpOK.box hx
    · cases h
  · split at h
    · rename_i zs hz; cases h; exact OpOK.alloc (hT.zero.get hz).1 (hT.zero.get hz).2
    · cases h
  · split at h
    · exact aStore_ok hT h
    · cases h
  · exact aLit_ok hT h
  · exact aMake_ok hT h
  · cases h; exact OpOK.makeMap
  · split at h
    · exact aMapSet_ok hT h
    · cases h
  · rename_i c
    obtain ⟨callee, args, ats⟩ := c
    dsimp only at h
    split at h
    · exact aBuiltin_ok hT h
    · exact aCall_ok hr h
    · cases h
  · cases h
end
end Go.Proofs.YtcapifnaceegmaaGreatDoor
namespace Go.Proofs.YtcapifnaceegmaaGreatDoor
open Go.RowKit
set_option linter.unusedSimpArgs false
set_option linter.unusedVariables false
set_option linter.unusedSectionVars false
def vEq : Value → Value → Bool
  | .int k a, .int k' b => decide (k = k') && decide (a = b)
  | .bool a, .bool b => a == b
  | .string a, .string b => a == b
  | .slice none 0 0, .slice none 0 0 => true
  | .pointer none, .pointer none => true
  | .map none, .map none => true
  | .nilFunc, .nilFunc => true
  | .nilIface, .nilIface => true
  | _, _ => false
theorem vEq_eq {x y : Value} (h : vEq x y = true) : x = y := by
  unfold vEq at h
  split at h
  · simp at h; rw [h.1, h.2]
  · simp at h; rw [h]
  · rw [(Go.MapKept.bytes_beq _ _).1 h]
  all_goals first | rfl | cases h
def eqL {α : Type} (p : α → α → Bool) : List α → List α → Bool
  | [], [] => true
  | x :: xs, y :: ys => p x y && eqL p xs ys
  | _, _ => false
theorem eqL_eq {α : Type} {p : α → α → Bool} (hp : ∀ x y, p x y = true → x = y) : ∀ {xs ys : List α}, eqL p xs ys = true → xs = ys
  | [], [], _ => rfl
  | x :: xs, y :: ys, h => by
    simp only [eqL, Bool.and_eq_true] at h
    rw [hp x y h.1, eqL_eq hp h.2]
  | [], _ :: _, h => by cases h
  | _ :: _, [], h => by cases h
def cEq : Nat → C → C → Bool
  | 0, _, _ => false
  | _ + 1, .v x, .v y => vEq x y
  | n + 1, .sl a es, .sl b fs => Nat.beq a b && eqL (eqL (cEq n)) es fs
  | _ + 1, _, _ => false
theorem cEq_eq : ∀ {n : Nat} {x y : C}, cEq n x y = true → x = y
  | 0, _, _, h => by cases h
  | n + 1, .v x, .v y, h => by rw [vEq_eq h]
  | n + 1, .sl a es, .sl b fs, h => by
    simp only [cEq, Bool.and_eq_true] at h
    rw [Nat.eq_of_beq_eq_true h.1, eqL_eq (fun x y h => eqL_eq (fun x y h => cEq_eq h) h) h.2]
  | n + 1, .v _, .sl _ _, h => by cases h
  | n + 1, .sl _ _, .v _, h => by cases h
def caEq : CA → CA → Bool
  | .d c, .d c' => cEq 100 c c'
  | .ptr i o, .ptr i' o' => Nat.beq i i' && Nat.beq o o'
  | .pel e o, .pel e' o' => eqL (cEq 100) e e' && Nat.beq o o'
  | .fn f l, .fn f' l' => Nat.beq f f' && eqL (fun p q => Nat.beq p.1 q.1 && Nat.beq p.2 q.2) l l'
  | .app i sz es, .app i' sz' es' => Nat.beq i i' && Nat.beq sz sz' && eqL (eqL (cEq 100)) es es'
  | .osl i a b c, .osl i' a' b' c' => Nat.beq i i' && Nat.beq a a' && Nat.beq b b' && Nat.beq c c'
  | .mp i, .mp j => Nat.beq i j
  | .yld i, .yld j => Nat.beq i j
  | _, _ => false
theorem caEq_eq {x y : CA} (h : caEq x y = true) : x = y := by
  have hn : ∀ {a b : Nat}, Nat.beq a b = true → a = b := Nat.eq_of_beq_eq_true
  unfold caEq at h
  split at h
  · rw [cEq_eq h]
  · simp only [Bool.and_eq_true] at h; rw [hn h.1, hn h.2]
  · simp only [Bool.and_eq_true] at h; rw [eqL_eq (fun x y h => cEq_eq h) h.1, hn h.2]
  · simp only [Bool.and_eq_true] at h
    rw [hn h.1, eqL_eq (fun (x y : Nat × Nat) hxy => by simp only [Bool.and_eq_true] at hxy; exact Prod.ext (hn hxy.1) (hn hxy.2)) h.2]
  · simp only [Bool.and_eq_true] at h; rw [hn h.1.1, hn h.1.2, eqL_eq (fun x y h => eqL_eq (fun x y h => cEq_eq h) h) h.2]
  · simp only [Bool.and_eq_true] at h; rw [hn h.1.1.1, hn h.1.1.2, hn h.1.2, hn h.2]
  · rw [hn h]
  · rw [hn h]
  · cases h
def avEq : AV → AV → Bool
  | .one x, .one y => caEq x y
  | .agg xs, .agg ys => eqL caEq xs ys
  | _, _ => false
theorem avEq_eq {x y : AV} (h : avEq x y = true) : x = y := by
  unfold avEq at h
  split at h
  · rw [caEq_eq h]
  · rw [eqL_eq (fun x y h => caEq_eq h) h]
  · cases h
def tvEq : TV → TV → Bool
  | .v x, .v y => avEq x y
  | .tup xs, .tup ys => eqL avEq xs ys
  | _, _ => false
theorem tvEq_eq {x y : TV} (h : tvEq x y = true) : x = y := by
  unfold tvEq at h
  split at h
  · rw [avEq_eq h]
  · rw [eqL_eq (fun x y h => avEq_eq h) h]
  · cases h
def CA.belowB (m : Nat) : CA → Bool
  | .ptr i _ => Nat.blt i m
  | .fn _ caps => caps.all fun p => Nat.blt p.1 m
  | .app i _ _ => Nat.blt i m
  | .osl i _ _ _ => Nat.blt i m
  | .mp i => Nat.blt i m
  | .yld i => Nat.blt i m
  | _ => true
theorem CA.belowB_ok {m : Nat} {x : CA} (h : x.belowB m = true) : x.below m := by
  cases x <;> simp only [CA.belowB] at h <;> first | trivial | exact blt_t h | skip
  intro p hp
  exact blt_t (List.all_eq_true.1 h p hp)
def AV.belowB (m : Nat) : AV → Bool
  | .one x => x.belowB m
  | .agg xs => xs.all (CA.belowB m)
theorem AV.belowB_ok {m : Nat} {x : AV} (h : x.belowB m = true) : x.below m := by
  cases x with
  | one x => exact CA.belowB_ok h
  | agg xs => intro y hy; exact CA.belowB_ok (List.all_eq_true.1 h y hy)
def TV.belowB (m : Nat) : TV → Bool
  | .v x => x.belowB m
  | .tup xs => xs.all (AV.belowB m)
  | .unk => true
theorem TV.belowB_ok {m : Nat} {x : TV} (h : x.belowB m = true) : x.below m := by
  cases x with
  | v x => exact AV.belowB_ok h
  | tup xs => intro y hy; exact AV.belowB_ok (List.all_eq_true.1 h y hy)
  | unk => trivial
def HB.belowB (m : Nat) : HB → Bool
  | .cells _ xs => xs.all (CA.belowB m)
  | .obj _ => true
  | .loop _ _ tm _ _ _ _ D => Nat.blt D m && tm.all fun p => p.2.belowB m
  | .mp es _ => es.all fun e => e.2.1.belowB m
theorem lk_mem {α : Type} : ∀ {l : List (Nat × α)} {i : Nat} {x : α}, lk l i = some x → (i, x) ∈ l
  | [], i, x, h => by cases h
  | (k, v) :: l, i, x, h => by
    rw [lk_cons] at h
    split at h
    · rename_i e; subst e; cases h; exact List.mem_cons_self
    · exact List.mem_cons_of_mem _ (lk_mem h)
theorem HB.belowB_ok {m : Nat} {x : HB} (h : x.belowB m = true) : x.below m := by
  cases x with
  | cells T xs => intro y hy; exact CA.belowB_ok (List.all_eq_true.1 h y hy)
  | obj o => trivial
  | loop s p tm nt ps ars bd D =>
    simp only [HB.belowB, Bool.and_eq_true] at h
    exact ⟨blt_t h.1, fun t x hx => TV.belowB_ok (List.all_eq_true.1 h.2 _ (lk_mem hx))⟩
  | mp es c => intro e he; exact AV.belowB_ok (List.all_eq_true.1 h e he)
def keepLt {α : Type} (n : Nat) (l : List (Nat × α)) : List (Nat × α) := l.filter fun p => Nat.blt p.1 n
theorem lk_keepLt {α : Type} {n : Nat} : ∀ {l : List (Nat × α)} {i : Nat} {x : α}, lk (keepLt n l) i = some x → i < n ∧ lk l i = some x
  | [], i, x, h => by cases h
  | (k, v) :: l, i, x, h => by
    simp only [keepLt, List.filter_cons] at h
    split at h
    · rename_i hk
      rw [lk_cons] at h ⊢
      split at h
      · rename_i e; subst e; cases h; exact ⟨blt_t hk, by rw [if_pos rfl]⟩
      · rename_i e
        obtain ⟨h1, h2⟩ := lk_keepLt (l := l) h
        exact ⟨h1, by rw [if_neg e]; exact h2⟩
    · rename_i hk
      obtain ⟨h1, h2⟩ := lk_keepLt (l := l) h
      refine ⟨h1, ?_⟩
      rw [lk_cons, if_neg (fun e => hk ?_)]
      · exact h2
      · subst e; exact Nat.ble_eq_true_of_le h1
theorem CallM.trim {P : Program} {f : FuncId} {args : List AV} {m : Mem} {res : TV} {m1 : Mem} (h : CallM P f args m res m1) (hle : m.nx ≤ m1.nx) (hr : res.belowB m.nx = true) (hb : (keepLt m.nx m1.hp).all (fun p => p.2.belowB m.nx) = true) : CallM P f args m res ⟨keepLt m.nx m1.hp, keepLt m.nx m1.tk, m.nx⟩ := by
  refine ⟨h.1, fun E V w vs hP H hn hargs => ?_⟩
  have := h.2 E V w vs hP H hn hargs
  refine Calls.mono this ?_
  rintro e w' ⟨v, V1, rfl, H1, hn1, L1, hres⟩
  refine ⟨v, { V1 with nx := m.nx }, rfl, ?_, rfl, ?_, hres.trim (TV.belowB_ok hr)⟩
  · have hV0 : E.V0.nx ≤ m.nx := by rw [← hn]; exact H.le0.nx
    refine ⟨H1.ext, ⟨⟨hV0, H1.le0.ι, H1.le0.cu, H1.le0.κ, H1.le0.S, H1.le0.cell⟩, H1.le0.tab⟩, H1.sz, H1.sub, ?_, fun i j A B hi hj => H1.inj i j A B (lk_keepLt hi).2 (lk_keepLt hj).2, fun i B hi => H1.new i B (lk_keepLt hi).2, ?_, fun i j T U g hi hj => H1.tki i j T U g (lk_keepLt hi).2 (lk_keepLt hj).2⟩
    · intro i B hi
      obtain ⟨h1, h2⟩ := lk_keepLt hi
      obtain ⟨-, o, ho, hB⟩ := H1.own i B h2
      refine ⟨h1, o, ho, ?_⟩
      have hbel := HB.belowB_ok (List.all_eq_true.1 hb (i, B) (lk_mem hi))
      cases B with
      | cells T xs => obtain ⟨vs, h3, h4⟩ := hB; exact ⟨vs, h3, h4.trim hbel⟩
      | obj o' => exact hB
      | loop s p tm nt ps assign body D => obtain ⟨-, fn, tmps, h3, h4, h5⟩ := hB; exact ⟨hbel.1, fn, tmps, h3, h4, fun t x hx => (h5 t x hx).trim (hbel.2 t x hx)⟩
      | mp es clock => obtain ⟨ents, h3, h4, h5⟩ := hB; exact ⟨ents, h3, h4, fun i k x b hi => let ⟨v, h6, h7⟩ := h5 i k x b hi; ⟨v, h6, h7.trim (hbel _ (List.mem_of_getElem? hi))⟩⟩
    · intro i T hi
      obtain ⟨h1, h2⟩ := lk_keepLt hi
      obtain ⟨-, hcu, xs, h3, h4⟩ := H1.tok i T h2
      exact ⟨h1, hcu, xs, h3, fun g hg => ⟨(h4 g hg).1, (h4 g hg).2.1, fun j B hj => (h4 g hg).2.2 j B (lk_keepLt hj).2⟩⟩
  · exact ⟨by rw [hn]; exact Nat.le_refl _, L1.ι, L1.cu, L1.κ, L1.S, L1.cell⟩
inductive ACode where
  | skip
  | sq (ops : Array Oper)
  | any (ops : Array Oper) (effs : List Nat) (plan : List (Nat × List Nat)) (ok : Bool)
  | seq (a b : ACode)
  | cond (c : Operand) (a b : ACode)
  | block (id : Nat) (b : ACode)
  | loop (b : ACode)
  | rf (g : Operand) (ps : Array Nat) (a b : Code)
  | exit (id : Nat)
  | scope (b : ACode)
  | ret
  | bad
def firstArg (d : Nat) (o : Oper) : Bool := match o.op with
  | .call c => match c.callee, c.args.toList with
    | .builtin .append, .tmp t :: _ => Nat.beq t d
    | _, _ => false
  | _ => false
def effD (keep : List Nat) (ops : Array Oper) (o : Oper) : Bool := match o.op with
  | .box .. => true
  | .alloc .. => true
  | .store .. => true
  | .makeSlice .. => true
  | .makeMap .. => true
  | .mapUpdate .. => true
  | .buildSlice _ len _ => Nat.beq len 0 || (match o.dst with
    | some d => ops.any (firstArg d)
    | none => false)
  | .call c => match c.callee with
    | .builtin .append => true
    | .builtin _ => false
    | .value (.func f) => keep.contains f
    | _ => true
  | _ => false
def effsOf (keep : List Nat) (ops : Array Oper) : List Nat := (List.range ops.size).filter fun i => match ops[i]? with
  | some o => effD keep ops o
  | none => false
def planOf (ops : Array Oper) (effs : List Nat) : List (Nat × List Nat) := (List.range ops.size).map fun i => (i, (List.range (effs.length + 1)).filter fun j => mayAt ops effs i j)
def comp (keep : List Nat) : Code → ACode
  | .skip => .skip
  | .region _ ops false => .sq ops
  | .region _ ops true => .any ops (effsOf keep ops) (planOf ops (effsOf keep ops)) (anyB ops (effsOf keep ops))
  | .seq a b => .seq (comp keep a) (comp keep b)
  | .cond c a b => .cond c (comp keep a) (comp keep b)
  | .block id b => .block id (comp keep b)
  | .loop b => .loop (comp keep b)
  | .rangeFunc g ps a b => .rf g ps a b
  | .exit id => .exit id
  | .scope b => .scope (comp keep b)
  | .label _ => .skip
  | .ret => .ret
  | _ => .bad
section
variable (T : Cfg) (r : Rec)
def aSeq (ops : Array Oper) : List Oper → St → Option St
  | [], st => some st
  | o :: os, st => match wantedA ops st.tm o with
    | some true => match aop T st r true o with
      | some (x, m) => cond (dstOK st o.dst) (aSeq ops os (nextSt st o.dst x (m.getD st.mem))) none
      | none => none
    | some false => aSeq ops os (nextSt st o.dst (.tup []) st.mem)
    | none => none
def aHint (ops : Array Oper) (st : St) (effs : List Nat) : List Nat → List (Nat × TV) → Mem → Option (List (Nat × TV))
  | [], fx, _ => some fx
  | i :: is, fx, m => match ops[i]? with
    | none => none
    | some o => match wantedA ops (depsSt ops st fx i m).tm o with
      | some true => match aop T (depsSt ops st fx i m) r (effs.contains i) o with
        | some (x, m') => aHint ops st effs is ((i, x) :: fx) (m'.getD m)
        | none => none
      | some false => aHint ops st effs is ((i, .tup []) :: fx) m
      | none => none
def aMems (ops : Array Oper) (st : St) (fx : List (Nat × TV)) : List Nat → Mem → Option (List Mem)
  | [], m => some [m]
  | i :: is, m => match ops[i]?, lk fx i with
    | some o, some x => match wantedA ops (depsSt ops st fx i m).tm o with
      | some true => match aop T (depsSt ops st fx i m) r true o with
        | some (x', m') => cond (tvEq x x' && dstOK st o.dst) (match aMems ops st fx is (m'.getD m) with
          | some ms => some (m :: ms)
          | none => none) none
        | none => none
      | _ => none
    | _, _ => none
def aChk (ops : Array Oper) (st : St) (fx : List (Nat × TV)) (i : Nat) (m : Mem) : Bool :=
  match ops[i]?, lk fx i with
  | some o, some x => dstOK st o.dst && (match wantedA ops (depsSt ops st fx i m).tm o with
    | some true => match aop T (depsSt ops st fx i m) r false o with
      | some (x', none) => tvEq x x'
      | _ => false
    | some false => tvEq x (.tup [])
    | none => false)
  | _, _ => false
def aAny (ops : Array Oper) (effs : List Nat) (plan : List (Nat × List Nat)) (st : St) : Option St :=
  match aHint T r ops st effs (List.range ops.size) [] st.mem with
  | none => none
  | some fx => match aMems T r ops st fx effs st.mem with
    | none => none
    | some ms => match ms[effs.length]? with
      | none => none
      | some mE => cond (plan.all fun p => effs.contains p.1 || p.2.all fun j => match ms[j]? with
          | some m => aChk T r ops st fx p.1 m
          | none => false) (some (endSt ops st fx mE)) none
def aLoop (f : St → Option (Exit × St)) : Nat → St → Option (Exit × St)
  | 0, _ => none
  | n + 1, st => match f st with
    | some (.normal, st1) => aLoop f n st1
    | x => x
def notBusy : LoopState → Bool
  | .busy => false
  | _ => true
def exitOf : Option Code → Option Exit
  | none => some .normal
  | some .ret => some .ret
  | some (.exit id) => some (.exit id)
  | _ => none
def aRange (rn : Option Nat) (g : Operand) (ps : Array Nat) (assign body : Code) (st : St) : Option (Exit × St) :=
  match ev st.tm g with
  | some (.v (.one (.fn gf caps))) => match rn with
    | none => match r.call gf (.one (.yld (st.nx + 1)) :: ptrs caps) ⟨(st.nx + 1, .loop .ready none st.tm st.nt ps assign body st.nx) :: (st.nx, .obj (.deferred (some []))) :: st.hp, st.tk, st.nx + 2⟩ with
      | some (_, m2) => match lk m2.hp (st.nx + 1) with
        | some (.loop s jump _ _ _ _ _ _) => match notBusy s, exitOf jump with
          | true, some e => some (e, ⟨st.tm, dropK (st.nx + 1) m2.hp, m2.tk, m2.nx, st.nt, st.nx :: st.df⟩)
          | _, _ => none
        | _ => none
      | none => none
    | some L0 => match lk st.hp L0 with
      | some (.loop _ _ _ _ _ _ _ D0) => match r.call gf (.one (.yld st.nx) :: ptrs caps) ⟨(st.nx, .loop .ready none st.tm st.nt ps assign body D0) :: st.hp, st.tk, st.nx + 1⟩ with
        | some (_, m2) => match lk m2.hp st.nx with
          | some (.loop s jump _ _ _ _ _ _) => match notBusy s, exitOf jump with
            | true, some e => some (e, ⟨st.tm, dropK st.nx m2.hp, m2.tk, m2.nx, st.nt, st.df⟩)
            | _, _ => none
          | _ => none
        | none => none
      | _ => none
  | _ => none
def aexec (rn : Option Nat) : ACode → St → Option (Exit × St)
  | .skip, st => some (.normal, st)
  | .sq ops, st => match aSeq T r ops ops.toList st with
    | some st' => some (.normal, st')
    | none => none
  | .any ops effs plan ok, st => cond ok (match aAny T r ops effs plan st with
    | some st' => some (.normal, st')
    | none => none) none
  | .seq a b, st => match aexec rn a st with
    | some (.normal, st1) => aexec rn b st1
    | x => x
  | .cond c a b, st => match ev st.tm c with
    | some (.v (.one (.d (.v (.bool true))))) => aexec rn a st
    | some (.v (.one (.d (.v (.bool false))))) => aexec rn b st
    | _ => none
  | .block id b, st => match aexec rn b st with
    | some (.exit id', st1) => cond (Nat.beq id' id) (some (.normal, st1)) (some (.exit id', st1))
    | x => x
  | .loop b, st => aLoop (aexec rn b) T.rounds st
  | .rf g ps a b, st => aRange r rn g ps a b st
  | .exit id, st => some (.exit id, st)
  | .scope b, st => match aexec rn b st with
    | some (.goto _, _) => none
    | x => x
  | .ret, st => some (.ret, st)
  | .bad, _ => none
def aRes (st : St) : ResultVar → Option AV
  | .tmp t => match lk st.tm t with
    | some (.v x) => some x
    | _ => none
  | .cell ad t => match lk T.agg t, lk st.tm ad with
    | some (ag, n), some (.v (.one (.ptr i off))) => match lk st.hp i with
      | some (.cells _ xs) => match ag with
        | false => match xs[off]? with
          | some y => some (.one y)
          | none => none
        | true => cond (Nat.beq ((xs.drop off).take n).length n) (some (.agg ((xs.drop off).take n))) none
      | _ => none
    | _, _ => none
def aRess (st : St) : List ResultVar → Option (List AV)
  | [] => some []
  | v :: vs => match aRes T st v, aRess st vs with
    | some x, some xs => some (x :: xs)
    | _, _ => none
def aTrim (m : Mem) (res : TV) (m1 : Mem) : TV × Mem :=
  cond (Nat.ble m.nx m1.nx && res.belowB m.nx && (keepLt m.nx m1.hp).all fun p => p.2.belowB m.nx) (res, ⟨keepLt m.nx m1.hp, keepLt m.nx m1.tk, m.nx⟩) (res, m1)
def isEnd : Exit → Bool
  | .normal => true
  | .ret => true
  | _ => false
def acall (f : FuncId) (args : List AV) (m : Mem) : Option (TV × Mem) :=
  match lk T.fns f with
  | none => none
  | some fn => match fn.body with
    | none => none
    | some c => cond (Nat.ble args.length fn.ntmps) (match aexec T r none (comp T.keep c) ⟨entry 0 args, m.hp, m.tk, m.nx, fn.ntmps, []⟩ with
      | some (e, st') => cond (isEnd e) (match takeMarks st'.df st'.hp with
        | some hp' => match aRess T ⟨st'.tm, hp', st'.tk, st'.nx, st'.nt, []⟩ fn.results.toList with
          | some xs => some (aTrim m (resOf xs) ⟨hp', st'.tk, st'.nx⟩)
          | none => none
        | none => none) none
      | none => none) none
end
abbrev Known := FuncId → List AV → Mem → Option (TV × Mem)
def recN (T : Cfg) (K : Known) : Nat → Rec
  | 0 => ⟨fun _ _ _ => none, fun _ _ _ => none⟩
  | n + 1 => ⟨fun f args m => match K f args m with
      | some x => some x
      | none => acall T (recN T K n) f args m, fun rn c st => aexec T (recN T K n) rn (comp T.keep c) st⟩
section
variable {P : Program} {T : Cfg} {r : Rec}
theorem aSeq_ok (hT : T.OK P) (hr : RecOK P r) {E : Env} {ro : Option Nat} {n : Nat} {Q : Exit → Act → World → Prop} {ops : Array Oper} (hP : E.P = P) : ∀ (l : List Oper) (st st' : St), aSeq T r ops l st = some st' → XQ E Q .normal st' → XL E ro n ops Q l st
  | [], st, st', h, k => by cases h; exact k
  | o :: os, st, st', h, k => by
    simp only [aSeq] at h
    split at h
    · rename_i hw
      split at h
      · rename_i x m ho
        obtain ⟨hd, h⟩ := cond_t h
        exact XL.opOK hw (aop_ok (hP ▸ hT) (hP ▸ hr) ho) hd (aSeq_ok hT hr hP os _ st' h k)
      · cases h
    · rename_i hw
      exact XL.opNo hw (aSeq_ok hT hr hP os _ st' h k)
    · cases h
theorem aMems_ok {ops : Array Oper} {st : St} {fx : List (Nat × TV)} : ∀ {effs : List Nat} {m : Mem} {ms : List Mem}, aMems T r ops st fx effs m = some ms → ms.length = effs.length + 1 ∧ ms[0]? = some m ∧ ∀ (j i : Nat) (mj : Mem), effs[j]? = some i → ms[j]? = some mj →
    ∃ o x m', ops[i]? = some o ∧ lk fx i = some x ∧ dstOK st o.dst = true ∧ wantedA ops (depsSt ops st fx i mj).tm o = some true ∧ aop T (depsSt ops st fx i mj) r true o = some (x, m') ∧ ms[j + 1]? = some (m'.getD mj)
  | [], m, ms, h => by cases h; exact ⟨rfl, rfl, fun j i mj hj => by simp at hj⟩
  | i :: is, m, ms, h => by
    simp only [aMems] at h
    split at h
    · rename_i o x ho hx
      split at h
      · rename_i hw
        split at h
        · rename_i x' m' hop
          obtain ⟨hc, h⟩ := cond_t h
          simp only [Bool.and_eq_true] at hc
          split at h
          · rename_i ms' hms
            cases h
            obtain ⟨h1, h2, h3⟩ := aMems_ok hms
            refine ⟨by simp [h1], rfl, fun j i' mj hj hmj => ?_⟩
            cases j with
            | zero =>
              simp at hj hmj
              subst hj; subst hmj
              exact ⟨o, x, m', ho, hx, hc.2, hw, by rw [tvEq_eq hc.1]; exact hop, by simpa using h2⟩
            | succ j =>
              obtain ⟨o', x', m'', h4⟩ := h3 j i' mj (by simpa using hj) (by simpa using hmj)
              exact ⟨o', x', m'', by simpa using h4⟩
          · cases h
        · cases h
      · cases h
    · cases h
theorem depsSt_mem {ops : Array Oper} {st : St} {fx : List (Nat × TV)} {i : Nat} {m : Mem} : (depsSt ops st fx i m).mem = m := rfl
theorem aAny_ok (hT : T.OK P) (hr : RecOK P r) {E : Env} {ro : Option Nat} {n id : Nat} {Q : Exit → Act → World → Prop} {ops : Array Oper} {effs : List Nat} (hP : E.P = P) (hB : anyB ops effs = true) {st st' : St} (h : aAny T r ops effs (planOf ops effs) st = some st') (k : XQ E Q .normal st') : XC E ro n Q (.region id ops true) st := by
  subst hP
  unfold aAny at h
  split at h
  · cases h
  · rename_i fx hfx
    split at h
    · cases h
    · rename_i ms hms
      split at h
      · cases h
      · rename_i mE hmE
        obtain ⟨hc, h⟩ := cond_t h
        cases h
        obtain ⟨h1, h2, h3⟩ := aMems_ok hms
        refine XC.anyOrder fx effs ms hT.mixed hB h2 hmE (fun i j m hi hj hm hmay => ?_) k
        by_cases hce : effs.contains i = true
        · have hej : effs[j]? = some i := by
            have hmay' := hmay
            simp only [mayAt, Bool.and_eq_true, Bool.or_eq_true, Bool.not_eq_true', beq_iff_eq] at hmay'
            rcases hmay'.2 with h4 | h4
            · rw [hce] at h4; cases h4
            · exact h4
          obtain ⟨o, x, m', h4, h5, h6, h7, h8, h9⟩ := h3 j i m hej hm
          refine ⟨o, x, h4, h5, h6, .inl ⟨h7, m'.getD m, ?_, by rw [if_pos hce]; exact h9⟩⟩
          have := aop_ok hT hr h8
          rw [depsSt_mem] at this; exact this
        · have hp := List.all_eq_true.1 hc (i, (List.range (effs.length + 1)).filter fun j => mayAt ops effs i j) (List.mem_map.2 ⟨i, by simpa using hi, rfl⟩)
          dsimp only at hp
          simp only [Bool.or_eq_true] at hp
          have hp := hp.resolve_left hce
          have hq := List.all_eq_true.1 hp j (List.mem_filter.2 ⟨by simpa using Nat.lt_succ_of_le hj, hmay⟩)
          rw [hm] at hq
          dsimp only at hq
          unfold aChk at hq
          split at hq
          · rename_i o x ho hx
            simp only [Bool.and_eq_true] at hq
            obtain ⟨hd, hq⟩ := hq
            refine ⟨o, x, ho, hx, hd, ?_⟩
            split at hq
            · rename_i hw
              split at hq
              · rename_i x' hop
                have := aop_ok hT hr hop
                rw [← tvEq_eq hq] at this
                rw [show (none : Option Mem).getD (depsSt ops st fx i m).mem = m from rfl] at this
                exact .inl ⟨hw, m, this, by rw [if_neg hce]⟩
              · cases hq
            · rename_i hw
              exact .inr ⟨hw, tvEq_eq hq, by simpa using hce⟩
            · cases hq
          · cases hq
theorem wpIn_scope {F : Fence} {n : Nat} {P : Program} {c : Code} {Q : Exit → Act → World → Prop} {a : Act} {w : World} (h : c.wpIn F n P (fun e a w => match e with
    | .goto _ => False
    | e => Q e a w) a w) : (Code.scope c).wpIn F n P Q a w := by
  intro b k cs hro hb hr
  have h0 : (lone (b.atR a (.code (.scope c) :: k)) cs w).fenced P F := fenced_calm hb hr rfl
  have s0 : step P (lone (b.atR a (.code (.scope c) :: k)) cs w) = .next (lone (b.atR a (.code c :: .inScope c :: k)) cs w) := step_lone_go (by simp [stepG, stepG.exec, Frame.atR])
  have s1 : ∀ a w, step P (lone (b.atR a (.inScope c :: k)) cs w) = .next (lone (b.atR a k) cs w) := fun a w => step_lone_go (by simp [stepG, stepG.exec, Frame.atR])
  obtain ⟨e, a₁, w₁, hq, harr⟩ := h b (.inScope c :: k) cs hro hb hr
  cases e with
  | normal => exact ⟨.normal, a₁, w₁, hq, .head h0 s0 (StepsIn.trans harr (.one (fenced_calm hb hr rfl) (s1 _ _)))⟩
  | exit id =>
    have hx : exitTo id (.inScope c :: k) = exitTo id k := by simp [exitTo]
    exact ⟨.exit id, a₁, w₁, hq, fun k' hk => .head h0 s0 (harr.1 k' (by rw [hx]; exact hk)),
      fun hr' hk => let ⟨k₁, h1, h2⟩ := harr.2 hr' (by rw [hx]; exact hk); ⟨k₁, h1, .head h0 s0 h2⟩⟩
  | goto l => exact hq.elim
  | ret => exact ⟨_, a₁, w₁, hq, .of_steps (.one h0 s0) harr⟩
  | panic ch => exact ⟨_, a₁, w₁, hq, .of_steps (.one h0 s0) harr⟩
  | outgrown => exact ⟨_, a₁, w₁, hq, .of_steps (.one h0 s0) harr⟩
theorem aLoop_ok {E : Env} {ro : Option Nat} {n : Nat} {Q : Exit → Act → World → Prop} {c : Code} {f : St → Option (Exit × St)} (hf : ∀ st e st', f st = some (e, st') → ∀ Q, XQ E Q e st' → XC E ro n Q c st) : ∀ (k : Nat) (st : St) (e : Exit) (st' : St), aLoop f k st = some (e, st') → XQ E Q e st' →
    ∀ V a w, Rel E V st a w → ∃ m, Code.roundsIn (FR ro) n E.P c Q m a w
  | 0, st, e, st', h, _ => by cases h
  | k + 1, st, e, st', h, hQ => by
    intro V a w hr
    simp only [aLoop] at h
    split at h
    · rename_i st1 h1
      have ih := aLoop_ok (n := n) (Q := Q) hf k st1 e st' h hQ
      have key : ∀ (k : Nat) (st : St) (e : Exit) (st' : St), aLoop f k st = some (e, st') → XQ E Q e st' → ∀ V a w, Rel E V st a w → Code.roundsIn (FR ro) n E.P c Q k a w := by
        intro k
        induction k with
        | zero => intro st e st' h; cases h
        | succ k ihk =>
          intro st e st' h hQ V a w hr
          simp only [aLoop] at h
          split at h
          · rename_i st1 h1
            exact hf st .normal st1 h1 _ (fun V a w hr => ihk st1 e st' h hQ V a w hr) V a w hr
          · rename_i x hne
            cases hfx : f st with
            | none => rw [hfx] at h; cases h
            | some p =>
              obtain ⟨e1, s1⟩ := p
              rw [hfx] at h; cases h
              refine hf st e st' hfx _ (fun V a w hr => ?_) V a w hr
              cases e with
              | normal => exact absurd hfx (hne st')
              | exit id => exact hQ V a w hr
              | goto l => exact hQ V a w hr
              | ret => exact hQ V a w hr
              | panic ch => exact hQ V a w hr
              | outgrown => exact hQ V a w hr
      exact ⟨k + 1, key (k + 1) st e st' (by simp only [aLoop, h1]; exact h) hQ V a w hr⟩
    · rename_i x hne
      cases hfx : f st with
      | none => rw [hfx] at h; cases h
      | some p =>
        obtain ⟨e1, s1⟩ := p
        rw [hfx] at h; cases h
        refine ⟨1, hf st e st' hfx _ (fun V a w hr => ?_) V a w hr⟩
        cases e with
        | normal => exact absurd hfx (hne st')
        | exit id => exact hQ V a w hr
        | goto l => exact hQ V a w hr
        | ret => exact hQ V a w hr
        | panic ch => exact hQ V a w hr
        | outgrown => exact hQ V a w hr
theorem exitOf_jump {p : Option Code} {e : Exit} (h : exitOf p = some e) : jumpOf e = some p := by
  unfold exitOf at h
  split at h <;> first | (cases h; rfl) | cases h
theorem notBusy_ne {s : LoopState} (h : notBusy s = true) : s ≠ .busy := by
  cases s <;> simp [notBusy] at h ⊢
theorem aRange_ok (hr : RecOK P r) {rn : Option Nat} {g : Operand} {ps : Array Nat} {assign body : Code} {st st' : St} {e : Exit} (h : aRange r rn g ps assign body st = some (e, st')) : ExecOK P rn (.rangeFunc g ps assign body) st e st' := by
  unfold aRange at h
  split at h
  · rename_i gf caps hg
    split at h
    · split at h
      · rename_i res m2 hc
        split at h
        · rename_i s jump tm2 nt2 ps2 as2 bd2 D2 hL
          split at h
          · rename_i hs he
            cases h
            exact rangeFunc_out hg (hr.call hc) hL (notBusy_ne hs) (exitOf_jump he)
          · cases h
        · cases h
      · cases h
    · rename_i L0
      split at h
      · rename_i s0 p0 tm0 nt0 ps0 as0 bd0 D0 h0
        split at h
        · rename_i res m2 hc
          split at h
          · rename_i s jump tm2 nt2 ps2 as2 bd2 D2 hL
            split at h
            · rename_i hs he
              cases h
              exact rangeFunc_in hg h0 (hr.call hc) hL (notBusy_ne hs) (exitOf_jump he)
            · cases h
          · cases h
        · cases h
      · cases h
  · cases h
theorem aexec_ok (hT : T.OK P) (hr : RecOK P r) (keep : List Nat) (rn : Option Nat) : ∀ (c : Code) (st : St) (e : Exit) (st' : St), aexec T r rn (comp keep c) st = some (e, st') → ExecOK P rn c st e st' := by
  intro c
  induction c with
  | skip => intro st e st' h E ro n Q hP hro hQ; cases h; exact XC.skip hQ
  | region id ops draw =>
    intro st e st' h E ro n Q hP hro hQ
    cases draw with
    | false =>
      simp only [comp, aexec] at h
      split at h
      · rename_i s1 h1
        cases h
        have := aSeq_ok (ro := ro) (n := n) hT hr hP ops.toList st st' h1 hQ
        intro V a w hrel
        exact wpIn_region_list (this V a w hrel)
      · cases h
    | true =>
      simp only [comp, aexec] at h
      obtain ⟨hok, h⟩ := cond_t h
      split at h
      · rename_i s1 h1; cases h; exact aAny_ok hT hr hP hok h1 hQ
      · cases h
  | seq a b iha ihb =>
    intro st e st' h E ro n Q hP hro hQ
    simp only [comp, aexec] at h
    split at h
    · rename_i s1 h1
      exact XC.seq (iha st .normal s1 h1 E ro n _ hP hro (fun V a w hrel => ihb s1 e st' h E ro n Q hP hro hQ V a w hrel))
    · rename_i x hne
      refine XC.seq (iha st e st' h E ro n _ hP hro (fun V a w hrel => ?_))
      cases e with
      | normal => exact absurd h (hne st')
      | exit id => exact hQ V a w hrel
      | goto l => exact hQ V a w hrel
      | ret => exact hQ V a w hrel
      | panic ch => exact hQ V a w hrel
      | outgrown => exact hQ V a w hrel
  | cond c a b iha ihb =>
    intro st e st' h E ro n Q hP hro hQ
    simp only [comp, aexec] at h
    split at h
    · rename_i hc
      exact XC.cond hc (fun _ => iha st e st' h E ro n Q hP hro hQ) (fun hf => by cases hf)
    · rename_i hc
      exact XC.cond hc (fun hf => by cases hf) (fun _ => ihb st e st' h E ro n Q hP hro hQ)
    · cases h
  | block id b ih =>
    intro st e st' h E ro n Q hP hro hQ
    simp only [comp, aexec] at h
    split at h
    · rename_i id' s1 h1
      refine XC.block (ih st (.exit id') s1 h1 E ro n _ hP hro (fun V a w hrel => ?_))
      show (if id' = id then Q .normal a w else Q (.exit id') a w)
      cases hb : Nat.beq id' id with
      | true =>
        rw [hb] at h; cases h
        rw [if_pos (Nat.eq_of_beq_eq_true hb)]; exact hQ V a w hrel
      | false =>
        rw [hb] at h; cases h
        rw [if_neg (fun e => by subst e; simp at hb)]; exact hQ V a w hrel
    · rename_i x hne
      refine XC.block (ih st e st' h E ro n _ hP hro (fun V a w hrel => ?_))
      cases e with
      | normal => exact hQ V a w hrel
      | exit id' => exact absurd h (hne id' st')
      | goto l => exact hQ V a w hrel
      | ret => exact hQ V a w hrel
      | panic ch => exact hQ V a w hrel
      | outgrown => exact hQ V a w hrel
  | loop b ih =>
    intro st e st' h E ro n Q hP hro hQ
    simp only [comp, aexec] at h
    intro V a w hrel
    obtain ⟨m, hm⟩ := aLoop_ok (n := n) (Q := Q) (c := b) (fun st e st' h Q hQ => ih st e st' h E ro n Q hP hro hQ) T.rounds st e st' h hQ V a w hrel
    exact wpIn_loop_rounds m hm
  | rangeFunc g ps a b iha ihb =>
    intro st e st' h
    exact aRange_ok hr h
  | exit id => intro st e st' h E ro n Q hP hro hQ; cases h; exact XC.exit hQ
  | scope b ih =>
    intro st e st' h E ro n Q hP hro hQ
    simp only [comp, aexec] at h
    split at h
    · cases h
    · rename_i x hne
      intro V a w hrel
      refine wpIn_scope (ih st e st' h E ro n _ hP hro (fun V a w hrel => ?_) V a w hrel)
      cases e with
      | normal => exact hQ V a w hrel
      | exit id' => exact hQ V a w hrel
      | goto l => exact absurd h (hne l st')
      | ret => exact hQ V a w hrel
      | panic ch => exact hQ V a w hrel
      | outgrown => exact hQ V a w hrel
  | label l => intro st e st' h E ro n Q hP hro hQ; cases h; exact fun V a w hrel => wpIn_label (hQ V a w hrel)
  | goto l => intro st e st' h; cases h
  | ret => intro st e st' h E ro n Q hP hro hQ; cases h; exact XC.ret hQ
  | refuse why => intro st e st' h; cases h
theorem aRess_ok (hT : T.OK P) {st : St} : ∀ {rs : List ResultVar} {xs : List AV}, aRess T st rs = some xs → RAs P st rs xs
  | [], xs, h => by cases h; exact .nil
  | v :: vs, xs, h => by
    simp only [aRess] at h
    split at h
    · rename_i x xs' hx hxs
      cases h
      refine .cons (fun E hE => ?_) (aRess_ok hT hxs)
      subst hE
      unfold aRes at hx
      split at hx
      · split at hx
        · rename_i y hy; cases hx; exact RA.tmp hy
        · cases hx
      · split at hx
        · rename_i ag n i off ht had
          split at hx
          · rename_i T' xs0 hi
            split at hx
            · split at hx
              · rename_i y hy; cases hx; exact RA.cell (hT.agg.get ht) had hi hy
              · cases hx
            · obtain ⟨hn, rfl⟩ := beq_t hx
              exact RA.cellAgg (hT.agg.get ht) had hi rfl hn
          · cases hx
        · cases hx
    · cases h
theorem acall_ok (hT : T.OK P) (hr : RecOK P r) {f : FuncId} {args : List AV} {m : Mem} {res : TV} {m' : Mem} (h : acall T r f args m = some (res, m')) : CallM P f args m res m' := by
  unfold acall at h
  split at h
  · cases h
  · rename_i fn hf
    obtain ⟨hf1, hf2⟩ := hT.fns.get hf
    split at h
    · cases h
    · rename_i c hc
      obtain ⟨hnt, h⟩ := cond_t h
      split at h
      · rename_i e st' he
        obtain ⟨hend, h⟩ := cond_t h
        split at h
        · rename_i hp' hm
          split at h
          · rename_i xs hxs
            have key := CallM.of_exec hf1 hc hf2 (Nat.le_of_ble_eq_true hnt) (aexec_ok hT hr T.keep none c _ e st' he) (by cases e <;> first | exact .inl rfl | exact .inr rfl | cases hend) hm (aRess_ok hT hxs)
            have h' := Option.some.inj h
            unfold aTrim at h'
            cases hb : (Nat.ble m.nx st'.nx && (resOf xs).belowB m.nx && (keepLt m.nx hp').all fun p => p.2.belowB m.nx) with
            | true =>
              rw [hb] at h'
              cases h'
              simp only [Bool.and_eq_true] at hb
              exact key.trim (Nat.le_of_ble_eq_true hb.1.1) hb.1.2 hb.2
            | false => rw [hb] at h'; cases h'; exact key
          · cases h
        · cases h
      · cases h
def Known.OK (P : Program) (K : Known) : Prop := ∀ {f args m res m'}, K f args m = some (res, m') → CallM P f args m res m'
theorem recN_ok (hT : T.OK P) {K : Known} (hK : K.OK P) : ∀ n, RecOK P (recN T K n)
  | 0 => ⟨(fun h => by cases h), (fun h => by cases h)⟩
  | n + 1 => ⟨fun {f args m res m'} h => by
      simp only [recN] at h
      split at h
      · rename_i x hx; cases h; exact hK hx
      · exact acall_ok hT (recN_ok hT hK n) h, fun {rn c st e st'} h => aexec_ok hT (recN_ok hT hK n) T.keep rn c st e st' h⟩
theorem Fun.of_callM {f : FuncId} {args : List AV} {res res' : TV} {m1 : Mem} (h : CallM P f args mem0 res m1) (hr : asTV res = some res') : Fun P f args res' := by
  refine ⟨h.1, fun S w vs hS hT hargs => ?_⟩
  refine Calls.mono (h.2 (EnvF P w S) (Vu.of S) w vs rfl (hrel0 hS hT) rfl hargs) ?_
  rintro e w' ⟨v, V1, rfl, H, hn, L, hres⟩
  refine ⟨v, V1.S, rfl, H.ext, H.le0.S, fun b o h => ⟨?_, H.sz b o h⟩, asTV_rel hr hres⟩
  rcases H.sub b o h with h1 | h1 | h1
  · exact .inl h1
  · exact .inr h1
  · exact h1.elim
end
end Go.Proofs.YtcapifnaceegmaaGreatDoor
namespace Go.Proofs.YtcapifnaceegmaaGreatDoor
section
open Go.RowKit
set_option linter.unusedSimpArgs false
set_option linter.unusedVariables false
set_option linter.unusedSectionVars false
abbrev w64 (x : Int) : Int := IntKind.wrap .i64 x
inductive LO (σ β : Type) where
  | next (s : σ)
  | done (b : β)
def loopN {σ β : Type} (step : σ → Option (LO σ β)) : Nat → σ → Option β
  | 0, _ => none
  | n + 1, s => match step s with
    | none => none
    | some (.next s') => loopN step n s'
    | some (.done b) => some b
def FUEL : Nat := 1000000
def idx {α : Type} (l : List α) : Int → Option α
  | .ofNat k => l[k]?
  | .negSucc _ => none
def guardO {α : Type} (b : Bool) (x : Option α) : Option α := cond b x none
theorem bindO {α β : Type} {o : Option α} {f : α → Option β} {r : β} (h : Option.bind o f = some r) : ∃ x, o = some x ∧ f x = some r := by
  cases o with
  | none => cases h
  | some x => exact ⟨x, rfl, h⟩
theorem bindK {α β : Type} {o : Option α} {f : α → Option β} {r : β} {G : Prop} (h : Option.bind o f = some r) (k : ∀ x, o = some x → f x = some r → G) : G := by
  obtain ⟨x, h1, h2⟩ := bindO h
  exact k x h1 h2
theorem condT {α : Type} {b : Bool} {x y r : Option α} (hb : b = true) (h : cond b x y = r) : x = r := by subst hb; exact h
theorem condF {α : Type} {b : Bool} {x y r : Option α} (hb : b = false) (h : cond b x y = r) : y = r := by subst hb; exact h
theorem guardS {α : Type} {b : Bool} {x : Option α} {r : α} (h : guardO b x = some r) : b = true ∧ x = some r := by
  cases b with
  | false => cases h
  | true => exact ⟨rfl, h⟩
theorem guardK {α : Type} {b : Bool} {x : Option α} {r : α} {G : Prop} (h : guardO b x = some r) (k : b = true → x = some r → G) : G := by
  obtain ⟨h1, h2⟩ := guardS h
  exact k h1 h2
theorem idxS {α : Type} {l : List α} {i : Int} {x : α} (h : idx l i = some x) : ∃ k : Nat, i = (k : Int) ∧ l[k]? = some x := by
  cases i with
  | ofNat k => exact ⟨k, rfl, h⟩
  | negSucc k => cases h
theorem loopS {σ β : Type} {step : σ → Option (LO σ β)} {n : Nat} {s : σ} {b : β} (h : loopN step n s = some b) : ∃ n' o, n = n' + 1 ∧ step s = some o ∧ (match o with
    | .next s' => loopN step n' s'
    | .done b' => some b') = some b := by
  cases n with
  | zero => cases h
  | succ n =>
    simp only [loopN] at h
    split at h
    · cases h
    · rename_i s' hs; exact ⟨n, _, rfl, hs, h⟩
    · rename_i b' hs; exact ⟨n, _, rfl, hs, h⟩
def RoundSays {σ β : Type} (step : σ → Option (LO σ β)) (n : Nat) (b : β) : LO σ β → Prop
  | .next s' => loopN step n s' = some b
  | .done b' => b' = b
class Enc (α : Type) where
  sz : Nat
  enc : α → List C
  encL : List α → List (List C)
  nil : encL [] = []
  app : ∀ a b, encL (a ++ b) = encL a ++ encL b
  one : ∀ x, encL [x] = [enc x]
theorem Enc.cons {α : Type} [Enc α] (x : α) (l : List α) : Enc.encL (x :: l) = Enc.enc x :: Enc.encL l := by
  have := Enc.app [x] l
  rw [Enc.one] at this
  exact this
theorem Enc.map {α : Type} [Enc α] : ∀ l : List α, Enc.encL l = l.map Enc.enc
  | [] => Enc.nil
  | x :: l => by rw [Enc.cons, Enc.map l]; rfl
theorem Enc.len {α : Type} [Enc α] (l : List α) : (Enc.encL l).length = l.length := by rw [Enc.map, List.length_map]
theorem Enc.get {α : Type} [Enc α] {l : List α} {k : Nat} {x : α} (h : l[k]? = some x) : (Enc.encL l)[k]? = some (Enc.enc x) := by rw [Enc.map, List.getElem?_map, h]; rfl
section
variable {E : Env} {ro : Option Nat} {n : Nat} {ops : Array Oper} {Q : Exit → Act → World → Prop} {rest : List Oper} {st : St} {o : Oper} {x : TV} {d : Option Tmp} {ty : TypeId} {pos : String} {af : Array Edge} {g : Option (Nat × Bool)}
inductive SlE {α : Type} [Enc α] : CA → List α → Prop
  | d (l : List α) : SlE (.d (.sl (Enc.sz α) (Enc.encL l))) l
  | app (i : Nat) (l : List α) : SlE (.app i (Enc.sz α) (Enc.encL l)) l
  | nil : SlE (.d (.v (.slice none 0 0))) []
theorem SlE.sl {α : Type} [Enc α] {y : CA} {l : List α} (h : SlE y l) : SlOf y (Enc.sz α) (Enc.encL l) := by
  cases h with
  | d => exact .d _ _
  | app => exact .app _ _ _
  | nil => rw [Enc.nil]; exact .nil _
theorem RO.lenE {α : Type} [Enc α] {t : TypeId} {e : Nat} {o : Operand} {y : CA} {l : List α} (ht : tySlice E.P t = some (e, Enc.sz α)) (hx : ev st.tm o = some (.v (.one y))) (hs : SlE y l) :
    RO E ⟨d, .call { callee := .builtin .len, args := #[o], argTypes := #[t] }, ty, pos, af, g⟩ st (TI l.length) := by
  have := RO.len (E := E) (d := d) (ty := ty) (pos := pos) (af := af) (g := g) ht hx hs.sl
  rw [Enc.len] at this; exact this
theorem RO.indexE {α : Type} [Enc α] {t : TypeId} {e : Nat} {o i : Operand} {y : CA} {l : List α} {v : α} {m : Int} (ht : tySlice E.P t = some (e, Enc.sz α)) (hx : ev st.tm o = some (.v (.one y))) (hs : SlE y l)
    (hi : ev st.tm i = some (TI m)) (hv : idx l m = some v) : RO E ⟨d, .indexAddr t o i, ty, pos, af, g⟩ st (.v (.one (.pel (Enc.enc v) 0))) := by
  obtain ⟨k, hk, hl⟩ := idxS hv
  exact RO.index ht hx hs.sl hi hk (Enc.get hl)
theorem OpOK.appendE {α : Type} [Enc α] {t e by_ i : Nat} {o1 o2 : Operand} {y : CA} {l l2 : List α} {m : Nat} (ht : tySlice E.P t = some (e, Enc.sz α)) (hte : tyElem E.P e = some (Enc.sz α, by_)) (hb : Nat.ble by_ 100000 = true)
    (h1 : ev st.tm o1 = some (.v (.one (.app i (Enc.sz α) (Enc.encL l))))) (hi : lk st.tk i = some (some ⟨e, Enc.sz α, m⟩)) (hm' : m = (Enc.encL l).length) (h2 : ev st.tm o2 = some (.v (.one y))) (hs : SlE y l2) (hm : Nat.ble (l.length + l2.length) 1000000000 = true) :
    OpOK E ⟨d, .call { callee := .builtin .append, args := #[o1, o2], argTypes := #[t, t] }, ty, pos, af, g⟩ st (.v (.one (.app i (Enc.sz α) (Enc.encL (l ++ l2))))) ⟨st.hp, (i, some ⟨e, Enc.sz α, (Enc.encL (l ++ l2)).length⟩) :: dropK i st.tk, st.nx⟩ := by
  subst hm'
  have := OpOK.appendApp (E := E) (dd := d) (ty := ty) (pos := pos) (af := af) (g := g) ht hte (Nat.le_of_ble_eq_true hb) h1 hi h2 hs.sl (by rw [Enc.len, Enc.len]; exact Nat.le_of_ble_eq_true hm)
  rw [Enc.app]; exact this
theorem OpOK.appendNilE {α : Type} [Enc α] {t e by_ : Nat} {o1 o2 : Operand} {y : CA} {l2 : List α} (ht : tySlice E.P t = some (e, Enc.sz α)) (hte : tyElem E.P e = some (Enc.sz α, by_)) (hb : Nat.ble by_ 100000 = true)
    (h1 : ev st.tm o1 = some (TVv (.slice none 0 0))) (h2 : ev st.tm o2 = some (.v (.one y))) (hs : SlE y l2) (hm : Nat.ble l2.length 1000000000 = true) :
    OpOK E ⟨d, .call { callee := .builtin .append, args := #[o1, o2], argTypes := #[t, t] }, ty, pos, af, g⟩ st (.v (.one (.app st.nx (Enc.sz α) (Enc.encL l2)))) ⟨st.hp, (st.nx, some ⟨e, Enc.sz α, (Enc.encL l2).length⟩) :: st.tk, st.nx + 1⟩ := by
  by_cases h0 : Enc.encL l2 = []
  · intro V a w hr ro n K Q hK
    refine ⟨fun _ _ => trivial, ?_⟩
    rw [Oper.semAt_eq _ _ _ (by intro c h; cases h)]
    have r1 := val_of (hr.ev h1)
    have r2 := hs.sl.reads (hr.ev h2)
    have hexec : ∀ v' w', (Builtin.append_ #[t, t] ty #[a.eval o1, a.eval o2]).run E.P w = .ok v' w' → (execOp a.eval ⟨d, .call { callee := .builtin .append, args := #[o1, o2], argTypes := #[t, t] }, ty, pos, af, g⟩).run E.P w = .ok (.value v') w' := fun v' w' h => by
      simp [execOp, resolve, invoke, builtin, h]
    rw [h0] at r2 hK
    obtain ⟨hu, i1, hi1, -⟩ := tySlice_spec ht
    obtain ⟨-, a2, cap2, b2, off2, us2, e2, -⟩ := r2.row
    have := run_append0 (P := E.P) (w := w) (ty := ty) hu hi1 none a2 0 0 cap2 (Nat.le_refl _)
    rw [hexec _ w (by rw [r1, e2]; exact this)]
    obtain ⟨H, L⟩ := hr.h.tokNil e (Enc.sz α)
    refine hK _ w _ (by dsimp only; rw [← hr.nx]; exact H) (by show max V.nx (V.nx + 1) = st.nx + 1; rw [hr.nx]; omega) L ?_
    rw [← hr.nx]; exact app_nil_rel e (Enc.sz α)
  · exact OpOK.appendNil ht hte (Nat.le_of_ble_eq_true hb) h1 h2 hs.sl (by rw [Enc.len]; exact Nat.le_of_ble_eq_true hm) h0
theorem OpOK.lit1E {α : Type} [Enc α] (v : α) {t e : Nat} {zs : List Value} {o1 : Operand} {x1 : AV} {ys : List CA} (ht : tySlice E.P t = some (e, Enc.sz α)) (hze : tyZero E.P e = some zs) (hzl : zs.length = Enc.sz α) (hz : zs.all (·.oneCell') = true) (hpos : 0 < Enc.sz α) (hlen : 1 * Enc.sz α ≤ 16777216)
    (h1 : ev st.tm o1 = some (.v x1)) (hf : fillL (rowPlaces (Enc.sz α) 1) (zeroRow zs 1) [(0, x1)] = some ys) (hs : CSubs ys (Enc.enc v)) (hel : (Enc.enc v).length = Enc.sz α) :
    OpOK E ⟨d, .buildSlice t 1 #[(0, o1)], ty, pos, af, g⟩ st (.v (.one (.app st.nx (Enc.sz α) (Enc.encL [v])))) ⟨st.hp, (st.nx, some ⟨e, Enc.sz α, (Enc.encL [v]).length⟩) :: st.tk, st.nx + 1⟩ :=
  OpOK.litApp (avs := [(0, x1)]) (Enc.encL [v]) ht hze hzl hz hpos hlen rfl (fun j i x hx => by
    match j, hx with
    | 0, hx => cases hx; exact ⟨o1, rfl, h1⟩) hf (by rw [Enc.one]; simpa using hs) (fun x hx => by rw [Enc.one] at hx; simp at hx; subst hx; exact hel) (by rw [Enc.one]; rfl)
theorem OpOK.data1E {α : Type} [Enc α] (v : α) {t e : Nat} {zs : List Value} {o1 : Operand} {x1 : AV} {ys : List CA} (ht : tySlice E.P t = some (e, Enc.sz α)) (hze : tyZero E.P e = some zs) (hzl : zs.length = Enc.sz α) (hz : zs.all (·.oneCell') = true) (hlen : 1 * Enc.sz α ≤ 16777216)
    (h1 : ev st.tm o1 = some (.v x1)) (hf : fillL (rowPlaces (Enc.sz α) 1) (zeroRow zs 1) [(0, x1)] = some ys) (hs : CSubs ys (Enc.enc v)) (hel : (Enc.enc v).length = Enc.sz α) :
    OpOK E ⟨d, .buildSlice t 1 #[(0, o1)], ty, pos, af, g⟩ st (.v (.one (.d (.sl (Enc.sz α) (Enc.encL [v]))))) ⟨st.hp, st.tk, st.nx⟩ :=
  OpOK.litData (avs := [(0, x1)]) (Enc.encL [v]) ht hze hzl hz hlen rfl (fun j i x hx => by
    match j, hx with
    | 0, hx => cases hx; exact ⟨o1, rfl, h1⟩) hf (by rw [Enc.one]; simpa using hs) (fun x hx => by rw [Enc.one] at hx; simp at hx; subst hx; exact hel) (by rw [Enc.one]; rfl)
theorem XL.put {t : Nat} {hp : List (Nat × HB)} {tk : List (Nat × Option Tok)} {nx : Nat} (hg : wantedA ops st.tm o = some true) (hdst : o.dst = some t) (hd : t < st.nt) (ho : OpOK E o st x ⟨hp, tk, nx⟩) (k : XL E ro n ops Q rest ⟨(t, x) :: st.tm, hp, tk, nx, st.nt, st.df⟩) : XL E ro n ops Q (o :: rest) st := by
  intro V a w h
  unfold wpListIn
  rw [if_pos (wanted_of h hg)]
  refine ho V a w h ro n _ Q (fun V' w' v H hn L hx => k V' _ w' ?_)
  rw [hdst]
  exact (h.mem H hn L).put (d := t) hd hx
theorem XL.eff {hp : List (Nat × HB)} {tk : List (Nat × Option Tok)} {nx : Nat} (hg : wantedA ops st.tm o = some true) (hdst : o.dst = none) (ho : OpOK E o st x ⟨hp, tk, nx⟩) (k : XL E ro n ops Q rest ⟨st.tm, hp, tk, nx, st.nt, st.df⟩) : XL E ro n ops Q (o :: rest) st := by
  intro V a w h
  unfold wpListIn
  rw [if_pos (wanted_of h hg)]
  refine ho V a w h ro n _ Q (fun V' w' v H hn L hx => k V' _ w' ?_)
  rw [hdst]
  exact h.mem H hn L
theorem XL.rd {t : Nat} (hg : wantedA ops st.tm o = some true) (hdst : o.dst = some t) (hd : t < st.nt) (ho : RO E o st x) (k : XL E ro n ops Q rest ⟨(t, x) :: st.tm, st.hp, st.tk, st.nx, st.nt, st.df⟩) : XL E ro n ops Q (o :: rest) st :=
  XL.put hg hdst hd (OpOK.of_ro ho) k
theorem rR {t : Nat} (hg : wantedA ops st.tm o = some true) (hdst : o.dst = some t) (hd : Nat.ble (t + 1) st.nt = true) (ho : RO E o st x) (k : XL E ro n ops Q rest ⟨(t, x) :: st.tm, st.hp, st.tk, st.nx, st.nt, st.df⟩) : XL E ro n ops Q (o :: rest) st := XL.rd hg hdst (lb hd) ho k
theorem rM {t : Nat} {y : Operand} (hg : wantedA ops st.tm ⟨some t, .move y, ty, pos, af, g⟩ = some true) (hd : Nat.ble (t + 1) st.nt = true) (h : ev st.tm y = some x) (k : XL E ro n ops Q rest ⟨(t, x) :: st.tm, st.hp, st.tk, st.nx, st.nt, st.df⟩) : XL E ro n ops Q (⟨some t, .move y, ty, pos, af, g⟩ :: rest) st := XL.rd hg rfl (lb hd) (RO.move h) k
theorem rA {t : Nat} {y : Operand} (hg : wantedA ops st.tm ⟨some t, .assign y, ty, pos, af, g⟩ = some true) (hd : Nat.ble (t + 1) st.nt = true) (h : ev st.tm y = some x) (k : XL E ro n ops Q rest ⟨(t, x) :: st.tm, st.hp, st.tk, st.nx, st.nt, st.df⟩) : XL E ro n ops Q (⟨some t, .assign y, ty, pos, af, g⟩ :: rest) st := XL.rd hg rfl (lb hd) (RO.assign h) k
theorem XL.no {t : Nat} (hg : wantedA ops st.tm o = some false) (hdst : o.dst = some t) (k : XL E ro n ops Q rest ⟨(t, .tup []) :: st.tm, st.hp, st.tk, st.nx, st.nt, st.df⟩) : XL E ro n ops Q (o :: rest) st := by
  intro V a w h
  unfold wpListIn
  rw [if_neg (by rw [wanted_of h hg]; exact Bool.false_ne_true)]
  refine ⟨fun _ _ => trivial, ?_⟩
  rw [hdst]
  exact k V _ w (h.und t)
def NextM {σ β : Type} (E : Env) (inv : σ → St) (step : σ → Option (LO σ β)) (n : Nat) (b : β) (a : Act) (w : World) : Prop :=
  Next (X := σ × Nat) E (fun p => inv p.1) (fun p => loopN step p.2 p.1 = some b) (fun p => p.2) (n + 1) a w
theorem XC.loopM {σ β : Type} {c : Code} (step : σ → Option (LO σ β)) (inv : σ → St) (s0 : σ) (b : β) (h0 : StLe E st (inv s0)) (hok : loopN step FUEL s0 = some b)
    (round : ∀ (s : σ) (m : Nat) (o : LO σ β), step s = some o → RoundSays step m b o → XC E ro n (Exit.then (NextM E inv step m b) Q) c (inv s)) : XC E ro n Q (.loop c) st := by
  refine XC.loop (X := σ × Nat) (fun p => inv p.1) (fun p => loopN step p.2 p.1 = some b) (fun p => p.2) (s0, FUEL) h0 hok ?_
  rintro ⟨s, k⟩ hs
  obtain ⟨m, o, rfl, h1, h2⟩ := loopS hs
  refine round s m o h1 ?_
  cases o with
  | next s' => exact h2
  | done b' => exact Option.some.inj h2
theorem XQ.nextM {σ β : Type} {step : σ → Option (LO σ β)} {inv : σ → St} {m : Nat} {b : β} (s' : σ) (hl : StLe E st (inv s')) (ho : RoundSays step m b (.next s')) : XQ E (Exit.then (NextM E inv step m b) Q) .normal st :=
  XQ.next (s', m) hl ho (Nat.lt_succ_self _)
def JnX {γ : Type} (E : Env) (i : Nat) (inv : γ → St) (K : γ → Prop) (Q : Exit → Act → World → Prop) : Exit → Act → World → Prop
  | .exit j, a, w => if j = i then ∃ v V, K v ∧ Rel E V (inv v) a w else Q (.exit j) a w
  | .normal, a, w => Q .normal a w
  | .goto l, a, w => Q (.goto l) a w
  | .ret, a, w => Q .ret a w
  | .panic c, a, w => Q (.panic c) a w
  | .outgrown, a, w => Q .outgrown a w
theorem XC.joinX {γ : Type} {c : Code} (i : Nat) (inv : γ → St) (K : γ → Prop) (h : XC E ro n (JnX E i inv K Q) c st) (k : ∀ v, K v → XQ E Q (.exit i) (inv v)) : XC E ro n Q c st := by
  intro V a w hr
  refine wpIn_mono (h V a w hr) (fun e a' w' hq => ?_)
  cases e with
  | exit j =>
    simp only [JnX] at hq
    split at hq
    · rename_i hj; subst hj
      obtain ⟨v, V', hv, hr'⟩ := hq
      exact k v hv V' a' w' hr'
    · exact hq
  | _ => exact hq
theorem XQ.joinX {γ : Type} {i : Nat} {inv : γ → St} {K : γ → Prop} (v : γ) (hl : StLe E st (inv v)) (hK : K v) : XQ E (JnX E i inv K Q) (.exit i) st := fun V a w hr => by
  obtain ⟨V', hr'⟩ := hr.less hl
  simp only [JnX, if_pos]
  exact ⟨v, V', hK, hr'⟩
def JnR {γ : Type} (E : Env) (inv : γ → St) (K : γ → Prop) (Q : Exit → Act → World → Prop) : Exit → Act → World → Prop
  | .normal, a, w => ∃ v V, K v ∧ Rel E V (inv v) a w
  | .exit j, a, w => Q (.exit j) a w
  | .goto l, a, w => Q (.goto l) a w
  | .ret, a, w => Q .ret a w
  | .panic c, a, w => Q (.panic c) a w
  | .outgrown, a, w => Q .outgrown a w
theorem XC.joinR {γ : Type} {c : Code} (inv : γ → St) (K : γ → Prop) (h : XC E ro n (JnR E inv K Q) c st) (k : ∀ v, K v → XQ E Q .normal (inv v)) : XC E ro n Q c st := by
  intro V a w hr
  refine wpIn_mono (h V a w hr) (fun e a' w' hq => ?_)
  cases e with
  | normal =>
    obtain ⟨v, V', hv, hr'⟩ := hq
    exact k v hv V' a' w' hr'
  | _ => exact hq
theorem XQ.joinR {γ : Type} {inv : γ → St} {K : γ → Prop} (v : γ) (hl : StLe E st (inv v)) (hK : K v) : XQ E (JnR E inv K Q) .normal st := fun V a w hr => by
  obtain ⟨V', hr'⟩ := hr.less hl
  exact ⟨v, V', hK, hr'⟩
inductive ASubL : List AV → List AV → Prop
  | nil : ASubL [] []
  | cons {x y : AV} {xs ys : List AV} (h : ASub x y) (t : ASubL xs ys) : ASubL (x :: xs) (y :: ys)
theorem ASubL.spec {xs ys : List AV} (h : ASubL xs ys) : xs.length = ys.length ∧ ∀ (i : Nat) (y : AV), ys[i]? = some y → ∃ x, xs[i]? = some x ∧ ASub x y := by
  induction h with
  | nil => exact ⟨rfl, fun i y hy => by simp at hy⟩
  | cons h t ih =>
    refine ⟨by simp [ih.1], fun i y hy => ?_⟩
    cases i with
    | zero => simp at hy; subst hy; exact ⟨_, rfl, h⟩
    | succ i => exact ih.2 i y (by simpa using hy)
theorem OpOK.callFun {f : FuncId} {ars : Array Operand} {args ys : List AV} {ats : Array TypeId} {res : TV} (hF : Fun E.P f ys res) (ha : evArgs st.tm ars.toList = some args) (hs : ASubL args ys) :
    OpOK E ⟨d, .call { callee := .value (.func f), args := ars, argTypes := ats }, ty, pos, af, g⟩ st res ⟨st.hp, st.tk, st.nx⟩ := by
  intro V a w hr ro n K Q hK
  refine ⟨fun _ _ => trivial, ?_⟩
  rw [Oper.semAt_eq _ _ _ (by intro c h; cases h)]
  rw [call_enters rfl hF.1]
  refine ⟨(by intro h; cases h), ?_⟩
  have har : argsRel (Vu.of V.S) w ys (ars.map a.eval) := by
    obtain ⟨h1, h2⟩ := args_rel hr ha
    obtain ⟨h3, h4⟩ := hs.spec
    refine ⟨by omega, fun i y hy => ?_⟩
    obtain ⟨x, hx', hxy⟩ := h4 i y hy
    obtain ⟨u, hu, hxu⟩ := h2 i x hx'
    exact ⟨u, hu, hxy.rel hxu⟩
  have hc' : CallsIn Fence.wide (n - 1) E.P f _ w _ := callsIn_wide.2 (hF.2 V.S w _ hr.h.sz hr.h.tabs har)
  refine CallsIn.mono (F := FR ro) hc' ?_
  rintro e w' ⟨v, S', rfl, hx, hS, hS', hv⟩
  have hg : V.Grow { V with S := S' } w w' := ⟨Nat.le_refl _, fun _ _ => rfl, fun _ _ => rfl, fun _ _ _ _ => rfl, hS, fun b o h => (hS' b o h).1, fun b o h => (hS' b o h).2⟩
  exact hK { V with S := S' } w' v (hr.h.later hx hg) hr.nx (hr.h.le hx hg) (hv.mono (of_le (V := { V with S := S' })))
end
def FunPostM (P : Program) (n : Nat) (fn : Func) (S : Nat → Nat → Prop) (w : World) (res : TV) : Exit → Act → World → Prop :=
  bodyPostM Fence.wide n P fn fun e w' => ∃ v S', e = .returned v ∧ ExtF w w' ∧ (∀ b o, S b o → S' b o) ∧ (∀ b o, S' b o → (S b o ∨ w.heap.size ≤ b) ∧ b < w'.heap.size) ∧ res.rel (Vu.of S') w' v
theorem Fun.of_bodyM {P : Program} {f : FuncId} {fn : Func} {c : Code} {args : List AV} {res : TV} (n nt : Nat) (hf : P.funcs[f]? = some fn) (hb : fn.body = some c) (hen : Enters P f) (hn : fn.ntmps = nt) (hnt : args.length ≤ nt)
    (h : ∀ (S : Nat → Nat → Prop) (w : World), XC (EnvF P w S) none n (FunPostM P n fn S w res) c ⟨entry 0 args, [], [], 0, nt, []⟩) : Fun P f args res := by
  subst hn
  refine ⟨hen, fun S w vs hS hT hargs => ?_⟩
  refine (callsIn_wide (n := n)).1 (callsIn_of_wp_marks (F := Fence.wide) hf hb trivial ?_)
  refine h S w (Vu.of S) _ w ⟨hrel0 hS hT, rfl, ?_, dfRel.nil, ?_⟩
  · simp [hargs.1]; omega
  · intro t x hx
    obtain ⟨k, y, h1, h2, rfl⟩ := lk_entry args 0 t x hx
    obtain ⟨u, hu, hy⟩ := hargs.2 k y h2
    have hk : k < vs.size := (Array.getElem?_eq_some_iff.1 hu).1
    have : (vs ++ Array.replicate (fn.ntmps - vs.size) undef).getD t undef = u := by
      rw [show t = k by omega, Array.getD_eq_getD_getElem?, Array.getElem?_append_left hk, hu]; rfl
    rw [this]; exact hy
theorem res_sub {xs ys : List AV} (h : ASubL xs ys) {V : Vu} {w : World} {v : Value} (hv : (resOf xs).rel V w v) : (resOf ys).rel (Vu.of V.S) w v := by
  obtain ⟨hl, hs⟩ := h.spec
  match xs, ys, hl with
  | [], [], _ => obtain ⟨vs, h1, h2, h3⟩ := hv; exact ⟨vs, h1, h2, fun i x hx => by simp at hx⟩
  | [x], [y], _ =>
    obtain ⟨x', hx, hxy⟩ := hs 0 y rfl
    cases hx
    exact hxy.rel hv
  | x :: x2 :: xs, y :: y2 :: ys, hl =>
    obtain ⟨vs, h1, h2, h3⟩ := hv
    refine ⟨vs, h1, by rw [h2]; exact hl, fun i z hz => ?_⟩
    obtain ⟨x', hx, hxy⟩ := hs i z hz
    obtain ⟨u, hu, hr⟩ := h3 i x' hx
    exact ⟨u, hu, hxy.rel hr⟩
theorem XQ.retF {P : Program} {n : Nat} {fn : Func} {S : Nat → Nat → Prop} {w0 : World} {st : St} {Q : Exit → Act → World → Prop} {e : Exit} {hp' : List (Nat × HB)} {xs ys : List AV} (hQ : ∀ a w, FunPostM P n fn S w0 (resOf ys) .ret a w → Q e a w) (hdf : takeMarks st.df st.hp = some hp')
    (hres : RAs P ⟨st.tm, hp', st.tk, st.nx, st.nt, []⟩ fn.results.toList xs) (hs : ASubL xs ys) : XQ (EnvF P w0 S) Q e st := by
  intro V a w hr
  refine hQ a w ?_
  refine leaves_marks st.df a.defers st.hp hp' w hr.h hr.df hdf (fun w' H' L' => ?_)
  have hr' : Rel (EnvF P w0 S) V ⟨st.tm, hp', st.tk, st.nx, st.nt, []⟩ { tmps := a.tmps, defers := [] } w' := ⟨H', hr.nx, hr.nt, dfRel.nil, fun t x hx => (hr.tm t x hx).mono L'⟩
  obtain ⟨v, h1, h2⟩ := results_run hres rfl hr'
  refine ⟨v, h1, v, V.S, rfl, H'.ext, H'.le0.S, fun b o h => ⟨?_, H'.sz b o h⟩, res_sub hs h2⟩
  rcases H'.sub b o h with h1 | h1 | h1
  · exact .inl h1
  · exact .inr h1
  · exact h1.elim
theorem RAs.tmp {P : Program} {st : St} {t : Nat} {x : AV} {rs : List ResultVar} {xs : List AV} (h : lk st.tm t = some (.v x)) (k : RAs P st rs xs) : RAs P st (.tmp t :: rs) (x :: xs) := .cons (fun _ _ => RA.tmp h) k
theorem RAs.agg {P : Program} {st : St} {ad t n i off : Nat} {T : TypeId} {xs zs : List CA} {rs : List ResultVar} {ys : List AV} (ht : tyAgg P t = some (true, n)) (h : lk st.tm ad = some (.v (.one (.ptr i off)))) (hi : lk st.hp i = some (.cells T xs)) (hy : (xs.drop off).take n = zs) (hn : zs.length = n) (k : RAs P st rs ys) : RAs P st (.cell ad t :: rs) (.agg zs :: ys) :=
  .cons (fun E hE => RA.cellAgg (by rw [hE]; exact ht) h hi hy hn) k
end
section
open Go.RowKit
set_option linter.unusedSimpArgs false
set_option linter.unusedVariables false
set_option linter.unusedSectionVars false
section
variable (E : Env) (ops : Array Oper) (st : St) (effs : List Nat)
inductive RunA (F : List (Nat × TV) → List Mem → Prop) : List Nat → List (Nat × TV) → List Mem → Prop
  | nil {fx : List (Nat × TV)} {ms : List Mem} (h : F fx ms) : RunA F [] fx ms
  | rd {i : Nat} {rest : List Nat} {fx : List (Nat × TV)} {m : Mem} {ms : List Mem} {o : Oper} {x : TV} (ho : ops[i]? = some o) (he : effs.contains i = false) (hw : wantedA ops (depsSt ops st fx i m).tm o = some true) (h : OpOK E o (depsSt ops st fx i m) x m) (hd : dstOK st o.dst = true)
      (k : RunA F rest ((i, x) :: fx) (m :: ms)) : RunA F (i :: rest) fx (m :: ms)
  | no {i : Nat} {rest : List Nat} {fx : List (Nat × TV)} {m : Mem} {ms : List Mem} {o : Oper} (ho : ops[i]? = some o) (he : effs.contains i = false) (hw : wantedA ops (depsSt ops st fx i m).tm o = some false) (hd : dstOK st o.dst = true)
      (k : RunA F rest ((i, .tup []) :: fx) (m :: ms)) : RunA F (i :: rest) fx (m :: ms)
  | eff {i : Nat} {rest : List Nat} {fx : List (Nat × TV)} {m : Mem} {ms : List Mem} {o : Oper} {x : TV} {m' : Mem} (ho : ops[i]? = some o) (he : effs.contains i = true) (hw : wantedA ops (depsSt ops st fx i m).tm o = some true) (h : OpOK E o (depsSt ops st fx i m) x m') (hd : dstOK st o.dst = true)
      (k : RunA F rest ((i, x) :: fx) (m' :: m :: ms)) : RunA F (i :: rest) fx (m :: ms)
end
section
variable {E : Env} {ops : Array Oper} {st : St} {effs : List Nat} {F : List (Nat × TV) → List Mem → Prop}
theorem facts_later {fx' fx : List (Nat × TV)} {js : List Nat} (h : ∀ j ∈ js, ∀ p ∈ fx', p.1 ≠ j) : factsOf ops (fx' ++ fx) js = factsOf ops fx js := by
  have key : ∀ j ∈ js, lk (fx' ++ fx) j = lk fx j := fun j hj => by
    rw [lk_append]
    have : lk fx' j = none := by
      cases hc : lk fx' j with
      | none => rfl
      | some x => exact absurd rfl (h j hj _ (lk_mem hc))
    rw [this]
  unfold factsOf
  induction js with
  | nil => rfl
  | cons j js ih =>
    rw [List.filterMap_cons, List.filterMap_cons, key j (by simp), ih (fun j hj => h j (by simp [hj])) (fun j hj => key j (by simp [hj]))]
theorem run_home (hdag : ∀ i, i < ops.size → ∀ k ∈ edgesOf ops i, k < i) : ∀ (todo : List Nat) (i0 : Nat) (fx : List (Nat × TV)) (m : Mem) (ms : List Mem), RunA E ops st effs F todo fx (m :: ms) → (∀ p ∈ fx, p.1 < i0) → todo = List.range' i0 (ops.size - i0) → i0 ≤ ops.size →
    ∃ fx' ms', F (fx' ++ fx) (ms' ++ m :: ms) ∧ (∀ p ∈ fx', i0 ≤ p.1) ∧ ms'.length = (todo.filter effs.contains).length ∧ ∀ i ∈ todo, ∃ mi,
      (ms' ++ m :: ms).reverse[ms.length + ((List.range' i0 (i - i0)).filter effs.contains).length]? = some mi ∧
      ∃ o x, ops[i]? = some o ∧ lk (fx' ++ fx) i = some x ∧ dstOK st o.dst = true ∧
        ((wantedA ops (depsSt ops st (fx' ++ fx) i mi).tm o = some true ∧ ∃ m', OpOK E o (depsSt ops st (fx' ++ fx) i mi) x m' ∧ (if effs.contains i then (ms' ++ m :: ms).reverse[ms.length + ((List.range' i0 (i - i0)).filter effs.contains).length + 1]? = some m' else m' = mi)) ∨
         (wantedA ops (depsSt ops st (fx' ++ fx) i mi).tm o = some false ∧ x = .tup [] ∧ effs.contains i = false)) := by
  intro todo
  induction todo with
  | nil =>
    intro i0 fx m ms h _ _ _
    cases h with
    | nil h => exact ⟨[], [], h, (fun p hp => by cases hp), rfl, (fun i hi => by cases hi)⟩
  | cons j todo ih =>
    intro i0 fx m ms h hfx htodo hle
    have hlt : i0 < ops.size := by
      rcases Nat.lt_or_ge i0 ops.size with h1 | h1
      · exact h1
      · rw [Nat.sub_eq_zero_of_le h1] at htodo; cases htodo
    rw [show ops.size - i0 = (ops.size - (i0 + 1)) + 1 by omega, List.range'_succ] at htodo
    have hj : j = i0 := (List.cons.inj htodo).1
    have ht : todo = List.range' (i0 + 1) (ops.size - (i0 + 1)) := (List.cons.inj htodo).2
    subst hj
    have hmem : ∀ i ∈ todo, j + 1 ≤ i := fun i hi => by rw [ht] at hi; have := List.mem_range'_1.1 hi; omega
    have hdeps : ∀ (x : TV) (fx' : List (Nat × TV)) (mi : Mem), (∀ p ∈ fx', j + 1 ≤ p.1) → depsSt ops st (fx' ++ (j, x) :: fx) j mi = depsSt ops st fx j mi := fun x fx' mi hf => by
      unfold depsSt
      rw [show fx' ++ (j, x) :: fx = (fx' ++ [(j, x)]) ++ fx by simp, facts_later (fun k hk p hp => ?_)]
      have := hdag j hlt k hk
      rcases List.mem_append.1 hp with hp | hp
      · have := hf p hp; omega
      · simp at hp; subst hp; dsimp only; omega
    have hlkj : ∀ (x : TV) (fx' : List (Nat × TV)), (∀ p ∈ fx', j + 1 ≤ p.1) → lk (fx' ++ (j, x) :: fx) j = some x := fun x fx' hf => by
      rw [lk_append]
      have : lk fx' j = none := by
        cases hc : lk fx' j with
        | none => rfl
        | some y => have := hf _ (lk_mem hc); dsimp only at this; omega
      rw [this]; dsimp only; rw [lk_cons, if_pos rfl]
    have hfx1 : ∀ (x : TV), ∀ p ∈ (j, x) :: fx, p.1 < j + 1 := fun x p hp => by
      rcases List.mem_cons.1 hp with rfl | hp
      · exact Nat.lt_succ_self _
      · have := hfx p hp; omega
    have hrng : ∀ i, j + 1 ≤ i → List.range' j (i - j) = j :: List.range' (j + 1) (i - (j + 1)) := fun i hi => by
      rw [show i - j = (i - (j + 1)) + 1 by omega, List.range'_succ]
    have hself : ∀ (ms' : List Mem) (m : Mem) (ms : List Mem), (ms' ++ m :: ms).reverse[ms.length]? = some m := fun ms' m ms => by
      rw [List.reverse_append, List.getElem?_append_left (by simp), List.reverse_cons, List.getElem?_append_right (by simp)]; simp
    cases h with
    | rd ho he hw hok hd k =>
      rename_i o x
      obtain ⟨fx', ms', h1, h2, h3, h4⟩ := ih (j + 1) _ m ms k (hfx1 x) ht (by omega)
      refine ⟨fx' ++ [(j, x)], ms', by rw [List.append_assoc]; exact h1, fun p hp => ?_, by rw [List.filter_cons, if_neg (by rw [he]; exact Bool.false_ne_true)]; exact h3, fun i hi => ?_⟩
      · rcases List.mem_append.1 hp with hp | hp
        · have := h2 p hp; omega
        · simp at hp; subst hp; exact Nat.le_refl _
      · rw [show (fx' ++ [(j, x)]) ++ fx = fx' ++ (j, x) :: fx by simp]
        rcases List.mem_cons.1 hi with rfl | hi
        · rw [Nat.sub_self, List.range'_zero, List.filter_nil, List.length_nil, Nat.add_zero]
          exact ⟨m, hself ms' m ms, o, x, ho, hlkj x fx' h2, hd, .inl ⟨by rw [hdeps x fx' m h2]; exact hw, m, by rw [hdeps x fx' m h2]; exact hok, by rw [if_neg (by rw [he]; exact Bool.false_ne_true)]⟩⟩
        · have := h4 i hi
          rw [hrng i (hmem i hi), List.filter_cons, if_neg (by rw [he]; exact Bool.false_ne_true)]
          exact this
    | no ho he hw hd k =>
      rename_i o
      obtain ⟨fx', ms', h1, h2, h3, h4⟩ := ih (j + 1) _ m ms k (hfx1 _) ht (by omega)
      refine ⟨fx' ++ [(j, .tup [])], ms', by rw [List.append_assoc]; exact h1, fun p hp => ?_, by rw [List.filter_cons, if_neg (by rw [he]; exact Bool.false_ne_true)]; exact h3, fun i hi => ?_⟩
      · rcases List.mem_append.1 hp with hp | hp
        · have := h2 p hp; omega
        · simp at hp; subst hp; exact Nat.le_refl _
      · rw [show (fx' ++ [(j, TV.tup [])]) ++ fx = fx' ++ (j, .tup []) :: fx by simp]
        rcases List.mem_cons.1 hi with rfl | hi
        · rw [Nat.sub_self, List.range'_zero, List.filter_nil, List.length_nil, Nat.add_zero]
          exact ⟨m, hself ms' m ms, o, .tup [], ho, hlkj _ fx' h2, hd, .inr ⟨by rw [hdeps _ fx' m h2]; exact hw, rfl, he⟩⟩
        · have := h4 i hi
          rw [hrng i (hmem i hi), List.filter_cons, if_neg (by rw [he]; exact Bool.false_ne_true)]
          exact this
    | eff ho he hw hok hd k =>
      rename_i o x m'
      obtain ⟨fx', ms', h1, h2, h3, h4⟩ := ih (j + 1) _ m' (m :: ms) k (hfx1 x) ht (by omega)
      refine ⟨fx' ++ [(j, x)], ms' ++ [m'], by rw [List.append_assoc, List.append_assoc]; exact h1, fun p hp => ?_, by rw [List.filter_cons, if_pos he]; simp [h3], fun i hi => ?_⟩
      · rcases List.mem_append.1 hp with hp | hp
        · have := h2 p hp; omega
        · simp at hp; subst hp; exact Nat.le_refl _
      · rw [show (fx' ++ [(j, x)]) ++ fx = fx' ++ (j, x) :: fx by simp, show (ms' ++ [m']) ++ m :: ms = ms' ++ m' :: m :: ms by simp]
        rcases List.mem_cons.1 hi with rfl | hi
        · rw [Nat.sub_self, List.range'_zero, List.filter_nil, List.length_nil, Nat.add_zero]
          refine ⟨m, ?_, o, x, ho, hlkj x fx' h2, hd, .inl ⟨by rw [hdeps x fx' m h2]; exact hw, m', by rw [hdeps x fx' m h2]; exact hok, ?_⟩⟩
          · simp
          · rw [if_pos he]
            simp
        · obtain ⟨mi, h5, h6⟩ := h4 i hi
          have e1 : ((List.range' j (i - j)).filter effs.contains).length = ((List.range' (j + 1) (i - (j + 1))).filter effs.contains).length + 1 := by
            rw [hrng i (hmem i hi), List.filter_cons, if_pos he, List.length_cons]
          refine ⟨mi, ?_, ?_⟩
          · rw [e1, ← h5]; congr 1; simp; omega
          · rw [e1]
            rw [show ms.length + (((List.range' (j + 1) (i - (j + 1))).filter effs.contains).length + 1) = (m :: ms).length + ((List.range' (j + 1) (i - (j + 1))).filter effs.contains).length by simp; omega]
            exact h6
def AllEx (E : Env) (ops : Array Oper) (st : St) (effs : List Nat) (fx : List (Nat × TV)) (ms : List Mem) : List (Nat × Nat) → Prop
  | [] => True
  | (i, j) :: r => (∃ m, ms[j]? = some m ∧ AnyOp E ops st fx effs ms i j m) ∧ AllEx E ops st effs fx ms r
theorem AllEx.get {fx : List (Nat × TV)} {ms : List Mem} : ∀ {l : List (Nat × Nat)} {i j : Nat}, AllEx E ops st effs fx ms l → l.contains (i, j) = true → ∃ m, ms[j]? = some m ∧ AnyOp E ops st fx effs ms i j m
  | [], i, j, _, h => by cases h
  | (a, b) :: r, i, j, ha, h => by
    simp only [List.contains_cons, Bool.or_eq_true, beq_iff_eq] at h
    rcases h with h | h
    · cases h; exact ha.1
    · exact AllEx.get ha.2 h
def homeK (effs : List Nat) (i : Nat) : Nat := ((List.range' 0 i).filter effs.contains).length
def exOK (ops : Array Oper) (effs : List Nat) (ex : List (Nat × Nat)) : Bool :=
  (List.range ops.size).all fun i => (List.range (effs.length + 1)).all fun j => !(mayAt ops effs i j) || j == homeK effs i || ex.contains (i, j)
theorem XC.anyRun {ro : Option Nat} {n id : Nat} {Q : Exit → Act → World → Prop} (effs : List Nat) (ex : List (Nat × Nat)) (hm : E.P.follows .mixedOrders = true) (hB : anyB ops effs = true) (hex : exOK ops effs ex = true) (hlen : ((List.range' 0 ops.size).filter effs.contains).length = effs.length)
    (h : RunA E ops st effs (fun fx ms => AllEx E ops st effs fx ms.reverse ex ∧ ∃ mE r, ms = mE :: r ∧ XQ E Q .normal (endSt ops st fx mE)) (List.range' 0 ops.size) [] [st.mem]) : XC E ro n Q (.region id ops true) st := by
  have hB' := hB
  simp only [anyB, Bool.and_eq_true] at hB'
  obtain ⟨⟨⟨⟨hdag, -⟩, -⟩, -⟩, -⟩ := hB'
  have hdag' : ∀ i, i < ops.size → ∀ k ∈ edgesOf ops i, k < i := fun i hi k hk => by
    have := List.all_eq_true.1 (List.all_eq_true.1 hdag i (by simpa using hi)) k hk
    simpa using this
  obtain ⟨fx', ms', ⟨hall, mE, r, hmE, hQ⟩, -, hms, hrun⟩ := run_home hdag' _ 0 [] st.mem [] h (fun p hp => by cases hp) (by rw [Nat.sub_zero]) (Nat.zero_le _)
  rw [List.append_nil] at hall hQ
  rw [hlen] at hms
  refine XC.anyOrder fx' effs (ms' ++ [st.mem]).reverse (mE := mE) hm hB (by simp) ?_ (fun i j m hi hj hmj hmay => ?_) hQ
  · rw [hmE]
    have : r.length = effs.length := by have := congrArg List.length hmE; simp at this; omega
    rw [List.reverse_cons, List.getElem?_append_right (by simp; omega)]; simp [this]
  · have h1 := List.all_eq_true.1 (List.all_eq_true.1 hex i (by simpa using hi)) j (by simpa using Nat.lt_succ_of_le hj)
    rw [hmay] at h1
    simp only [Bool.not_true, Bool.false_or, Bool.or_eq_true, beq_iff_eq] at h1
    rcases h1 with h1 | h1
    · obtain ⟨mi, h2, h3⟩ := hrun i (List.mem_range'_1.2 ⟨Nat.zero_le _, by omega⟩)
      rw [List.append_nil] at h3
      simp only [List.length_nil, Nat.zero_add, Nat.sub_zero] at h2 h3
      subst h1
      unfold homeK at hmj ⊢
      rw [hmj] at h2; cases h2
      exact h3
    · obtain ⟨m', h2, h3⟩ := hall.get h1
      rw [hmj] at h2; cases h2
      exact h3
end
end
end Go.Proofs.YtcapifnaceegmaaGreatDoor
namespace Go.Proofs.YtcapifnaceegmaaGreatDoor
open Go.RowKit
set_option linter.unusedSimpArgs false
set_option linter.unusedVariables false
set_option linter.unusedSectionVars false
instance : Enc LV := ⟨2, lvC, fun l => l.map lvC, rfl, fun a b => List.map_append, fun _ => rfl⟩
instance : Enc Lvl := ⟨2, lvlC, fun l => l.map lvlC, rfl, fun a b => List.map_append, fun _ => rfl⟩
instance : Enc Bnd := ⟨4, bndC, fun l => l.map bndC, rfl, fun a b => List.map_append, fun _ => rfl⟩
instance : Enc Int := ⟨1, intC, fun l => l.map intC, rfl, fun a b => List.map_append, fun _ => rfl⟩
def strC (s : ByteArray) : List C := [.v (.string s)]
instance : Enc ByteArray := ⟨1, strC, fun l => l.map strC, rfl, fun a b => List.map_append, fun _ => rfl⟩
def boolC (b : Bool) : List C := [.v (.bool b)]
instance : Enc Bool := ⟨1, boolC, fun l => l.map boolC, rfl, fun a b => List.map_append, fun _ => rfl⟩
def slC {α : Type} [Enc α] (l : List α) : List C := [.sl (Enc.sz α) (Enc.encL l)]
instance {α : Type} [Enc α] : Enc (List α) := ⟨1, slC, fun l => l.map slC, rfl, fun a b => List.map_append, fun _ => rfl⟩
structure Edg where
  fr : Int
  to : Int
  by_ : Int
def edgC (e : Edg) : List C := [.v (.int .i64 e.fr), .v (.int .i64 e.to), .v (.int .i64 e.by_)]
instance : Enc Edg := ⟨3, edgC, fun l => l.map edgC, rfl, fun a b => List.map_append, fun _ => rfl⟩
end Go.Proofs.YtcapifnaceegmaaGreatDoor
namespace Go.Proofs.YtcapifnaceegmaaGreatDoor
open Go.RowKit
set_option linter.unusedSimpArgs false
set_option linter.unusedVariables false
set_option linter.unusedSectionVars false
section
variable {E : Env} {ro : Option Nat} {n : Nat} {Q : Exit → Act → World → Prop} {st : St} {c : Code}
theorem XC.begin (h : E.V0.nx ≤ st.nx → XC E ro n Q c st) : XC E ro n Q c st := fun V a w hr => h (by rw [← hr.nx]; exact hr.h.le0.nx) V a w hr
theorem XQ.of {st' : St} {e : Exit} (hQ : XQ E Q e st') (hl : StLe E st st') : XQ E Q e st := XQ.less hl hQ
theorem XC.exec {st' : St} {e : Exit} {rn : Option Nat} (h : ExecOK E.P rn c st e st') (hro : RoundOf E rn ro) (k : XQ E Q e st') : XC E ro n Q c st := h E ro n Q rfl hro k
end
theorem OpOK.callW {E : Env} {st : St} {dd : Option Tmp} {ty : TypeId} {pos : String} {af : Array Edge} {g : Option (Nat × Bool)} {x : Operand} {f : FuncId} {caps : List (Nat × Nat)} {ars : Array Operand} {args args' : List AV} {ats : Array TypeId} {res : TV} {m' : Mem} {hp0 : List (Nat × HB)} {tk0 : List (Nat × Option Tok)} {nx0 : Nat} (hx : ev st.tm x = some (.v (.one (.fn f caps)))) (ha : evArgs st.tm ars.toList = some args) (he : args ++ ptrs caps = args')
    (hc : CallM E.P f args' ⟨hp0, tk0, nx0⟩ res m') (hn0 : st.nx = nx0) (hh : hpLe st.hp hp0) (ht : tkLe st.tk tk0) : OpOK E ⟨dd, .call { callee := .value x, args := ars, argTypes := ats }, ty, pos, af, g⟩ st res m' := by
  subst hn0; subst he
  intro V a w hr
  have hr' : Rel E V { st with hp := hp0, tk := tk0 } a w := ⟨hr.h.forgetLe hh ht, hr.nx, hr.nt, hr.df, hr.tm⟩
  exact OpOK.call (st := { st with hp := hp0, tk := tk0 }) hx ha hc V a w hr'
theorem ExecOK.walk {P : Program} {rn : Option Nat} {c : Code} {st st' : St} {e : Exit}
    (h : ∀ (w0 : World) (M : Nat → Prop) (V0 : Vu) (ro : Option Nat) (n : Nat) (Q : Exit → Act → World → Prop), V0.nx ≤ st.nx → RoundOf ⟨P, w0, M, V0⟩ rn ro → XQ ⟨P, w0, M, V0⟩ Q e st' → XC ⟨P, w0, M, V0⟩ ro n Q c st) : ExecOK P rn c st e st' := by
  rintro ⟨P', w0, M, V0⟩ ro n Q hP hro hQ
  dsimp only at hP
  subst hP
  exact XC.begin (fun hv => h w0 M V0 ro n Q hv hro hQ)
theorem ExecOK.from {P : Program} {rn : Option Nat} {c : Code} {st st1 st' : St} {e : Exit} (h : ExecOK P rn c st1 e st') (hl : ∀ E : Env, E.V0.nx ≤ st.nx → StLe E st st1) : ExecOK P rn c st e st' := by
  intro E ro n Q hP hro hQ
  exact XC.begin (fun hv => XC.less (hl E hv) (h E ro n Q hP hro hQ))
def cA : Code → Code
  | .seq a _ => a
  | .cond _ a _ => a
  | .block _ a => a
  | .loop a => a
  | .rangeFunc _ _ a _ => a
  | c => c
def cB : Code → Code
  | .seq _ b => b
  | .cond _ _ b => b
  | .rangeFunc _ _ _ b => b
  | c => c
def bodyC (f : Func) : Code := f.body.getD .skip
theorem cond_left {a b : Bool} (h : cond a b false = true) : a = true := by cases a <;> simp_all
theorem cond_right {a b : Bool} (h : cond a b false = true) : b = true := by cases a <;> simp_all
section
variable {E : Env} {st : St} {d : Option Tmp} {ty : TypeId} {pos : String} {af : Array Edge} {g : Option (Nat × Bool)}
theorem RO.conv2 {s t : TypeId} {x : Operand} {k k0 k' : IntKind} {m : Int} (hs : tyInt E.P s = some k0) (ht : tyInt E.P t = some k') (hx : ev st.tm x = some (TVv (.int k m))) : RO E ⟨d, .convert s t x, ty, pos, af, g⟩ st (TVv (.int k' (k'.wrap m))) := by
  refine RO.convInt ht ?_ hx
  unfold tyInt at hs
  split at hs
  · rename_i hu; exact ⟨_, hu⟩
  · cases hs
end
end Go.Proofs.YtcapifnaceegmaaGreatDoor
namespace Go.Proofs.YtcapifnaceegmaaGreatDoor
section
open Go.RowKit
set_option linter.unusedSimpArgs false
set_option linter.unusedVariables false
set_option linter.unusedSectionVars false
abbrev IMap := List (Int × Int × Nat) × Nat
def imE (l : List (Int × Int × Nat)) : List (Value × AV × Nat) := l.map fun e => (.int .i64 e.1, .one (.d (.v (.int .i64 e.2.1))), e.2.2)
def imFind (k : Int) : List (Int × Int × Nat) → Nat → Option (Nat × Int)
  | [], _ => none
  | e :: l, i => cond (k == e.1) (some (i, e.2.1)) (imFind k l (i + 1))
def imGet (M : IMap) (k : Int) : Option Int := (imFind k M.1 0).map (·.2)
def imVal (M : IMap) (k : Int) : Int := (imGet M k).getD 0
def imHas (M : IMap) (k : Int) : Bool := (imGet M k).isSome
def imSet (M : IMap) (k v : Int) : IMap := match imFind k M.1 0 with
  | some (j, _) => (M.1.modify j fun e => (k, v, e.2.2), M.2)
  | none => (M.1 ++ [(k, v, M.2)], M.2 + 1)
def imNil : IMap := ([], 0)
theorem mpBelow_im {m : Nat} {l : List (Int × Int × Nat)} : mpBelow m (imE l) = True := by
  refine eq_true fun e he => ?_
  obtain ⟨x, -, rfl⟩ := List.mem_map.1 he
  trivial
theorem findE_im (k : Int) : ∀ (l : List (Int × Int × Nat)) (i : Nat), findE (.int .i64 k) (imE l) i = some ((imFind k l i).map fun p => (p.1, .one (.d (.v (.int .i64 p.2)))))
  | [], i => rfl
  | e :: l, i => by
    have ih := findE_im k l (i + 1)
    simp only [imE] at ih
    simp only [imE, List.map_cons, findE, keyEq, decide_true, cond_true, imFind]
    cases h : k == e.1 with
    | true => rfl
    | false => simp only [cond_false]; exact ih
theorem imE_modify (l : List (Int × Int × Nat)) (j : Nat) (k v : Int) : imE (l.modify j fun e => (k, v, e.2.2)) = (imE l).modify j fun e => (.int .i64 k, .one (.d (.v (.int .i64 v))), e.2.2) := by
  unfold imE
  apply List.ext_getElem?
  intro i
  rw [List.getElem?_map, List.getElem?_modify, List.getElem?_modify, List.getElem?_map]
  cases l[i]? with
  | none => by_cases h : j = i <;> simp [h]
  | some e => by_cases h : j = i <;> simp [h]
section
variable {E : Env} {st : St} {dd : Option Tmp} {ty : TypeId} {pos : String} {af : Array Edge} {g : Option (Nat × Bool)}
theorem RO.lookupT {t : TypeId} {o1 o2 : Operand} {i : Nat} {M : IMap} {k : Int} (ht : tyMap E.P t = some (true, .one (.d (.v (.int .i64 0))))) (h1 : ev st.tm o1 = some (.v (.one (.mp i)))) (h2 : ev st.tm o2 = some (TI k)) (hi : lk st.hp i = some (.mp (imE M.1) M.2)) :
    RO E ⟨dd, .lookup t o1 o2 true, ty, pos, af, g⟩ st (.tup [.one (.d (.v (.int .i64 (imVal M k)))), .one (.d (.v (.bool (imHas M k))))]) := by
  have hf := findE_im k M.1 0
  unfold imVal imHas imGet
  cases h : imFind k M.1 0 with
  | none => rw [h] at hf; exact RO.lookup (E := E) (dd := dd) (ty := ty) (pos := pos) (af := af) (g := g) ht h1 h2 rfl hi hf true
  | some p => rw [h] at hf; exact RO.lookup (E := E) (dd := dd) (ty := ty) (pos := pos) (af := af) (g := g) ht h1 h2 rfl hi hf true
theorem RO.lookupF {t : TypeId} {o1 o2 : Operand} {i : Nat} {M : IMap} {k : Int} (ht : tyMap E.P t = some (true, .one (.d (.v (.int .i64 0))))) (h1 : ev st.tm o1 = some (.v (.one (.mp i)))) (h2 : ev st.tm o2 = some (TI k)) (hi : lk st.hp i = some (.mp (imE M.1) M.2)) :
    RO E ⟨dd, .lookup t o1 o2 false, ty, pos, af, g⟩ st (TI (imVal M k)) := by
  have hf := findE_im k M.1 0
  unfold imVal imGet
  cases h : imFind k M.1 0 with
  | none => rw [h] at hf; exact RO.lookup (E := E) (dd := dd) (ty := ty) (pos := pos) (af := af) (g := g) ht h1 h2 rfl hi hf false
  | some p => rw [h] at hf; exact RO.lookup (E := E) (dd := dd) (ty := ty) (pos := pos) (af := af) (g := g) ht h1 h2 rfl hi hf false
theorem OpOK.mapSetI {t : TypeId} {o1 o2 o3 : Operand} {i : Nat} {M : IMap} {k v : Int} (ht : tyMap E.P t = some (true, .one (.d (.v (.int .i64 0))))) (h1 : ev st.tm o1 = some (.v (.one (.mp i)))) (h2 : ev st.tm o2 = some (TI k)) (h3 : ev st.tm o3 = some (TI v)) (hi : lk st.hp i = some (.mp (imE M.1) M.2)) (hdd : dd = none) :
    OpOK E ⟨dd, .mapUpdate t o1 o2 o3, ty, pos, af, g⟩ st (.tup []) ⟨(i, .mp (imE (imSet M k v).1) (imSet M k v).2) :: dropK i st.hp, st.tk, st.nx⟩ := by
  have hf := findE_im k M.1 0
  unfold imSet
  cases h : imFind k M.1 0 with
  | none =>
    rw [h] at hf
    have e : imE (M.1 ++ [(k, v, M.2)]) = imE M.1 ++ [(.int .i64 k, .one (.d (.v (.int .i64 v))), M.2)] := by simp [imE]
    dsimp only
    rw [e]; exact OpOK.mapUpdate (E := E) (dd := dd) (ty := ty) (pos := pos) (af := af) (g := g) ht h1 h2 h3 rfl hi hf hdd
  | some p =>
    rw [h] at hf
    dsimp only
    rw [imE_modify]; exact OpOK.mapUpdate (E := E) (dd := dd) (ty := ty) (pos := pos) (af := af) (g := g) ht h1 h2 h3 rfl hi hf hdd
theorem OpOK.makeMapI {t : TypeId} : OpOK E ⟨dd, .makeMap t none, ty, pos, af, g⟩ st (.v (.one (.mp st.nx))) ⟨(st.nx, .mp (imE imNil.1) imNil.2) :: st.hp, st.tk, st.nx + 1⟩ := OpOK.makeMap
end
end
section
open Go.RowKit
set_option linter.unusedSimpArgs false
set_option linter.unusedVariables false
set_option linter.unusedSectionVars false
def nodupB {α : Type} [BEq α] : List α → Bool
  | [] => true
  | x :: l => cond (l.any fun y => x == y) false (nodupB l)
theorem nodupB_ok {α : Type} [BEq α] [LawfulBEq α] : ∀ {l : List α}, nodupB l = true → l.Nodup
  | [], _ => List.nodup_nil
  | x :: l, h => by
    simp only [nodupB] at h
    cases h1 : l.any fun y => x == y with
    | true => rw [h1] at h; cases h
    | false =>
      rw [h1] at h
      refine List.nodup_cons.2 ⟨fun hx => ?_, nodupB_ok h⟩
      have : (l.any fun y => x == y) = true := List.any_eq_true.2 ⟨x, hx, by simp⟩
      rw [h1] at this; cases this
def insZ (x : Int) : List Int → List Int
  | [] => [x]
  | y :: l => cond (decide (x ≤ y)) (x :: y :: l) (y :: insZ x l)
def sortZ (l : List Int) : List Int := l.foldr insZ []
theorem insZ_perm (x : Int) : ∀ l : List Int, (insZ x l).Perm (x :: l)
  | [] => .refl _
  | y :: l => by
    simp only [insZ]
    cases decide (x ≤ y) with
    | true => exact .refl _
    | false => exact ((insZ_perm x l).cons y).trans (.swap x y l)
theorem sortZ_perm : ∀ l : List Int, (sortZ l).Perm l
  | [] => .refl _
  | x :: l => (insZ_perm x _).trans ((sortZ_perm l).cons x)
theorem insZ_sorted (x : Int) : ∀ l : List Int, l.Pairwise (· ≤ ·) → (insZ x l).Pairwise (· ≤ ·)
  | [], _ => by simp [insZ]
  | y :: l, h => by
    obtain ⟨h1, h2⟩ := List.pairwise_cons.1 h
    simp only [insZ]
    cases hd : decide (x ≤ y) with
    | true =>
      have hxy : x ≤ y := of_decide_eq_true hd
      refine List.pairwise_cons.2 ⟨fun z hz => ?_, h⟩
      rcases List.mem_cons.1 hz with rfl | hz
      · exact hxy
      · exact Int.le_trans hxy (h1 z hz)
    | false =>
      have hxy : ¬ x ≤ y := of_decide_eq_false hd
      refine List.pairwise_cons.2 ⟨fun z hz => ?_, insZ_sorted x l h2⟩
      rcases List.mem_cons.1 ((insZ_perm x l).mem_iff.1 hz) with rfl | hz
      · omega
      · exact h1 z hz
theorem sortZ_sorted : ∀ l : List Int, (sortZ l).Pairwise (· ≤ ·)
  | [] => .nil
  | x :: l => insZ_sorted x _ (sortZ_sorted l)
theorem mergeSort_sortZ {l l' : List Int} (h : l.Perm l') : (l.mergeSort fun x y => decide (x ≤ y)) = sortZ l' := by
  have tr : ∀ a b c : Int, (fun x y : Int => decide (x ≤ y)) a b = true → (fun x y : Int => decide (x ≤ y)) b c = true → (fun x y : Int => decide (x ≤ y)) a c = true := fun a b c h1 h2 => by simp only [decide_eq_true_eq] at *; exact Int.le_trans h1 h2
  have to : ∀ a b : Int, ((fun x y : Int => decide (x ≤ y)) a b || (fun x y : Int => decide (x ≤ y)) b a) = true := fun a b => by simp only [Bool.or_eq_true, decide_eq_true_eq]; exact Int.le_total a b
  refine List.Perm.eq_of_pairwise (le := fun a b : Int => a ≤ b) (fun a b _ _ h1 h2 => Int.le_antisymm h1 h2) ?_ (sortZ_sorted l') (((List.mergeSort_perm l _).trans h).trans (sortZ_perm l').symm)
  exact (List.pairwise_mergeSort tr to l).imp (fun h => by simpa using h)
def imKeys (M : IMap) : List Int := sortZ (M.1.map fun e => e.1)
def imOk (M : IMap) : Bool := cond (Nat.ble M.1.length 1000000) (cond (M.1.all fun e => cond (Nat.ble (e.2.2 + 1) M.2) (cond (decide (-9223372036854775808 ≤ e.1)) (decide (e.1 ≤ 9223372036854775807)) false) false) (cond (nodupB (M.1.map fun e => e.2.2)) (nodupB (M.1.map fun e => e.1)) false) false) false
end
end Go.Proofs.YtcapifnaceegmaaGreatDoor
namespace Go.Proofs.YtcapifnaceegmaaGreatDoor
open Go.RowKit
set_option linter.unusedSimpArgs false
set_option linter.unusedVariables false
set_option linter.unusedSectionVars false
abbrev dI (x : Int) : CA := .d (.v (.int .i64 x))
abbrev dB (b : Bool) : CA := .d (.v (.bool b))
abbrev dS {α : Type} [Enc α] (l : List α) : CA := .d (.sl (Enc.sz α) (Enc.encL l))
abbrev dA {α : Type} [Enc α] (n : Nat) (l : List α) : CA := .app n (Enc.sz α) (Enc.encL l)
abbrev dN : CA := .d (.v (.slice none 0 0))
abbrev cE {α : Type} [Enc α] (x : α) : List CA := (Enc.enc x).map CA.d
class EncLen (α : Type) [Enc α] : Prop where
  len : ∀ x : α, (Enc.enc x).length = Enc.sz α
  pos : 0 < Enc.sz α
instance : EncLen Lvl := ⟨fun _ => rfl, by decide⟩
instance : EncLen LV := ⟨fun _ => rfl, by decide⟩
instance : EncLen Int := ⟨fun _ => rfl, by decide⟩
instance : EncLen Bnd := ⟨fun _ => rfl, by decide⟩
section
variable {α : Type} [Enc α] [EncLen α]
theorem encL_lens (l : List α) : ∀ e ∈ Enc.encL l, e.length = Enc.sz α := by
  intro e he
  rw [Enc.map] at he
  obtain ⟨x, -, rfl⟩ := List.mem_map.1 he
  exact EncLen.len x
end
section
variable {α : Type} [Enc α]
end
section
variable {E : Env} {st : St} {dd d : Option Tmp} {ty : TypeId} {pos : String} {af : Array Edge} {g : Option (Nat × Bool)}
end
inductive ORen (b : Nat) : List AV → List AV → Prop
  | nil : ORen b [] []
  | osl {off n c : Nat} {xs ys : List AV} (t : ORen b xs ys) : ORen b (.one (.osl b off n c) :: xs) (.one (.osl 0 off n c) :: ys)
  | one {x : CA} {c : C} {xs ys : List AV} (h : CSub x c) (t : ORen b xs ys) : ORen b (.one x :: xs) (.one (.d c) :: ys)
  | agg {x y : List CA} {xs ys : List AV} (h : LSub x y) (t : ORen b xs ys) : ORen b (.agg x :: xs) (.agg y :: ys)
theorem tZ {tm : List (Nat × TV)} : tmLe tm [] := trivial
theorem tR {tm r : List (Nat × TV)} {t : Nat} {y : TV} (h : lk tm t = some y) (l : tmLe tm r) : tmLe tm ((t, y) :: r) := ⟨⟨y, h, .refl y⟩, l⟩
theorem hZ {hp : List (Nat × HB)} : hpLe hp [] := trivial
theorem hR {hp r : List (Nat × HB)} {t : Nat} {y : HB} (h : lk hp t = some y) (l : hpLe hp r) : hpLe hp ((t, y) :: r) := ⟨⟨y, h, .refl y⟩, l⟩
theorem hC {hp r : List (Nat × HB)} {t : Nat} {T : TypeId} {xs ys : List CA} (h : lk hp t = some (.cells T xs)) (k : CLs xs ys) (l : hpLe hp r) : hpLe hp ((t, .cells T ys) :: r) := ⟨⟨_, h, .cells k⟩, l⟩
theorem kZ {tk : List (Nat × Option Tok)} : tkLe tk [] := trivial
theorem kR {tk r : List (Nat × Option Tok)} {t : Nat} {T : Tok} (h : lk tk t = some (some T)) (l : tkLe tk r) : tkLe tk ((t, some T) :: r) := ⟨fun T' e => by cases e; exact h, l⟩
theorem bZ {m : Nat} : hpBelow m [] := trivial
theorem bB {m i : Nat} {x : HB} {r : List (Nat × HB)} (h : Nat.blt i m = true) (k : x.belowB m = true) (l : hpBelow m r) : hpBelow m ((i, x) :: r) := ⟨blt_t h, HB.belowB_ok k, l⟩
theorem bM {m i c : Nat} {xs : List (Int × Int × Nat)} {r : List (Nat × HB)} (h : Nat.blt i m = true) (l : hpBelow m r) : hpBelow m ((i, .mp (imE xs) c) :: r) := ⟨blt_t h, (by show mpBelow m (imE xs); rw [mpBelow_im]; trivial), l⟩
theorem stle {E : Env} {st st' : St} (h1 : tmLe st.tm st'.tm) (h2 : hpLe st.hp st'.hp) (h3 : tkLe st.tk st'.tk) (h4 : Nat.ble st'.nx st.nx = true) (h5 : E.V0.nx ≤ st'.nx) (h6 : st.nt = st'.nt) (h7 : st.df = st'.df)
    (h8 : (st'.tm.all fun p => p.2.belowB st'.nx) = true) (h9 : hpBelow st'.nx st'.hp) (h10 : (st'.tk.all fun p => Nat.blt p.1 st'.nx) = true) (h11 : (st'.df.all fun i => Nat.blt i st'.nx) = true) : StLe E st st' := by
  refine ⟨h1, h2, h3, lb h4, h5, h6, h7, ?_, h9, ?_, fun i hi => blt_t (List.all_eq_true.1 h11 i hi)⟩
  · have : ∀ l : List (Nat × TV), (l.all fun p => p.2.belowB st'.nx) = true → tmBelow st'.nx l := by
      intro l
      induction l with
      | nil => intro _; trivial
      | cons p l ih => intro h; simp only [List.all_cons, Bool.and_eq_true] at h; exact ⟨TV.belowB_ok h.1, ih h.2⟩
    exact this _ h8
  · have : ∀ l : List (Nat × Option Tok), (l.all fun p => Nat.blt p.1 st'.nx) = true → tkBelow st'.nx l := by
      intro l
      induction l with
      | nil => intro _; trivial
      | cons p l ih => intro h; simp only [List.all_cons, Bool.and_eq_true] at h; exact ⟨blt_t h.1, ih h.2⟩
    exact this _ h10
theorem CallM.of_bodyD {P : Program} {f : FuncId} {fn : Func} {c : Code} {args : List AV} {m : Mem} (stf : St) {xs : List AV} (hf : P.funcs[f]? = some fn) (hb : fn.body = some c) (hen : Enters P f) (hnt : args.length ≤ fn.ntmps)
    (hdf : stf.df = []) (hres : RAs P stf fn.results.toList xs)
    (h : ∀ (w0 : World) (M : Nat → Prop) (V0 : Vu) (Q : Exit → Act → World → Prop), V0.nx ≤ m.nx →
      (∀ (e : Exit) (st' : St) (hp' : List (Nat × HB)), (e = .normal ∨ e = .ret) → takeMarks st'.df st'.hp = some hp' → StLe ⟨P, w0, M, V0⟩ ⟨st'.tm, hp', st'.tk, st'.nx, st'.nt, []⟩ stf → XQ ⟨P, w0, M, V0⟩ Q e st') → XC ⟨P, w0, M, V0⟩ none 0 Q c ⟨entry 0 args, m.hp, m.tk, m.nx, fn.ntmps, []⟩) :
    CallM P f args m (resOf xs) ⟨stf.hp, stf.tk, stf.nx⟩ := by
  refine ⟨hen, fun E V w vs hP H hn hargs => ?_⟩
  refine (callsIn_wide (n := 0)).1 (callsIn_of_wp_marks (F := Fence.wide) hf hb trivial ?_)
  have hR0 : Rel (E.at V w) V ⟨entry 0 args, m.hp, m.tk, m.nx, fn.ntmps, []⟩ { tmps := vs ++ Array.replicate (fn.ntmps - vs.size) undef, defers := [] } w := by
    refine ⟨H.rebase, hn, by simp [hargs.1]; omega, dfRel.nil, fun t x hx => ?_⟩
    obtain ⟨k, y, h1, h2, rfl⟩ := lk_entry args 0 t x hx
    obtain ⟨u, hu, hy⟩ := hargs.2 k y h2
    have hk : k < vs.size := (Array.getElem?_eq_some_iff.1 hu).1
    have : (vs ++ Array.replicate (fn.ntmps - vs.size) undef).getD t undef = u := by
      rw [show t = k by omega, Array.getD_eq_getD_getElem?, Array.getElem?_append_left hk, hu]; rfl
    rw [this]; exact hy
  have key : ∀ (st' : St) (hp' : List (Nat × HB)) (V1 : Vu) (a1 : Act) (w1 : World), takeMarks st'.df st'.hp = some hp' → StLe (E.at V w) ⟨st'.tm, hp', st'.tk, st'.nx, st'.nt, []⟩ stf → Rel (E.at V w) V1 st' a1 w1 →
      LeavesInM Fence.wide 0 P fn a1.tmps (fun e w' => ∃ v V', e = .returned v ∧ HRel E V' stf.hp stf.tk w' ∧ V'.nx = stf.nx ∧ V.Le V' w w' ∧ (resOf xs).rel V' w' v) a1.defers .returning w1 := by
    intro st' hp' V1 a1 w1 htm hle hr1
    refine leaves_marks st'.df a1.defers st'.hp hp' w1 hr1.h hr1.df htm (fun w' H' L' => ?_)
    have hr' : Rel (E.at V w) V1 ⟨st'.tm, hp', st'.tk, st'.nx, st'.nt, []⟩ { tmps := a1.tmps, defers := [] } w' := ⟨H', hr1.nx, hr1.nt, dfRel.nil, fun t x hx => (hr1.tm t x hx).mono L'⟩
    obtain ⟨V2, hr2⟩ := hr'.less hle
    obtain ⟨v, h1, h2⟩ := results_run (E := E.at V w) hres hP hr2
    obtain ⟨H5, L5⟩ := H.back hr2.h
    exact ⟨v, h1, v, V2, rfl, H5, hr2.nx, L5, h2⟩
  have hgo : ∀ E' : Env, E' = E.at V w → E'.P = P → E'.V0 = V → XC E' none 0 (bodyPostM Fence.wide 0 P fn (fun e w' => ∃ v V', e = .returned v ∧ HRel E V' stf.hp stf.tk w' ∧ V'.nx = stf.nx ∧ V.Le V' w w' ∧ (resOf xs).rel V' w' v)) c ⟨entry 0 args, m.hp, m.tk, m.nx, fn.ntmps, []⟩ := by
    rintro ⟨P', w0, M, V0⟩ he hP' hV'
    dsimp only at hP' hV'
    subst hP'
    refine h w0 M V0 _ (by rw [hV', hn]; exact Nat.le_refl _) ?_
    rintro e st' hp' (rfl | rfl) htm hle
    · intro V1 a1 w1 hr1; rw [he] at hr1 hle; exact key st' hp' V1 a1 w1 htm hle hr1
    · intro V1 a1 w1 hr1; rw [he] at hr1 hle; exact key st' hp' V1 a1 w1 htm hle hr1
  have := hgo (E.at V w) rfl hP rfl V _ w hR0
  rw [show (E.at V w).P = P from hP] at this
  exact this
section
variable {E : Env} {ro : Option Nat} {n : Nat} {Q : Exit → Act → World → Prop} {st : St} {c : Code}
end
end Go.Proofs.YtcapifnaceegmaaGreatDoor
namespace Go.Proofs.YtcapifnaceegmaaGreatDoor
open Go.RowKit
set_option linter.unusedSimpArgs false
set_option linter.unusedVariables false
set_option linter.unusedSectionVars false
section
variable {E : Env} {st : St} {dd d : Option Tmp} {ty : TypeId} {pos : String} {af : Array Edge} {g : Option (Nat × Bool)}
theorem HRel.skip {V : Vu} {hp : List (Nat × HB)} {tk : List (Nat × Option Tok)} {w : World} (h : HRel E V hp tk w) (N : Nat) (hN : V.nx ≤ N) : HRel E { V with nx := N } hp tk w ∧ V.Le { V with nx := N } w w := by
  have hle : V.Le { V with nx := N } w w := ⟨hN, fun _ _ => rfl, fun _ _ => Nat.le_refl _, fun _ _ _ _ => rfl, fun _ _ h => h, fun _ _ _ => rfl⟩
  refine ⟨⟨h.ext, h.le0.trans hle, h.sz, h.sub, fun i B hi => ?_, h.inj, h.new, fun i T hi => ?_, h.tki⟩, hle⟩
  · obtain ⟨h1, o, h2, h3⟩ := h.own i B hi
    exact ⟨Nat.lt_of_lt_of_le h1 hN, o, h2, h3.mono hle⟩
  · obtain ⟨h1, h2⟩ := h.tok i T hi
    exact ⟨Nat.lt_of_lt_of_le h1 hN, h2⟩
theorem XQ.skipTo {e_ : Exit} {Q : Exit → Act → World → Prop} (N : Nat) (hN : st.nx ≤ N) (k : XQ E Q e_ ⟨st.tm, st.hp, st.tk, N, st.nt, st.df⟩) : XQ E Q e_ st := fun V a w hr => by
  obtain ⟨H, L⟩ := hr.h.skip N (by rw [hr.nx]; exact hN)
  exact k _ a w ⟨H, rfl, hr.nt, hr.df.le L, fun t x hx => (hr.tm t x hx).mono L⟩
theorem XQ.adoptT {e_ : Exit} {Q : Exit → Act → World → Prop} {t : Nat} (e sz : Nat) (h : lk st.tm t = some (TVv (.slice none 0 0))) (k : XQ E Q e_ ⟨(t, .v (.one (.app st.nx sz []))) :: st.tm, st.hp, (st.nx, some ⟨e, sz, 0⟩) :: st.tk, st.nx + 1, st.nt, st.df⟩) : XQ E Q e_ st := by
  intro V a w hr
  obtain ⟨H, L⟩ := hr.h.tokNil e sz
  refine k (V.tok V.nx 0 (.slice none 0 0) 0 0) a w ⟨by dsimp only; rw [← hr.nx]; exact H, ?_, hr.nt, hr.df.le L, fun t' x hx => ?_⟩
  · show max V.nx (V.nx + 1) = st.nx + 1; rw [hr.nx]; omega
  · dsimp only at hx; rw [lk_cons] at hx
    split at hx
    · rename_i e1; subst e1; cases hx
      have := val_of (hr.tm _ _ h)
      rw [this, ← hr.nx]
      exact app_nil_rel e sz
    · exact (hr.tm t' x hx).mono L
theorem XQ.adoptC {e_ : Exit} {Q : Exit → Act → World → Prop} {i off : Nat} {T : TypeId} {xs : List CA} (e sz : Nat) (hi : lk st.hp i = some (.cells T xs)) (hx : xs[off]? = some (.d (.v (.slice none 0 0)))) (k : XQ E Q e_ ⟨st.tm, (i, .cells T (xs.set off (.app st.nx sz []))) :: st.hp, (st.nx, some ⟨e, sz, 0⟩) :: st.tk, st.nx + 1, st.nt, st.df⟩) : XQ E Q e_ st := by
  intro V a w hr
  obtain ⟨H, L⟩ := hr.h.tokNil e sz
  have hnx : (V.tok V.nx 0 (.slice none 0 0) 0 0).nx = st.nx + 1 := by show max V.nx (V.nx + 1) = _; rw [hr.nx]; omega
  have hl : ∀ (A : HB) j, j ≠ i → lk ((i, A) :: st.hp) j = lk st.hp j := fun A j hj => by rw [lk_cons, if_neg (fun h => hj h.symm)]
  obtain ⟨hb, o, ho, vs, hvo, hvs⟩ := H.own i _ hi
  have hcell : (xs[off]?).isSome := by rw [hx]; rfl
  obtain ⟨u, hu, hur⟩ := hvs.2 off _ hx
  have hu0 : u = .slice none 0 0 := by cases hur; rfl
  refine k _ a w ⟨?_, hnx, hr.nt, hr.df.le L, fun t' x hx => (hr.tm t' x hx).mono L⟩
  have H' := H
  rw [hr.nx] at H'
  refine ⟨H.ext, H.le0, H.sz, H.sub, ?_, ?_, ?_, ?_, ?_⟩
  · intro j B hj
    dsimp only at hj
    by_cases e1 : j = i
    · subst e1
      rw [lk_cons, if_pos rfl] at hj; cases hj
      refine ⟨hb, o, ho, vs, hvo, by rw [List.length_set]; exact hvs.1, fun m y hy => ?_⟩
      rw [List.getElem?_set] at hy
      split at hy
      · rename_i e2; subst e2
        split at hy
        · cases hy; exact ⟨u, hu, by rw [hu0, ← hr.nx]; exact app_nil_rel e sz⟩
        · cases hy
      · exact hvs.2 m y hy
    · rw [hl _ j e1] at hj; exact H.own j B hj
  · intro j m A B hj hm e1
    dsimp only at hj hm
    rw [lk_cons] at hj hm
    split at hj <;> split at hm
    · rename_i a1 a2; exact a1.symm.trans a2
    · rename_i a1 a2; subst a1; exact H.inj _ _ _ _ hi hm e1
    · rename_i a1 a2; subst a2; exact H.inj _ _ _ _ hj hi e1
    · exact H.inj _ _ _ _ hj hm e1
  · intro j B hj
    dsimp only at hj
    rw [lk_cons] at hj
    split at hj
    · rename_i a1; subst a1; exact H.new _ _ hi
    · exact H.new _ _ hj
  · intro j T' hj
    rw [← hr.nx] at hj
    obtain ⟨b1, b2, ys, b3, b4⟩ := H.tok j T' hj
    refine ⟨b1, b2, ys, b3, fun g' hg' => ⟨(b4 g' hg').1, (b4 g' hg').2.1, fun m B hm => ?_⟩⟩
    dsimp only at hm
    rw [lk_cons] at hm
    split at hm
    · rename_i a1; subst a1; exact (b4 g' hg').2.2 _ _ hi
    · exact (b4 g' hg').2.2 _ _ hm
  · intro j m T' U g' hj hm
    rw [← hr.nx] at hj hm
    exact H.tki j m T' U g' hj hm
end
end Go.Proofs.YtcapifnaceegmaaGreatDoor
