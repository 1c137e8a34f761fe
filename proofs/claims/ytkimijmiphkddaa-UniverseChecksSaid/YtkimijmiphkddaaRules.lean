/- The rules of the walk over what is known: readers. -/
import Derived.Test.YtkimijmiphkddaaCore
namespace Go.Proofs.Ytkimijmiphkddaa
open Go.RowKit
set_option linter.unusedSimpArgs false
set_option linter.unusedVariables false
set_option linter.unusedSectionVars false

def FR (ro : Option Nat) : Fence := { Fence.wide with round := ro }

/-- The marks of ranges over functions. -/
def dfRel (V : Vu) (df : List Nat) (ds : List Deferred) : Prop := (∀ i ∈ df, i < V.nx) ∧ ds = df.map fun i => { target := .collected (V.ι i), args := #[] }
theorem dfRel.le {V V' : Vu} {w w' : World} {df : List Nat} {ds : List Deferred} (h : dfRel V df ds) (hV : V.Le V' w w') : dfRel V' df ds :=
  ⟨fun i hi => Nat.lt_of_lt_of_le (h.1 i hi) hV.nx, by rw [h.2]; exact List.map_congr_left fun i hi => by rw [hV.ι i (h.1 i hi)]⟩
theorem dfRel.nil {V : Vu} : dfRel V [] [] := ⟨(fun i hi => by cases hi), rfl⟩
theorem dfRel.trim {V : Vu} {df : List Nat} {ds : List Deferred} {m : Nat} (h : dfRel V df ds) (hm : ∀ i ∈ df, i < m) : dfRel { V with nx := m } df ds := ⟨hm, h.2⟩

/-- What is known of a frame and of memory. -/
structure Rel (E : Env) (V : Vu) (st : St) (a : Act) (w : World) : Prop where
  h : HRel E V st.hp st.tk w
  nx : V.nx = st.nx
  nt : a.tmps.size = st.nt
  df : dfRel V st.df a.defers
  tm : ∀ t x, lk st.tm t = some x → x.rel V w (a.tmps.getD t undef)

def XC (E : Env) (ro : Option Nat) (n : Nat) (Q : Exit → Act → World → Prop) (c : Code) (st : St) : Prop := ∀ V a w, Rel E V st a w → c.wpIn (FR ro) n E.P Q a w
def XL (E : Env) (ro : Option Nat) (n : Nat) (ops : Array Oper) (Q : Exit → Act → World → Prop) (rest : List Oper) (st : St) : Prop := ∀ V a w, Rel E V st a w → wpListIn (FR ro) n E.P ops Q rest a w
def XQ (E : Env) (Q : Exit → Act → World → Prop) (e : Exit) (st : St) : Prop := ∀ V a w, Rel E V st a w → Q e a w
def XO (E : Env) (o : Oper) (st st' : St) : Prop := ∀ V a w, Rel E V st a w → ∀ (ro : Option Nat) (n : Nat) (K : Act → World → Prop) (Q : Exit → Act → World → Prop), (∀ V' a' w', Rel E V' st' a' w' → K a' w') → o.wpIn (FR ro) n E.P a w K Q
/-- A reader: it leaves the world alone. -/
def RO (E : Env) (o : Oper) (st : St) (x : TV) : Prop := (∀ c, o.op ≠ .defer c) ∧ ∀ V a w, Rel E V st a w → ∃ v, (execOp a.eval o).run E.P w = .ok (.value v) w ∧ x.rel V w v

def ST.put (st : St) (d : Nat) (x : TV) : St := { st with tm := (d, x) :: st.tm }

abbrev TVv (v : Value) : TV := .v (.one (.d (.v v)))
abbrev TI (n : Int) : TV := TVv (.int .i64 n)
abbrev TB (b : Bool) : TV := TVv (.bool b)

section
variable {E : Env} {V : Vu} {st : St} {a : Act} {w : World}

theorem getD_put {tmps : Array Value} {d t : Nat} {v : Value} (hd : d < tmps.size) : (tmps.setIfInBounds d v).getD t undef = if d = t then v else tmps.getD t undef := by
  by_cases h : d = t
  · subst h; simp [Array.getD, hd]
  · simp [Array.getElem?_setIfInBounds, h]

theorem Rel.put (h : Rel E V st a w) {d : Nat} {x : TV} {v : Value} (hd : d < st.nt) (hx : x.rel V w v) : Rel E V (ST.put st d x) (a.put (some d) v) w := by
  refine ⟨h.h, h.nx, by simp [Act.put, ST.put, h.nt], h.df, fun t y hy => ?_⟩
  simp only [ST.put, lk_cons] at hy
  simp only [Act.put]
  rw [getD_put (by rw [h.nt]; exact hd)]
  split at hy
  · rename_i e; rw [if_pos e]; cases hy; exact hx
  · rename_i e; rw [if_neg e]; exact h.tm t y hy

theorem Rel.unk (h : Rel E V st a w) (d : Nat) (v : Value) : Rel E V (ST.put st d .unk) (a.put (some d) v) w := by
  refine ⟨h.h, h.nx, by simp [Act.put, ST.put, h.nt], h.df, fun t y hy => ?_⟩
  simp only [ST.put, lk_cons] at hy
  split at hy
  · cases hy; trivial
  · rename_i e
    have := h.tm t y hy
    simp only [Act.put]
    by_cases hd : d < a.tmps.size
    · rw [getD_put hd, if_neg e]; exact this
    · rw [Array.setIfInBounds_eq_of_size_le (by omega)]; exact this

theorem Rel.und (h : Rel E V st a w) (d : Nat) : Rel E V (ST.put st d (.tup [])) (a.put (some d) undef) w := by
  refine ⟨h.h, h.nx, by simp [Act.put, ST.put, h.nt], h.df, fun t y hy => ?_⟩
  simp only [ST.put, lk_cons] at hy
  simp only [Act.put]
  by_cases hd : d < a.tmps.size
  · rw [getD_put hd]
    split at hy
    · rename_i e; rw [if_pos e]; cases hy; exact ⟨#[], rfl, rfl, fun i x hx => by simp at hx⟩
    · rename_i e; rw [if_neg e]; exact h.tm t y hy
  · rw [Array.setIfInBounds_eq_of_size_le (by omega)]
    split at hy
    · rename_i e; subst e; cases hy
      refine ⟨#[], ?_, rfl, fun i x hx => by simp at hx⟩
      simp [Array.getElem?_eq_none (Nat.le_of_not_lt hd), undef]
    · exact h.tm t y hy

theorem yielded_und (h : Rel E V st a w) {ops : Array Oper} {j d : Nat} (hj : (ops[j]?).bind (·.dst) = some d) (hb : lk st.tm d = some (.tup [])) : yielded ops a.tmps j = none := by
  obtain ⟨vs, h1, -⟩ := h.tm d _ hb
  rcases Nat.lt_or_ge d a.tmps.size with h2 | h2
  · have h3 : a.tmps[d]? = some (.tuple vs) := by
      rw [Array.getElem?_eq_getElem h2]
      simpa [h2] using h1
    simp [yielded, hj, h3]
  · simp [yielded, hj, Array.getElem?_eq_none h2]

def ev (tm : List (Nat × TV)) : Operand → Option TV
  | .tmp t => lk tm t
  | .const v => cond v.oneCell' (some (TVv v)) none
  | .func f => some (.v (.one (.fn f [])))
  | .global _ => none

theorem Rel.ev (h : Rel E V st a w) {o : Operand} {x : TV} (he : ev st.tm o = some x) : x.rel V w (a.eval o) := by
  cases o with
  | tmp t => exact h.tm t x he
  | const v =>
    simp only [Proofs.Ytkimijmiphkddaa.ev] at he
    cases hv : v.oneCell' with
    | false => rw [hv] at he; cases he
    | true => rw [hv] at he; cases he; exact Reads.v v hv
  | func f => cases he; exact ⟨(fun p hp => nomatch hp), rfl⟩
  | global g => cases he

theorem val_of {V : Vu} {w : World} {y u : Value} (h : (TVv y).rel V w u) : u = y := by
  cases h; rfl

theorem rel_of {V : Vu} {w : World} {y : Value} (h : y.oneCell' = true) : (TVv y).rel V w y := Reads.v y h

/-- the guard of an operation has been decided -/
theorem yielded_of (h : Rel E V st a w) {ops : Array Oper} {j d : Nat} {b : Bool} (hj : (ops[j]?).bind (·.dst) = some d) (hb : lk st.tm d = some (TB b)) : yielded ops a.tmps j = some b := by
  have h1 := val_of (h.tm d _ hb)
  have hlt : d < a.tmps.size := by
    rcases Nat.lt_or_ge d a.tmps.size with h2 | h2
    · exact h2
    · simp [Array.getElem?_eq_none h2, undef] at h1
  have h2 : a.tmps[d]? = some (.bool b) := by
    rw [Array.getElem?_eq_getElem hlt]
    simpa [hlt] using h1
  simp [yielded, hj, h2]
end

section
variable {E : Env} {ro : Option Nat} {n : Nat} {ops : Array Oper} {Q : Exit → Act → World → Prop} {rest : List Oper} {st st' : St} {o : Oper}

theorem XO.of_ro {d : Nat} {x : TV} (hdst : o.dst = some d) (hd : d < st.nt) (h : RO E o st x) : XO E o st (ST.put st d x) := by
  intro V a w hr ro n K Q hK
  obtain ⟨v, hrun, hx⟩ := h.2 V a w hr
  refine ⟨fun _ _ => trivial, ?_⟩
  rw [Oper.semAt_eq _ _ _ h.1, hrun]
  show K (a.put o.dst v) w
  rw [hdst]
  exact hK V _ w (hr.put hd hx)

theorem XL.op (hg : o.guard = none) (ho : XO E o st st') (k : XL E ro n ops Q rest st') : XL E ro n ops Q (o :: rest) st := by
  intro V a w h
  unfold wpListIn
  rw [if_pos (by simp [Region.wanted, hg])]
  exact ho V a w h ro n _ Q k

theorem XL.on {j d : Nat} {b : Bool} (hg : o.guard = some (j, b)) (hj : (ops[j]?).bind (·.dst) = some d) (hb : lk st.tm d = some (TB b)) (ho : XO E o st st') (k : XL E ro n ops Q rest st') : XL E ro n ops Q (o :: rest) st := by
  intro V a w h
  unfold wpListIn
  rw [if_pos (by simp [Region.wanted, hg, yielded_of h hj hb])]
  exact ho V a w h ro n _ Q k

theorem XL.offB {j d t : Nat} {b : Bool} (hg : o.guard = some (j, b)) (hj : (ops[j]?).bind (·.dst) = some d) (hb : lk st.tm d = some (TB (!b))) (hdst : o.dst = some t) (k : XL E ro n ops Q rest (ST.put st t (.tup []))) : XL E ro n ops Q (o :: rest) st := by
  intro V a w h
  unfold wpListIn
  rw [if_neg (by simp [Region.wanted, hg, yielded_of h hj hb])]
  refine ⟨fun _ _ => trivial, ?_⟩
  rw [hdst]
  exact k V _ w (h.und t)

theorem XL.offU {j d t : Nat} {b : Bool} (hg : o.guard = some (j, b)) (hj : (ops[j]?).bind (·.dst) = some d) (hb : lk st.tm d = some (.tup [])) (hdst : o.dst = some t) (k : XL E ro n ops Q rest (ST.put st t (.tup []))) : XL E ro n ops Q (o :: rest) st := by
  intro V a w h
  unfold wpListIn
  rw [if_neg (by simp [Region.wanted, hg, yielded_und h hj hb])]
  refine ⟨fun _ _ => trivial, ?_⟩
  rw [hdst]
  exact k V _ w (h.und t)

theorem XL.case {d : Nat} {c : Bool} (hb : lk st.tm d = some (TB c)) (ht : c = true → XL E ro n ops Q rest (ST.put st d (TB true))) (hf : c = false → XL E ro n ops Q rest (ST.put st d (TB false))) : XL E ro n ops Q rest st := by
  intro V a w h
  have key : ∀ b, c = b → Rel E V (ST.put st d (TB b)) a w := fun b e => by
    subst e
    refine ⟨h.h, h.nx, h.nt, h.df, fun t y hy => ?_⟩
    simp only [ST.put, lk_cons] at hy
    split at hy
    · rename_i e; subst e; cases hy; exact h.tm _ _ hb
    · exact h.tm t y hy
  cases hc : c with
  | true => exact ht hc V a w (key true hc)
  | false => exact hf hc V a w (key false hc)

theorem XL.nil (k : XQ E Q .normal st) : XL E ro n ops Q [] st := k

theorem XC.region {id : Nat} {l : List Oper} (h : XL E ro n l.toArray Q l st) : XC E ro n Q (.region id l.toArray false) st := fun V a w hr => wpIn_region_lit (h V a w hr)
theorem XC.seq {x y : Code} (h : XC E ro n (Exit.then (y.wpIn (FR ro) n E.P Q) Q) x st) : XC E ro n Q (.seq x y) st := fun V a w hr => wpIn_seq (h V a w hr)
theorem XQ.seq {y : Code} (h : XC E ro n Q y st) : XQ E (Exit.then (y.wpIn (FR ro) n E.P Q) Q) .normal st := h
theorem XQ.inBlock {id : Nat} (h : XQ E Q .normal st) : XQ E (Exit.inBlock id Q) .normal st := h
theorem XQ.blockX {id : Nat} (h : XQ E Q .normal st) : XQ E (Exit.inBlock id Q) (.exit id) st := fun V a w hr => by
  show (if id = id then Q .normal a w else Q (.exit id) a w)
  rw [if_pos rfl]; exact h V a w hr
theorem XQ.blockE {id id' : Nat} (hne : id' ≠ id) (h : XQ E Q (.exit id') st) : XQ E (Exit.inBlock id Q) (.exit id') st := fun V a w hr => by
  show (if id' = id then Q .normal a w else Q (.exit id') a w)
  rw [if_neg hne]; exact h V a w hr
theorem XQ.thenE {id : Nat} {K : Act → World → Prop} (h : XQ E Q (.exit id) st) : XQ E (Exit.then K Q) (.exit id) st := h
theorem XC.block {id : Nat} {c : Code} (h : XC E ro n (Exit.inBlock id Q) c st) : XC E ro n Q (.block id c) st := fun V a w hr => wpIn_block (h V a w hr)
theorem XC.skip (h : XQ E Q .normal st) : XC E ro n Q .skip st := fun V a w hr => wpIn_skip (h V a w hr)
theorem XC.ret (h : XQ E Q .ret st) : XC E ro n Q .ret st := fun V a w hr => wpIn_ret (h V a w hr)
theorem XC.exit {id : Nat} (h : XQ E Q (.exit id) st) : XC E ro n Q (.exit id) st := fun V a w hr => wpIn_exit (h V a w hr)
theorem XC.cond {c : Operand} {x y : Code} {b : Bool} (hc : ev st.tm c = some (TB b)) (ht : b = true → XC E ro n Q x st) (hf : b = false → XC E ro n Q y st) : XC E ro n Q (.cond c x y) st :=
  fun V a w hr => wpIn_cond_split (val_of (hr.ev hc)) (fun e => ht e V a w hr) (fun e => hf e V a w hr)
end

end Go.Proofs.Ytkimijmiphkddaa
