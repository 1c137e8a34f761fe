/- Operations that make or write memory; calls; a function's beginning and its end; loops. -/
import Derived.Test.YtkimijmiphkddaaRead
namespace Go.Proofs.Ytkimijmiphkddaa
open Go.RowKit
set_option linter.unusedSimpArgs false
set_option linter.unusedVariables false
set_option linter.unusedSectionVars false

def Vu.of (S : Nat → Nat → Prop) : Vu := ⟨0, fun _ => 0, fun _ _ => undef, fun _ => 0, S⟩

/-- What a cell may be taken for where it is only read. -/
inductive CSub : CA → C → Prop
  | d (c : C) : CSub (.d c) c
  | app (i sz : Nat) (es : List (List C)) : CSub (.app i sz es) (.sl sz es)
  | nil (sz : Nat) : CSub (.d (.v (.slice none 0 0))) (.sl sz [])

theorem CSub.reads {V : Vu} {w : World} {x : CA} {c : C} (h : CSub x c) {v : Value} (hv : x.rel V w v) : Reads V.S w c v := by
  cases h with
  | d => exact hv
  | app => exact hv.2.2.2
  | nil sz => exact (SlOf.nil sz).reads hv

inductive CSubs : List CA → List C → Prop
  | nil : CSubs [] []
  | cons {x : CA} {c : C} {xs : List CA} {cs : List C} (h : CSub x c) (t : CSubs xs cs) : CSubs (x :: xs) (c :: cs)

theorem CSubs.len {xs : List CA} {cs : List C} (h : CSubs xs cs) : xs.length = cs.length := by
  induction h with
  | nil => rfl
  | cons _ _ ih => simp [ih]

theorem CSubs.get {xs : List CA} {cs : List C} (h : CSubs xs cs) : ∀ (i : Nat) (c : C), cs[i]? = some c → ∃ x, xs[i]? = some x ∧ CSub x c := by
  induction h with
  | nil => intro i c hc; simp at hc
  | cons h t ih =>
    intro i c hc
    cases i with
    | zero => simp at hc; subst hc; exact ⟨_, rfl, h⟩
    | succ i => exact ih i c (by simpa using hc)

/-- Side by side. -/
inductive LSub : List CA → List CA → Prop
  | nil : LSub [] []
  | cons {x : CA} {c : C} {xs ys : List CA} (h : CSub x c) (t : LSub xs ys) : LSub (x :: xs) (.d c :: ys)

theorem LSub.len {xs ys : List CA} (h : LSub xs ys) : xs.length = ys.length := by
  induction h with
  | nil => rfl
  | cons _ _ ih => simp [ih]

theorem LSub.get {xs ys : List CA} (h : LSub xs ys) : ∀ (i : Nat) (y : CA), ys[i]? = some y → ∃ x c, xs[i]? = some x ∧ y = .d c ∧ CSub x c := by
  induction h with
  | nil => intro i c hc; simp at hc
  | cons h t ih =>
    intro i c hc
    cases i with
    | zero => simp at hc; subst hc; exact ⟨_, _, rfl, rfl, h⟩
    | succ i => exact ih i c (by simpa using hc)

/-- What a value may be taken for where it is only read. -/
inductive ASub : AV → AV → Prop
  | one {x : CA} {c : C} (h : CSub x c) : ASub (.one x) (.one (.d c))
  | agg {xs ys : List CA} (h : LSub xs ys) : ASub (.agg xs) (.agg ys)

theorem rels_of_subs {V : Vu} {w : World} {xs ys : List CA} (h : LSub xs ys) {vs : Array Value} (hv : rels V w xs vs) : rels (Vu.of V.S) w ys vs := by
  refine ⟨by rw [hv.1, h.len], fun i y hy => ?_⟩
  obtain ⟨x, c, hx, rfl, hs⟩ := h.get i y hy
  obtain ⟨u, hu, hr⟩ := hv.2 i x hx
  exact ⟨u, hu, show Reads V.S w c u from hs.reads hr⟩

theorem ASub.rel {V : Vu} {w : World} {x y : AV} (h : ASub x y) {v : Value} (hv : x.rel V w v) : y.rel (Vu.of V.S) w v := by
  cases h with
  | one h => exact (show Reads V.S w _ v from h.reads hv)
  | agg h => obtain ⟨vs, h1, h2⟩ := hv; exact ⟨vs, h1, rels_of_subs h h2⟩

def argsRel (V : Vu) (w : World) (args : List AV) (vs : Array Value) : Prop :=
  vs.size = args.length ∧ ∀ (i : Nat) (x : AV), args[i]? = some x → ∃ u, vs[i]? = some u ∧ x.rel V w u

/-- A call of f enters f. -/
def Enters (P : Program) (f : FuncId) : Prop := ∀ (as : Array Value) (w : World), (callFunc f as).run P w = .ok (.enter f as) w

/-- A function that only reads: called with values that read as these it returns a value that reads as that; nothing that was there turns. -/
def Fun (P : Program) (f : FuncId) (args : List AV) (res : TV) : Prop :=
  Enters P f ∧ ∀ (S : Nat → Nat → Prop) (w : World) (vs : Array Value), (∀ b o, S b o → b < w.heap.size) → argsRel (Vu.of S) w args vs →
    Calls P f vs w fun e w' => ∃ v S', e = .returned v ∧ ExtF w w' ∧ (∀ b o, S b o → S' b o) ∧ (∀ b o, S' b o → (S b o ∨ w.heap.size ≤ b) ∧ b < w'.heap.size) ∧ res.rel (Vu.of S') w' v

section
variable {E : Env} {st : St} {d : Nat} {ty : TypeId} {pos : String} {af : Array Edge} {g : Option (Nat × Bool)}

theorem Rel.later {V V' : Vu} {a : Act} {w w' : World} (h : Rel E V st a w) (hx : ExtF w w') (hg : V.Grow V' w w') (hn : V'.nx = V.nx) : Rel E V' st a w' :=
  ⟨h.h.later hx hg, hn.trans h.nx, h.nt, h.df.le (h.h.le hx hg), fun t x hx' => (h.tm t x hx').mono (h.h.le hx hg)⟩

theorem XO.call {f : FuncId} {args : List AV} {res : TV} {as : Array Operand} {ats : Array TypeId} (hF : Fun E.P f args res) (hn : as.size = args.length)
    (ha : ∀ (i : Nat) (y : AV), args[i]? = some y → ∃ o x, as[i]? = some o ∧ ev st.tm o = some (.v x) ∧ ASub x y) (hd : d < st.nt) :
    XO E ⟨some d, .call { callee := .value (.func f), args := as, argTypes := ats }, ty, pos, af, g⟩ st (ST.put st d res) := by
  intro V a w hr ro n K Q hK
  refine ⟨fun _ _ => trivial, ?_⟩
  rw [Oper.semAt_eq _ _ _ (by intro c h; cases h)]
  have hrun : (execOp a.eval ⟨some d, .call { callee := .value (.func f), args := as, argTypes := ats }, ty, pos, af, g⟩).run E.P w = .ok (.enter f (as.map a.eval)) w := by
    have := hF.1 (as.map a.eval) w
    simp [execOp, resolve, Act.eval, Deferred.ofValue, invoke]
    simpa using this
  rw [hrun]
  refine ⟨(by intro h; cases h), ?_⟩
  have hc := hF.2 V.S w (as.map a.eval) hr.h.sz ⟨by rw [Array.size_map]; exact hn, fun i y hy => by
    obtain ⟨o, x, h1, h2, h3⟩ := ha i y hy
    exact ⟨a.eval o, by simp [h1], h3.rel (hr.ev h2)⟩⟩
  have hc' : CallsIn Fence.wide (n - 1) E.P f (as.map a.eval) w _ := callsIn_wide.2 hc
  refine CallsIn.mono (F := FR ro) hc' ?_
  rintro e w' ⟨v, S', rfl, hx, hS, hS', hv⟩
  have hg : V.Grow { V with S := S' } w w' := ⟨Nat.le_refl _, fun _ _ => rfl, fun _ _ => rfl, fun _ _ _ _ => rfl, hS, fun b o h => (hS' b o h).1, fun b o h => (hS' b o h).2⟩
  refine hK { V with S := S' } _ w' ((hr.later hx hg rfl).put hd ?_)
  exact TV.rel.mono (V := Vu.of S') (V' := { V with S := S' }) (w := w') (w' := w') ⟨Nat.zero_le _, (fun i hi => absurd hi (Nat.not_lt_zero i)), (fun i hi => absurd hi (Nat.not_lt_zero i)), (fun i hi => absurd hi (Nat.not_lt_zero i)), fun _ _ h => h, fun _ _ _ => rfl⟩ hv

theorem XO.call1 {f : FuncId} {y1 : AV} {res : TV} {o1 : Operand} {x1 : AV} {ats : Array TypeId} (hF : Fun E.P f [y1] res) (h1 : ev st.tm o1 = some (.v x1)) (s1 : ASub x1 y1) (hd : d < st.nt) :
    XO E ⟨some d, .call { callee := .value (.func f), args := #[o1], argTypes := ats }, ty, pos, af, g⟩ st (ST.put st d res) :=
  XO.call hF rfl (fun i y hy => by
    match i, hy with
    | 0, hy => cases hy; exact ⟨o1, x1, rfl, h1, s1⟩) hd

theorem XO.call2 {f : FuncId} {y1 y2 : AV} {res : TV} {o1 o2 : Operand} {x1 x2 : AV} {ats : Array TypeId} (hF : Fun E.P f [y1, y2] res) (h1 : ev st.tm o1 = some (.v x1)) (s1 : ASub x1 y1) (h2 : ev st.tm o2 = some (.v x2)) (s2 : ASub x2 y2) (hd : d < st.nt) :
    XO E ⟨some d, .call { callee := .value (.func f), args := #[o1, o2], argTypes := ats }, ty, pos, af, g⟩ st (ST.put st d res) :=
  XO.call hF rfl (fun i y hy => by
    match i, hy with
    | 0, hy => cases hy; exact ⟨o1, x1, rfl, h1, s1⟩
    | 1, hy => cases hy; exact ⟨o2, x2, rfl, h2, s2⟩) hd

theorem XO.call3 {f : FuncId} {y1 y2 y3 : AV} {res : TV} {o1 o2 o3 : Operand} {x1 x2 x3 : AV} {ats : Array TypeId} (hF : Fun E.P f [y1, y2, y3] res) (h1 : ev st.tm o1 = some (.v x1)) (s1 : ASub x1 y1) (h2 : ev st.tm o2 = some (.v x2)) (s2 : ASub x2 y2) (h3 : ev st.tm o3 = some (.v x3)) (s3 : ASub x3 y3) (hd : d < st.nt) :
    XO E ⟨some d, .call { callee := .value (.func f), args := #[o1, o2, o3], argTypes := ats }, ty, pos, af, g⟩ st (ST.put st d res) :=
  XO.call hF rfl (fun i y hy => by
    match i, hy with
    | 0, hy => cases hy; exact ⟨o1, x1, rfl, h1, s1⟩
    | 1, hy => cases hy; exact ⟨o2, x2, rfl, h2, s2⟩
    | 2, hy => cases hy; exact ⟨o3, x3, rfl, h3, s3⟩) hd

theorem rel_add {V : Vu} {a : Act} {w : World} (hr : Rel E V st a w) (o : Obj) (B : HB) (hB : B.rel (V.add w.heap.size) (w.alloc o) o) (hd : d < st.nt) :
    Rel E (V.add w.heap.size) ⟨(d, .v (.one (.ptr st.nx 0))) :: st.tm, (st.nx, B) :: st.hp, st.tk, st.nx + 1, st.nt, st.df⟩ (a.put (some d) (.pointer (some ⟨w.heap.size, 0, none⟩))) (w.alloc o) := by
  have hx : ExtF w (w.alloc o) := ⟨rfl, rfl, rfl, by simp, fun k hk _ => Below.heap_alloc w o k hk⟩
  have H := hr.h.addOwn o B hB
  rw [hr.nx] at H
  have h1 : Rel E (V.add w.heap.size) ⟨st.tm, (st.nx, B) :: st.hp, st.tk, st.nx + 1, st.nt, st.df⟩ a (w.alloc o) :=
    ⟨H, by show V.nx + 1 = _; rw [hr.nx], hr.nt, hr.df.le (hr.h.le hx (V.add_grow w.heap.size hr.h.sz hx)), fun t x hx' => (hr.tm t x hx').mono (hr.h.le hx (V.add_grow w.heap.size hr.h.sz hx))⟩
  refine h1.put (d := d) hd ⟨?_, ?_⟩
  · show st.nx < V.nx + 1; rw [hr.nx]; exact Nat.lt_succ_self _
  · rw [← hr.nx, V.add_at]

/-- A new variable that holds a value. -/
theorem XO.box {t : TypeId} {o : Operand} {x : AV} (hx : ev st.tm o = some (.v x)) (hd : d < st.nt) :
    XO E ⟨some d, .box t o, ty, pos, af, g⟩ st ⟨(d, .v (.one (.ptr st.nx 0))) :: st.tm, (st.nx, .cells t x.cells) :: st.hp, st.tk, st.nx + 1, st.nt, st.df⟩ := by
  intro V a w hr ro n K Q hK
  refine ⟨fun _ _ => trivial, ?_⟩
  rw [Oper.semAt_eq _ _ _ (by intro c h; cases h)]
  have hrun : (execOp a.eval ⟨some d, .box t o, ty, pos, af, g⟩).run E.P w = .ok (.value (.pointer (some ⟨w.heap.size, 0, none⟩))) (w.alloc (.cells (a.eval o).cells t)) := by
    simp [execOp, Instr.box, newVar, newRow]
  rw [hrun]
  have hxc := (hr.ev hx).cells
  have hE : ExtF w (w.alloc (.cells (a.eval o).cells t)) := ⟨rfl, rfl, rfl, by simp, fun k hk _ => Below.heap_alloc w _ k hk⟩
  exact hK _ _ _ (rel_add hr _ (.cells t x.cells) ⟨_, rfl, hxc.mono (hr.h.le hE (V.add_grow w.heap.size hr.h.sz hE))⟩ hd)

def tyZero (P : Program) (t : TypeId) : Option (List Value) := ((P.info? t).bind (·.zero)).map (·.cells.toList)

theorem tyZero_spec {P : Program} {t : TypeId} {zs : List Value} (h : tyZero P t = some zs) : ∃ z, (∀ w, (zeroValue t).run P w = .ok z w) ∧ z.cells = zs.toArray := by
  unfold tyZero at h
  cases hi : P.info? t with
  | none => rw [hi] at h; cases h
  | some i =>
    rw [hi] at h
    cases hz : i.zero with
    | none => simp [hz] at h
    | some z =>
      simp [hz] at h
      exact ⟨z, fun w => by simp [zeroValue, typeInfo, hi, hz], by rw [← h]⟩

theorem XO.alloc {t : TypeId} {zs : List Value} (hz : tyZero E.P t = some zs) (h1 : zs.all (·.oneCell') = true) (hd : d < st.nt) :
    XO E ⟨some d, .alloc t, ty, pos, af, g⟩ st ⟨(d, .v (.one (.ptr st.nx 0))) :: st.tm, (st.nx, .cells t (zs.map fun z => .d (.v z))) :: st.hp, st.tk, st.nx + 1, st.nt, st.df⟩ := by
  intro V a w hr ro n K Q hK
  refine ⟨fun _ _ => trivial, ?_⟩
  rw [Oper.semAt_eq _ _ _ (by intro c h; cases h)]
  obtain ⟨z, hz1, hz2⟩ := tyZero_spec hz
  have hrun : (execOp a.eval ⟨some d, .alloc t, ty, pos, af, g⟩).run E.P w = .ok (.value (.pointer (some ⟨w.heap.size, 0, none⟩))) (w.alloc (.cells zs.toArray t)) := by
    simp [execOp, Instr.alloc, hz1, newVar, newRow, hz2]
  rw [hrun]
  refine hK _ _ _ (rel_add hr _ (.cells t _) ⟨_, rfl, by simp, fun i x hx => ?_⟩ hd)
  rw [List.getElem?_map] at hx
  cases hi : zs[i]? with
  | none => rw [hi] at hx; cases hx
  | some z' =>
    rw [hi] at hx; cases hx
    exact ⟨z', by simp [hi], Reads.v z' (List.all_eq_true.1 h1 z' (List.mem_of_getElem? hi))⟩

def setL : List CA → Nat → List CA → List CA
  | xs, _, [] => xs
  | xs, off, y :: ys => setL (xs.set off y) (off + 1) ys

theorem HRel.storeL {V : Vu} {tk : List (Nat × Option Tok)} {i : Nat} {T : TypeId} : ∀ (ys : List CA) (us : List Value) (k off : Nat) (xs : List CA) (hp : List (Nat × HB)) (w : World), HRel E V hp tk w → lk hp i = some (.cells T xs) →
    off + k + ys.length ≤ xs.length → us.length = ys.length → (∀ (j : Nat) (y : CA), ys[j]? = some y → ∃ u, us[j]? = some u ∧ y.rel V w u) →
    ∃ w', (storeCells ⟨V.ι i, off, none⟩ us k).run E.P w = .ok () w' ∧ HRel E V ((i, .cells T (setL xs (off + k) ys)) :: hp) tk w' ∧ V.Le V w w'
  | [], us, k, off, xs, hp, w, h, hi, _, hu, _ => by
    have : us = [] := List.eq_nil_of_length_eq_zero (by simpa using hu)
    subst this
    refine ⟨w, by simp [storeCells], ?_, Vu.Le.refl V w⟩
    simp only [setL]
    have hl : ∀ j, lk ((i, HB.cells T xs) :: hp) j = lk hp j := fun j => by rw [lk_cons]; split <;> simp_all
    exact ⟨h.ext, h.le0, h.sz, h.sub, fun j B hj => h.own j B (by rw [← hl]; exact hj), fun j k A B hj hk => h.inj j k A B (by rw [← hl]; exact hj) (by rw [← hl]; exact hk), fun j B hj => h.new j B (by rw [← hl]; exact hj),
      fun j T' hj => by obtain ⟨h1, hcu, xs', h2, h3⟩ := h.tok j T' hj; exact ⟨h1, hcu, xs', h2, fun g hg => ⟨(h3 g hg).1, (h3 g hg).2.1, fun k B hk => (h3 g hg).2.2 k B (by rw [← hl]; exact hk)⟩⟩, h.tki⟩
  | y :: ys, us, k, off, xs, hp, w, h, hi, hle, hu, hrel => by
    match us, hu with
    | u :: us, hu =>
      simp only [List.length_cons] at hle hu
      obtain ⟨u', hu', hy⟩ := hrel 0 y rfl
      simp at hu'
      subst hu'
      obtain ⟨-, o, ho, vs, rfl, hvs⟩ := h.own i _ hi
      obtain ⟨H1, L1⟩ := h.store hi (off + k) hy
      have hcell : w.cell? ⟨V.ι i, off + k, none⟩ = some (vs.getD (off + k) undef) := by
        rw [cell_of_own ho]
        have : off + k < vs.size := by rw [hvs.1]; omega
        simp [this]
      have hone := hy.one
      have hst : (Go.store ⟨V.ι i, off + k, none⟩ u).run E.P w = .ok () (w.setCell ⟨V.ι i, off + k, none⟩ u) := by
        rw [run_store _ _ _ _ _ hone, hcell]
        simp [free_of_own ho]
      obtain ⟨w', hw', H2, L2⟩ := HRel.storeL (i := i) (T := T) ys us (k + 1) off (xs.set (off + k) y) _ _ H1 (by simp [lk_cons]) (by simp; omega) (by omega) (fun j z hz => by
        obtain ⟨u2, h2, h3⟩ := hrel (j + 1) z (by simpa using hz)
        exact ⟨u2, by simpa using h2, h3.mono L1⟩)
      refine ⟨w', ?_, ?_, L1.trans L2⟩
      · simp only [storeCells, Sem.run_bind, addr_add, hst, Result.andThen_ok, hw']
      · have hl : ∀ (A B : HB) j, lk ((i, A) :: (i, B) :: hp) j = lk ((i, A) :: hp) j := fun A B j => by rw [lk_cons, lk_cons, lk_cons]; split <;> rfl
        simp only [setL]
        rw [show off + k + 1 = off + (k + 1) by omega]
        generalize setL (xs.set (off + k) y) (off + (k + 1)) ys = zs at H2 ⊢
        have hl' := hl (HB.cells T zs) (HB.cells T (xs.set (off + k) y))
        exact ⟨H2.ext, H2.le0, H2.sz, H2.sub, fun j B hj => H2.own j B (by rw [hl']; exact hj), fun j k A B hj hk => H2.inj j k A B (by rw [hl']; exact hj) (by rw [hl']; exact hk), fun j B hj => H2.new j B (by rw [hl']; exact hj),
          fun j T' hj => by obtain ⟨h1, hcu, xs', h2, h3⟩ := H2.tok j T' hj; exact ⟨h1, hcu, xs', h2, fun g hg => ⟨(h3 g hg).1, (h3 g hg).2.1, fun k B hk => (h3 g hg).2.2 k B (by rw [hl']; exact hk)⟩⟩, H2.tki⟩

/-- A store into the call's own. -/
theorem XO.store {t n i off : Nat} {ag : Bool} {T : TypeId} {xs : List CA} {o1 o2 : Operand} {y : AV} {dd : Option Tmp} (ht : tyAgg E.P t = some (ag, n)) (h1 : ev st.tm o1 = some (.v (.one (.ptr i off)))) (h2 : ev st.tm o2 = some (.v y))
    (hi : lk st.hp i = some (.cells T xs)) (hn : y.cells.length = n) (hle : off + n ≤ xs.length) (hdd : dd = none) :
    XO E ⟨dd, .store t o1 o2, ty, pos, af, g⟩ st ⟨st.tm, (i, .cells T (setL xs off y.cells)) :: st.hp, st.tk, st.nx, st.nt, st.df⟩ := by
  intro V a w hr ro n' K Q hK
  refine ⟨fun _ _ => trivial, ?_⟩
  rw [Oper.semAt_eq _ _ _ (by intro c h; cases h)]
  have e1 := hr.ev h1
  have e2 := (hr.ev h2).cells
  obtain ⟨-, hsz⟩ := tyAgg_spec ht w
  obtain ⟨w', hw', H, L⟩ := HRel.storeL (T := T) y.cells (a.eval o2).cells.toList 0 off xs st.hp w hr.h hi (by simpa [hn] using hle) (by simpa using e2.1) (fun j z hz => by
    obtain ⟨u, hu, hz'⟩ := e2.2 j z hz
    exact ⟨u, by simpa using hu, hz'⟩)
  have hrun : (execOp a.eval ⟨dd, .store t o1 o2, ty, pos, af, g⟩).run E.P w = .ok .skip w' := by
    have hs2 : (a.eval o2).cells.size = n := by rw [e2.1, hn]
    simp only [execOp, e1.2, Instr.storeAt, Instr.sureAddr, storeVar, Sem.run_bind, Sem.run_pure, Result.andThen_ok, hsz, hs2]
    simp [hw']
  rw [hrun]
  subst hdd
  exact hK V _ w' ⟨H, hr.nx, hr.nt, hr.df, fun t x hx => (hr.tm t x hx).mono L⟩
end

end Go.Proofs.Ytkimijmiphkddaa
