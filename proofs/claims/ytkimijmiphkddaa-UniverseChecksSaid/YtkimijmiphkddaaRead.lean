/- The readers: operations that leave the world alone. -/
import Derived.Test.YtkimijmiphkddaaRules
namespace Go.Proofs.Ytkimijmiphkddaa
open Go.RowKit
set_option linter.unusedSimpArgs false
set_option linter.unusedVariables false
set_option linter.unusedSectionVars false

/-- The offset of a field, where it is of a size. -/
def fieldOff (P : Program) (s f : Nat) : Option Nat :=
  match P.underlying s with
  | some (.struct fs) => match fs[f]? with
    | some fd => match P.info? fd.type with
      | some i => if i.size = 0 then none else some fd.offset
      | none => none
    | none => none
  | _ => none

/-- Is it an aggregate, and of how many cells? -/
def tyAgg (P : Program) (t : TypeId) : Option (Bool × Nat) :=
  match P.underlying t, P.info? t with
  | some (.struct _), some i => some (true, i.size)
  | some (.array _ _), some i => some (true, i.size)
  | some _, some i => some (false, i.size)
  | _, _ => none

/-- The element type of a slice and its size. -/
def tySlice (P : Program) (t : TypeId) : Option (TypeId × Nat) :=
  match P.underlying t with
  | some (.slice e) => match P.info? e with
    | some i => some (e, i.size)
    | none => none
  | _ => none

theorem tySlice_spec {P : Program} {t e sz : Nat} (h : tySlice P t = some (e, sz)) : P.underlying t = some (.slice e) ∧ ∃ i, P.info? e = some i ∧ i.size = sz := by
  unfold tySlice at h
  split at h
  · rename_i e' he
    split at h
    · rename_i i hi; cases h; exact ⟨he, i, hi, rfl⟩
    · cases h
  · cases h

section
variable {E : Env} {st : St} {d : Option Tmp} {ty : TypeId} {pos : String} {af : Array Edge} {g : Option (Nat × Bool)}

theorem RO.move {x : Operand} {v : TV} (h : ev st.tm x = some v) : RO E ⟨d, .move x, ty, pos, af, g⟩ st v :=
  ⟨(fun _ h => nomatch h), fun V a w hr => ⟨a.eval x, by simp [execOp], hr.ev h⟩⟩
theorem RO.assign {x : Operand} {v : TV} (h : ev st.tm x = some v) : RO E ⟨d, .assign x, ty, pos, af, g⟩ st v :=
  ⟨(fun _ h => nomatch h), fun V a w hr => ⟨a.eval x, by simp [execOp], hr.ev h⟩⟩
theorem RO.pickT {c x y : Operand} {v : TV} (hc : ev st.tm c = some (TB true)) (h : ev st.tm x = some v) : RO E ⟨d, .pick c x y, ty, pos, af, g⟩ st v :=
  ⟨(fun _ h => nomatch h), fun V a w hr => ⟨a.eval x, by simp [execOp, val_of (hr.ev hc), asBool], hr.ev h⟩⟩
theorem RO.pickF {c x y : Operand} {v : TV} (hc : ev st.tm c = some (TB false)) (h : ev st.tm y = some v) : RO E ⟨d, .pick c x y, ty, pos, af, g⟩ st v :=
  ⟨(fun _ h => nomatch h), fun V a w hr => ⟨a.eval y, by simp [execOp, val_of (hr.ev hc), asBool], hr.ev h⟩⟩

def cmpB : BinOp → Int → Int → Option Bool
  | .eql, m, n => some (m == n)
  | .neq, m, n => some (m != n)
  | .lss, m, n => some (decide (m < n))
  | .leq, m, n => some (decide (m ≤ n))
  | .gtr, m, n => some (decide (n < m))
  | .geq, m, n => some (decide (n ≤ m))
  | _, _, _ => none

theorem RO.cmp {op : BinOp} {t t' : TypeId} {x y : Operand} {k : IntKind} {m n : Int} {b : Bool} (hx : ev st.tm x = some (TVv (.int k m))) (hy : ev st.tm y = some (TVv (.int k n))) (hb : cmpB op m n = some b) :
    RO E ⟨d, .binOp op t x y t', ty, pos, af, g⟩ st (TB b) := by
  refine ⟨(fun _ h => nomatch h), fun V a w hr => ⟨.bool b, ?_, rel_of rfl⟩⟩
  have h1 := val_of (hr.ev hx)
  have h2 := val_of (hr.ev hy)
  cases op <;> simp [cmpB] at hb <;> subst hb <;> simp [execOp, eqGuard, binOp, Op.intCmp, h1, h2]

theorem RO.not {t : TypeId} {x : Operand} {b : Bool} (hx : ev st.tm x = some (TB b)) : RO E ⟨d, .unOp .not t x, ty, pos, af, g⟩ st (TB (!b)) :=
  ⟨(fun _ h => nomatch h), fun V a w hr => ⟨.bool (!b), by simp [execOp, Op.unary, val_of (hr.ev hx)], rel_of rfl⟩⟩

def aritI : BinOp → Int → Int → Option Int
  | .add, m, n => some (m + n)
  | .sub, m, n => some (m - n)
  | .mul, m, n => some (m * n)
  | _, _, _ => none

theorem RO.arith {op : BinOp} {t t' : TypeId} {x y : Operand} {m n r : Int} (hx : ev st.tm x = some (TI m)) (hy : ev st.tm y = some (TI n)) (hb : aritI op m n = some r)
    (h1 : -9223372036854775808 ≤ r) (h2 : r ≤ 9223372036854775807) : RO E ⟨d, .binOp op t x y t', ty, pos, af, g⟩ st (TI r) := by
  refine ⟨(fun _ h => nomatch h), fun V a w hr => ⟨.int .i64 r, ?_, rel_of rfl⟩⟩
  have e1 := val_of (hr.ev hx)
  have e2 := val_of (hr.ev hy)
  have e3 : IntKind.i64.wrap r = r := IntWalk.i64_in _ (by omega)
  cases op <;> simp only [aritI, Option.some.injEq, reduceCtorEq] at hb <;> subst hb <;> simp [execOp, eqGuard, binOp, Op.intArith, e1, e2, e3]

theorem RO.neg {t : TypeId} {x : Operand} {m : Int} (hx : ev st.tm x = some (TI m)) (h1 : -9223372036854775807 ≤ m) (h2 : m ≤ 9223372036854775808) : RO E ⟨d, .unOp .neg t x, ty, pos, af, g⟩ st (TI (0 - m)) := by
  refine ⟨(fun _ h => nomatch h), fun V a w hr => ⟨.int .i64 (0 - m), ?_, rel_of rfl⟩⟩
  have e3 : IntKind.i64.wrap (0 - m) = 0 - m := IntWalk.i64_in _ (by omega)
  simp only [execOp, Op.unary, Op.intArith, val_of (hr.ev hx), e3]; rfl

theorem fieldOff_spec {P : Program} {s f k : Nat} (h : fieldOff P s f = some k) : ∃ fs fd i, P.underlying s = some (.struct fs) ∧ fs[f]? = some fd ∧ P.info? fd.type = some i ∧ i.size ≠ 0 ∧ fd.offset = k := by
  unfold fieldOff at h
  split at h
  · rename_i fs hfs
    split at h
    · rename_i fd hfd
      split at h
      · rename_i i hi
        split at h
        · cases h
        · rename_i hn; cases h; exact ⟨fs, fd, i, hfs, hfd, hi, hn, rfl⟩
      · cases h
    · cases h
  · cases h

theorem addr_add (b o k : Nat) : (⟨b, o, none⟩ : Addr).add k = ⟨b, o + k, none⟩ := by unfold Addr.add; split <;> simp_all

theorem run_fieldAt {P : Program} {s f k b o : Nat} (h : fieldOff P s f = some k) (w : World) : (Instr.fieldAt s (.pointer (some ⟨b, o, none⟩)) f).run P w = .ok (.pointer (some ⟨b, o + k, none⟩)) w := by
  obtain ⟨fs, fd, i, h1, h2, h3, h4, rfl⟩ := fieldOff_spec h
  simp [Instr.fieldAt, run_underlying h1, h2, Instr.sureAddr, fieldPlace, sizeOf, typeInfo, h3, h4, addr_add]

theorem RO.fieldOwn {s f k i off : Nat} {x : Operand} (hk : fieldOff E.P s f = some k) (hx : ev st.tm x = some (.v (.one (.ptr i off)))) : RO E ⟨d, .fieldAddr s x f, ty, pos, af, g⟩ st (.v (.one (.ptr i (off + k)))) := by
  refine ⟨(fun _ h => nomatch h), fun V a w hr => ?_⟩
  have h1 := hr.ev hx
  exact ⟨_, by simp only [execOp, h1.2, Sem.run_bind, run_fieldAt hk]; rfl, h1.1, rfl⟩

theorem RO.fieldPel {s f k off : Nat} {e : List C} {x : Operand} (hk : fieldOff E.P s f = some k) (hx : ev st.tm x = some (.v (.one (.pel e off)))) : RO E ⟨d, .fieldAddr s x f, ty, pos, af, g⟩ st (.v (.one (.pel e (off + k)))) := by
  refine ⟨(fun _ h => nomatch h), fun V a w hr => ?_⟩
  obtain ⟨b, o, f', h1, h2⟩ := hr.ev hx
  exact ⟨_, by simp only [execOp, h1, Sem.run_bind, run_fieldAt hk]; rfl, b, o, f', by rw [Nat.add_assoc], h2⟩

theorem tyAgg_spec {P : Program} {t n : Nat} {ag : Bool} (h : tyAgg P t = some (ag, n)) (w : World) : (isAgg t).run P w = .ok ag w ∧ (sizeOf t).run P w = .ok n w := by
  unfold tyAgg at h
  split at h
  · rename_i hu hi; cases h; exact ⟨by simp [isAgg, run_underlying hu], by simp [sizeOf, typeInfo, hi]⟩
  · rename_i hu hi; cases h; exact ⟨by simp [isAgg, run_underlying hu], by simp [sizeOf, typeInfo, hi]⟩
  · rename_i dsc i h1 h2 hu hi; cases h
    refine ⟨?_, by simp [sizeOf, typeInfo, hi]⟩
    cases dsc <;> simp [isAgg, run_underlying hu] <;> simp_all
  · cases h

theorem run_loadCellsFrom (P : Program) (w : World) (b o : Nat) (us : Nat → Value) : ∀ (n i : Nat) (acc : Array Value), (∀ j, i ≤ j → j < i + n → w.cell? ⟨b, o + j, none⟩ = some (us j)) →
    (loadCellsFrom ⟨b, o, none⟩ i n acc).run P w = .ok (acc ++ ((List.range' i n).map us).toArray) w
  | 0, i, acc, _ => by simp [loadCellsFrom]
  | n + 1, i, acc, h => by
    have h0 := h i (Nat.le_refl _) (by omega)
    have ih := run_loadCellsFrom P w b o us n (i + 1) (acc.push (us i)) (fun j h1 h2 => h j (by omega) (by omega))
    simp only [loadCellsFrom, Sem.run_bind, addr_add, load, Sem.run, h0, Result.andThen_ok, ih]
    simp [List.range'_succ]

theorem run_loadAgg {P : Program} {w : World} {t n b o : Nat} (us : Nat → Value) (ht : tyAgg P t = some (true, n)) (h : ∀ j, j < n → w.cell? ⟨b, o + j, none⟩ = some (us j)) :
    (Instr.loadAt t (.pointer (some ⟨b, o, none⟩))).run P w = .ok (.agg ((List.range' 0 n).map us).toArray) w := by
  obtain ⟨h1, h2⟩ := tyAgg_spec ht w
  have h3 := run_loadCellsFrom P w b o us n 0 #[] (fun j _ hj => h j (by omega))
  simp only [Array.empty_append] at h3
  simp [Instr.loadAt, Instr.sureAddr, loadVar, h1, h2, loadCells, h3]

theorem run_loadOne {P : Program} {w : World} {t n b o : Nat} {u : Value} (ht : tyAgg P t = some (false, n)) (h : w.cell? ⟨b, o, none⟩ = some u) :
    (Instr.loadAt t (.pointer (some ⟨b, o, none⟩))).run P w = .ok u w := by
  obtain ⟨h1, h2⟩ := tyAgg_spec ht w
  simp [Instr.loadAt, Instr.sureAddr, loadVar, h1, load, Sem.run, h]

/-- A load of one cell of the call's own. -/
theorem RO.loadOwn {t n i off : Nat} {T : TypeId} {xs : List CA} {x : Operand} {y : CA} (ht : tyAgg E.P t = some (false, n)) (hx : ev st.tm x = some (.v (.one (.ptr i off)))) (hi : lk st.hp i = some (.cells T xs)) (hy : xs[off]? = some y) :
    RO E ⟨d, .load t x, ty, pos, af, g⟩ st (.v (.one y)) := by
  refine ⟨(fun _ h => nomatch h), fun V a w hr => ?_⟩
  have h1 := hr.ev hx
  obtain ⟨-, o, ho, vs, rfl, hvs⟩ := hr.h.own i _ hi
  obtain ⟨u, hu, hyu⟩ := hvs.2 off y hy
  exact ⟨u, by simp only [execOp, h1.2, Sem.run_bind, run_loadOne ht ((cell_of_own ho off).trans hu)]; rfl, hyu⟩

/-- A load of an aggregate of the call's own. -/
theorem RO.loadOwnAgg {t n i off : Nat} {T : TypeId} {xs ys : List CA} {x : Operand} (ht : tyAgg E.P t = some (true, n)) (hx : ev st.tm x = some (.v (.one (.ptr i off)))) (hi : lk st.hp i = some (.cells T xs)) (hy : (xs.drop off).take n = ys) (hn : ys.length = n) :
    RO E ⟨d, .load t x, ty, pos, af, g⟩ st (.v (.agg ys)) := by
  refine ⟨(fun _ h => nomatch h), fun V a w hr => ?_⟩
  have h1 := hr.ev hx
  obtain ⟨-, o, ho, vs, rfl, hvs⟩ := hr.h.own i _ hi
  have hget : ∀ j, j < n → ys[j]? = xs[off + j]? := fun j hj => by subst hy; rw [List.getElem?_take_of_lt hj, List.getElem?_drop]
  have hxs : ∀ j, j < n → ∃ y, ys[j]? = some y ∧ xs[off + j]? = some y := fun j hj => by
    have : ys[j]? = some ys[j] := List.getElem?_eq_getElem (by omega)
    exact ⟨_, this, (hget j hj).symm.trans this⟩
  have hc : ∀ j, j < n → w.cell? ⟨V.ι i, off + j, none⟩ = some (vs.getD (off + j) undef) := fun j hj => by
    obtain ⟨y, -, h3⟩ := hxs j hj
    obtain ⟨u, hu, -⟩ := hvs.2 _ y h3
    rw [cell_of_own ho, hu]
    simp [hu]
  refine ⟨_, by simp only [execOp, h1.2, Sem.run_bind, run_loadAgg _ ht hc]; rfl, _, rfl, by simp [hn], fun j y hy' => ?_⟩
  have hj : j < n := by have := (List.getElem?_eq_some_iff.1 hy').1; omega
  obtain ⟨y', h2, h3⟩ := hxs j hj
  rw [hy'] at h2; cases h2
  obtain ⟨u, hu, hyu⟩ := hvs.2 _ y h3
  refine ⟨u, ?_, hyu⟩
  simp [hj, hu]

/-- A load of one cell of what is read. -/
theorem RO.loadPel {t n off : Nat} {e : List C} {x : Operand} {c : C} (ht : tyAgg E.P t = some (false, n)) (hx : ev st.tm x = some (.v (.one (.pel e off)))) (hc : e[off]? = some c) :
    RO E ⟨d, .load t x, ty, pos, af, g⟩ st (.v (.one (.d c))) := by
  refine ⟨(fun _ h => nomatch h), fun V a w hr => ?_⟩
  obtain ⟨b, o, f', h1, h2⟩ := hr.ev hx
  obtain ⟨h3, -, h4⟩ := h2 off c hc
  exact ⟨f' off, by simp only [execOp, h1, Sem.run_bind, run_loadOne ht h3]; rfl, h4⟩

theorem RO.loadPelAgg {t n off : Nat} {e cs : List C} {x : Operand} (ht : tyAgg E.P t = some (true, n)) (hx : ev st.tm x = some (.v (.one (.pel e off)))) (hy : (e.drop off).take n = cs) (hn : cs.length = n) :
    RO E ⟨d, .load t x, ty, pos, af, g⟩ st (.v (.agg (cs.map .d))) := by
  refine ⟨(fun _ h => nomatch h), fun V a w hr => ?_⟩
  obtain ⟨b, o, f', h1, h2⟩ := hr.ev hx
  have hxs : ∀ j, j < n → ∃ y, cs[j]? = some y ∧ e[off + j]? = some y := fun j hj => by
    have h0 : cs[j]? = e[off + j]? := by subst hy; rw [List.getElem?_take_of_lt hj, List.getElem?_drop]
    have : cs[j]? = some cs[j] := List.getElem?_eq_getElem (by omega)
    exact ⟨_, this, h0.symm.trans this⟩
  have hc : ∀ j, j < n → w.cell? ⟨b, o + off + j, none⟩ = some (f' (off + j)) := fun j hj => by
    obtain ⟨y, -, h3⟩ := hxs j hj
    rw [Nat.add_assoc]
    exact (h2 _ y h3).1
  refine ⟨_, by simp only [execOp, h1, Sem.run_bind, run_loadAgg _ ht hc]; rfl, _, rfl, by simp [hn], fun j y hy' => ?_⟩
  have hj : j < n := by have := (List.getElem?_eq_some_iff.1 hy').1; simp at this; omega
  obtain ⟨y', h3, h4⟩ := hxs j hj
  rw [List.getElem?_map, h3] at hy'
  cases hy'
  exact ⟨f' (off + j), by simp [hj], (h2 _ y' h4).2.2⟩

/-- What slices read as. -/
inductive SlOf : CA → Nat → List (List C) → Prop
  | d (sz : Nat) (es : List (List C)) : SlOf (.d (.sl sz es)) sz es
  | app (i sz : Nat) (es : List (List C)) : SlOf (.app i sz es) sz es
  | nil (sz : Nat) : SlOf (.d (.v (.slice none 0 0))) sz []

theorem SlOf.reads {V : Vu} {w : World} {x : CA} {sz : Nat} {es : List (List C)} (h : SlOf x sz es) {v : Value} (hv : x.rel V w v) : Reads V.S w (.sl sz es) v := by
  cases h with
  | d => exact hv
  | app => exact hv.2.2.2
  | nil =>
    cases hv
    exact .sl sz [] none 0 0 0 (fun _ _ => undef) (Nat.le_refl _) (fun h => absurd rfl h) (fun i e h => by simp at h) (fun i e j c h => by simp at h) (fun i e j c h => by simp at h) (fun i e j c h => by simp at h)

theorem RO.len {t : TypeId} {e sz : Nat} {x : Operand} {y : CA} {es : List (List C)} (ht : tySlice E.P t = some (e, sz)) (hx : ev st.tm x = some (.v (.one y))) (hs : SlOf y sz es) :
    RO E ⟨d, .call { callee := .builtin .len, args := #[x], argTypes := #[t] }, ty, pos, af, g⟩ st (TI es.length) := by
  refine ⟨(fun _ h => nomatch h), fun V a w hr => ⟨.int .i64 es.length, ?_, rel_of rfl⟩⟩
  have h1 := hs.reads (hr.ev hx)
  generalize hv : a.eval x = v at h1
  cases h1
  simp [execOp, resolve, invoke, builtin, Builtin.len_, hv, run_underlying (tySlice_spec ht).1, goInt]

theorem RO.index {t : TypeId} {e0 sz k : Nat} {x i : Operand} {y : CA} {es : List (List C)} {e : List C} {m : Int} (ht : tySlice E.P t = some (e0, sz)) (hx : ev st.tm x = some (.v (.one y))) (hs : SlOf y sz es)
    (hi : ev st.tm i = some (TI m)) (hm : m = (k : Int)) (he : es[k]? = some e) : RO E ⟨d, .indexAddr t x i, ty, pos, af, g⟩ st (.v (.one (.pel e 0))) := by
  refine ⟨(fun _ h => nomatch h), fun V a w hr => ?_⟩
  have h1 := hs.reads (hr.ev hx)
  have h2 := val_of (hr.ev hi)
  obtain ⟨hu, i0, hi0, hsz⟩ := tySlice_spec ht
  have hlt := (List.getElem?_eq_some_iff.1 he).1
  subst hm
  generalize hv : a.eval x = v at h1
  cases h1 with
  | sl _ _ aa cap b off f hcap ha hl hc hss hr' =>
    have := ha (fun e' => by subst e'; simp at he)
    subst this
    refine ⟨.pointer (some ⟨b, off + k * sz, none⟩), ?_, b, off + k * sz, f k, rfl, fun j c hj => ⟨hc k e j c he hj, hss k e j c he hj, hr' k e j c he hj⟩⟩
    simp only [execOp, hv, h2, Instr.indexAt, asIntOf, Sem.run_bind, Sem.run_pure, Result.andThen_ok, run_underlying hu, sizeOf, typeInfo]
    simp [hi0, hsz, addr_add, hlt, Sem.run, program]

theorem RO.extract {x : Operand} {k : Nat} {xs : List AV} {y : AV} (hx : ev st.tm x = some (.tup xs)) (hk : xs[k]? = some y) : RO E ⟨d, .extract x k, ty, pos, af, g⟩ st (.v y) := by
  refine ⟨(fun _ h => nomatch h), fun V a w hr => ?_⟩
  obtain ⟨vs, h1, h2, h3⟩ := hr.ev hx
  obtain ⟨u, hu, hyu⟩ := h3 k y hk
  exact ⟨u, by simp [execOp, h1, Instr.extract, hu], hyu⟩

theorem RO.max2 {x y : Operand} {t1 t2 : TypeId} {m n : Int} (hx : ev st.tm x = some (TI m)) (hy : ev st.tm y = some (TI n)) :
    RO E ⟨d, .call { callee := .builtin .max, args := #[x, y], argTypes := #[t1, t2] }, ty, pos, af, g⟩ st (TI (max m n)) := by
  refine ⟨(fun _ h => nomatch h), fun V a w hr => ⟨.int .i64 (max m n), ?_, rel_of rfl⟩⟩
  simp [execOp, resolve, invoke, builtin, Builtin.max_, Builtin.max2, val_of (hr.ev hx), val_of (hr.ev hy)]
  omega

theorem RO.min2 {x y : Operand} {t1 t2 : TypeId} {m n : Int} (hx : ev st.tm x = some (TI m)) (hy : ev st.tm y = some (TI n)) :
    RO E ⟨d, .call { callee := .builtin .min, args := #[x, y], argTypes := #[t1, t2] }, ty, pos, af, g⟩ st (TI (min m n)) := by
  refine ⟨(fun _ h => nomatch h), fun V a w hr => ⟨.int .i64 (min m n), ?_, rel_of rfl⟩⟩
  simp [execOp, resolve, invoke, builtin, Builtin.min_, Builtin.min2, val_of (hr.ev hx), val_of (hr.ev hy)]
  omega
end
end Go.Proofs.Ytkimijmiphkddaa
