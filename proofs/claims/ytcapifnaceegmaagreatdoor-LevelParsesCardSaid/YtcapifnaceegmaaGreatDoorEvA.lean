/- An evaluator on what is known: tables of types; operations that only read. -/
import Derived.Test.YtcapifnaceegmaaGreatDoorCalls
namespace Go.Proofs.YtcapifnaceegmaaGreatDoor
open Go.RowKit
set_option linter.unusedSimpArgs false
set_option linter.unusedVariables false
set_option linter.unusedSectionVars false

/-- The length and the element size of an array type. -/
def tyArr (P : Program) (t : TypeId) : Option (Nat × Nat) :=
  match P.underlying t with
  | some (.array n e) => match P.info? e with
    | some i => some (n, i.size)
    | none => none
  | _ => none

/-- The zero of a type as data. -/
def zeroAV (P : Program) (e : TypeId) : Option AV :=
  match (P.info? e).bind (·.zero) with
  | some (.agg vs) => cond (vs.toList.all (·.oneCell')) (some (.agg (vs.toList.map fun z => .d (.v z)))) none
  | some v => cond v.oneCell' (some (.one (.d (.v v)))) none
  | none => none

/-- The kind of the keys and the zero of a map type with keys that are numbers or strings. -/
def tyMap (P : Program) (t : TypeId) : Option (Bool × AV) :=
  match P.underlying t with
  | some (.map k e) => match P.underlying k with
    | some (.int _) => (zeroAV P e).map fun z => (true, z)
    | some .string => (zeroAV P e).map fun z => (false, z)
    | _ => none
  | _ => none

def tyInt (P : Program) (t : TypeId) : Option IntKind := match P.underlying t with
  | some (.int k) => some k
  | _ => none
def isStrTy (P : Program) (t : TypeId) : Bool := match P.underlying t with
  | some .string => true
  | _ => false

structure Tables where
  agg : List (Nat × (Bool × Nat))
  sl : List (Nat × (Nat × Nat))
  zero : List (Nat × List Value)
  fld : List (Nat × List (Nat × Nat))
  places : List (Nat × List (Nat × Nat))
  elem : List (Nat × (Nat × Nat))
  arr : List (Nat × (Nat × Nat))
  mp : List (Nat × (Bool × AV))
  ints : List (Nat × IntKind)
  strs : List (Nat × Unit)
  bools : List (Nat × Unit)
  pairs : List (Nat × Unit)
  fns : List (Nat × Func)

def AllT {α : Type} (p : Nat → α → Prop) : List (Nat × α) → Prop
  | [] => True
  | (k, x) :: r => p k x ∧ AllT p r

theorem AllT.get {α : Type} {p : Nat → α → Prop} : ∀ {l : List (Nat × α)} {k : Nat} {x : α}, AllT p l → lk l k = some x → p k x
  | [], k, x, _, h => by cases h
  | (j, y) :: r, k, x, ha, h => by
    rw [lk_cons] at h
    split at h
    · rename_i e; subst e; cases h; exact ha.1
    · exact AllT.get ha.2 h

structure Tables.OK (P : Program) (T : Tables) : Prop where
  agg : AllT (fun t v => tyAgg P t = some v) T.agg
  sl : AllT (fun t v => tySlice P t = some v) T.sl
  zero : AllT (fun t v => tyZero P t = some v ∧ v.all (·.oneCell') = true) T.zero
  fld : AllT (fun t v => AllT (fun f k => fieldOff P t f = some k) v) T.fld
  places : AllT (fun t v => tyPlaces P t = some v) T.places
  elem : AllT (fun t v => tyElem P t = some v) T.elem
  arr : AllT (fun t v => tyArr P t = some v) T.arr
  mp : AllT (fun t v => tyMap P t = some v) T.mp
  ints : AllT (fun t v => tyInt P t = some v) T.ints
  strs : AllT (fun t _ => isStrTy P t = true) T.strs
  bools : AllT (fun t _ => isBoolTy P t = true) T.bools
  pairs : AllT (fun t _ => isPairTy P t = true) T.pairs
  fns : AllT (fun f v => P.funcs[f]? = some v ∧ Enters P f) T.fns
  mixed : P.follows .mixedOrders = true

/-! ### Numbers and strings -/
def intBin (op : BinOp) (k : IntKind) (a : Int) (k' : IntKind) (b : Int) : Option Value :=
  match op with
  | .shl => cond (decide (b < 0)) none (some (.int k (k.wrap (a * 2 ^ (min b.toNat k.bits)))))
  | .shr => cond (decide (b < 0)) none (some (.int k (a.fdiv (2 ^ (min b.toNat k.bits)))))
  | op => cond (decide (k = k')) (match op with
    | .add => some (.int k (k.wrap (a + b)))
    | .sub => some (.int k (k.wrap (a - b)))
    | .mul => some (.int k (k.wrap (a * b)))
    | .quo => cond (decide (b = 0)) none (some (.int k (k.wrap (a.tdiv b))))
    | .rem => cond (decide (b = 0)) none (some (.int k (a.tmod b)))
    | .and => some (.int k (k.wrap (BitVec.ofInt k.bits a &&& BitVec.ofInt k.bits b).toNat))
    | .or => some (.int k (k.wrap (BitVec.ofInt k.bits a ||| BitVec.ofInt k.bits b).toNat))
    | .xor => some (.int k (k.wrap (BitVec.ofInt k.bits a ^^^ BitVec.ofInt k.bits b).toNat))
    | .andNot => some (.int k (k.wrap (BitVec.ofInt k.bits a &&& ~~~(BitVec.ofInt k.bits b)).toNat))
    | .eql => some (.bool (a == b))
    | .neq => some (.bool (a != b))
    | .lss => some (.bool (decide (a < b)))
    | .leq => some (.bool (decide (a ≤ b)))
    | .gtr => some (.bool (decide (b < a)))
    | .geq => some (.bool (decide (b ≤ a)))
    | _ => none) none

theorem intBin_run {P : Program} {op : BinOp} {k k' : IntKind} {a b : Int} {t : TypeId} {v : Value} (h : intBin op k a k' b = some v) (w : World) : (binOp op t (.int k a) (.int k' b)).run P w = .ok v w ∧ v.oneCell' = true := by
  cases op <;> simp only [intBin] at h
  case shl =>
    by_cases hb : b < 0
    · simp [hb] at h
    · simp [hb] at h; subst h; simp [binOp, Op.shift, hb]; rfl
  case shr =>
    by_cases hb : b < 0
    · simp [hb] at h
    · simp [hb] at h; subst h; simp [binOp, Op.shift, hb]; rfl
  all_goals (
    by_cases hk : k = k'
    · subst hk
      simp at h
      first
        | (by_cases hb : b = 0
           · simp [hb] at h
           · simp [hb] at h; subst h; simp [binOp, Op.intDiv, hb])
        | (by_cases hb : b = 0
           · simp [hb] at h
           · simp [hb] at h; subst h; refine ⟨?_, rfl⟩; simp [binOp, Op.intDiv, hb])
        | (subst h; simp [binOp, Op.intArith, Op.intBits, Op.intCmp]; done)
        | (subst h; simp [binOp, Op.intArith, Op.intBits, Op.intCmp]; rfl)
        | (subst h; refine ⟨?_, rfl⟩; simp [binOp, Op.intArith, Op.intBits, Op.intCmp])
    · simp [hk] at h)

def strBin (op : BinOp) (x y : ByteArray) : Option Value :=
  let eq := x.toList == y.toList
  let lt := Op.bytesLess x.toList y.toList
  match op with
  | .add => cond (decide (((x.size + y.size : Nat) : Int) > IntKind.i64.max)) none (some (.string (x ++ y)))
  | .eql => some (.bool eq)
  | .neq => some (.bool !eq)
  | .lss => some (.bool lt)
  | .leq => some (.bool (lt || eq))
  | .gtr => some (.bool !(lt || eq))
  | .geq => some (.bool !lt)
  | _ => none

theorem strBin_run {P : Program} {op : BinOp} {x y : ByteArray} {t : TypeId} {v : Value} (h : strBin op x y = some v) (w : World) : (binOp op t (.string x) (.string y)).run P w = .ok v w ∧ v.oneCell' = true := by
  cases op <;> simp only [strBin, reduceCtorEq, Option.some.injEq] at h
  case add =>
    cases hb : decide (((x.size + y.size : Nat) : Int) > IntKind.i64.max) with
    | true => rw [hb] at h; cases h
    | false =>
      rw [hb] at h; cases h
      have hb' := of_decide_eq_false hb
      refine ⟨?_, rfl⟩
      simp only [binOp, Op.stringOp, hb', if_false]; rfl
  all_goals (subst h; exact ⟨rfl, rfl⟩)

section
variable {E : Env} {st : St} {d : Option Tmp} {ty : TypeId} {pos : String} {af : Array Edge} {g : Option (Nat × Bool)}

theorem RO.binInt {op : BinOp} {t t' : TypeId} {x y : Operand} {k k' : IntKind} {a b : Int} {v : Value} (hx : ev st.tm x = some (TVv (.int k a))) (hy : ev st.tm y = some (TVv (.int k' b))) (h : intBin op k a k' b = some v) : RO E ⟨d, .binOp op t x y t', ty, pos, af, g⟩ st (TVv v) := by
  refine ⟨(fun _ h => nomatch h), fun V ac w hr => ⟨v, ?_, rel_of (intBin_run (P := E.P) (t := t) h w).2⟩⟩
  have h1 := val_of (hr.ev hx)
  have h2 := val_of (hr.ev hy)
  have hg : (eqGuard op t x y (.int k a) (.int k' b)).run E.P w = .ok () w := by cases op <;> simp [eqGuard]
  simp only [execOp, h1, h2, Sem.run_bind, hg, Result.andThen_ok, (intBin_run (P := E.P) (t := t) h w).1]
  rfl

theorem RO.binStr {op : BinOp} {t t' : TypeId} {x y : Operand} {a b : ByteArray} {v : Value} (hx : ev st.tm x = some (TVv (.string a))) (hy : ev st.tm y = some (TVv (.string b))) (h : strBin op a b = some v) : RO E ⟨d, .binOp op t x y t', ty, pos, af, g⟩ st (TVv v) := by
  refine ⟨(fun _ h => nomatch h), fun V ac w hr => ⟨v, ?_, rel_of (strBin_run (P := E.P) (t := t) h w).2⟩⟩
  have h1 := val_of (hr.ev hx)
  have h2 := val_of (hr.ev hy)
  have hg : (eqGuard op t x y (.string a) (.string b)).run E.P w = .ok () w := by cases op <;> simp [eqGuard]
  simp only [execOp, h1, h2, Sem.run_bind, hg, Result.andThen_ok, (strBin_run (P := E.P) (t := t) h w).1]
  rfl

theorem RO.neqBool {t t' : TypeId} {x y : Operand} {a b : Bool} (ht : isBoolTy E.P t = true) (hx : ev st.tm x = some (TB a)) (hy : ev st.tm y = some (TB b)) : RO E ⟨d, .binOp .neq t x y t', ty, pos, af, g⟩ st (TB (!(a == b))) := by
  refine ⟨(fun _ h => nomatch h), fun V ac w hr => ⟨.bool (!(a == b)), ?_, rel_of rfl⟩⟩
  have e0 : ∀ dp, (Op.equalIn (dp + 1) t (.bool a) (.bool b)).run E.P w = .ok (a == b) w := fun dp => by
    simp [Op.equalIn, run_underlying (isBoolTy_spec ht)]
  have e : (Op.equalIn Op.maxDepth t (.bool a) (.bool b)).run E.P w = .ok (a == b) w := e0 9999
  simp only [execOp, val_of (hr.ev hx), val_of (hr.ev hy), eqGuard, binOp, Op.equal, Sem.run_bind]
  simp [e]

theorem RO.eqPair {t t' : TypeId} {x y : Operand} {a0 a1 b0 b1 : Int} (ht : isPairTy E.P t = true) (hx : ev st.tm x = some (.v (.agg [.d (.v (.int .i64 a0)), .d (.v (.int .i64 a1))]))) (hy : ev st.tm y = some (.v (.agg [.d (.v (.int .i64 b0)), .d (.v (.int .i64 b1))]))) : RO E ⟨d, .binOp .eql t x y t', ty, pos, af, g⟩ st (TB ((a0 == b0) && (a1 == b1))) := by
  refine ⟨(fun _ h => nomatch h), fun V ac w hr => ⟨.bool ((a0 == b0) && (a1 == b1)), ?_, rel_of rfl⟩⟩
  have ex : ∀ (o : Operand) (p q : Int), ev st.tm o = some (.v (.agg [.d (.v (.int .i64 p)), .d (.v (.int .i64 q))])) → ac.eval o = .agg #[.int .i64 p, .int .i64 q] := fun o p q h => by
    obtain ⟨vs, h1, h2, h3⟩ := hr.ev h
    obtain ⟨u0, a1, a2⟩ := h3 0 _ rfl
    obtain ⟨u1, b1, b2⟩ := h3 1 _ rfl
    cases a2; cases b2
    rw [h1]
    congr 1
    apply Array.ext
    · simpa using h2
    · intro i hi1 hi2
      simp at hi2
      match i, hi2 with
      | 0, _ => rw [Array.getElem?_eq_getElem (by omega)] at a1; exact Option.some.inj a1
      | 1, _ => rw [Array.getElem?_eq_getElem (by omega)] at b1; exact Option.some.inj b1
  obtain ⟨e, hgt⟩ := pair_run (w := w) ht a0 a1 b0 b1
  simp only [execOp, ex x _ _ hx, ex y _ _ hy, eqGuard, binOp, Op.equal, Sem.run_bind]
  simp [e, hgt]

theorem RO.negI {t : TypeId} {x : Operand} {k : IntKind} {m : Int} (hx : ev st.tm x = some (TVv (.int k m))) : RO E ⟨d, .unOp .neg t x, ty, pos, af, g⟩ st (TVv (.int k (k.wrap (0 - m)))) := by
  refine ⟨(fun _ h => nomatch h), fun V a w hr => ⟨.int k (k.wrap (0 - m)), ?_, rel_of rfl⟩⟩
  simp only [execOp, Op.unary, Op.intArith, val_of (hr.ev hx)]; rfl

theorem RO.nilCheckPtr {x : Operand} {i off : Nat} (hx : ev st.tm x = some (.v (.one (.ptr i off)))) : RO E ⟨d, .nilCheck x, ty, pos, af, g⟩ st (.v (.one (.ptr i off))) := by
  refine ⟨(fun _ h => nomatch h), fun V a w hr => ⟨a.eval x, ?_, hr.ev hx⟩⟩
  simp only [execOp, (hr.ev hx).2]; rfl
theorem RO.nilCheckPel {x : Operand} {e : List C} {off : Nat} (hx : ev st.tm x = some (.v (.one (.pel e off)))) : RO E ⟨d, .nilCheck x, ty, pos, af, g⟩ st (.v (.one (.pel e off))) := by
  refine ⟨(fun _ h => nomatch h), fun V a w hr => ⟨a.eval x, ?_, hr.ev hx⟩⟩
  obtain ⟨b, o, f, hv, -⟩ := hr.ev hx
  simp only [execOp, hv]; rfl

theorem RO.convInt {s t : TypeId} {x : Operand} {k k' : IntKind} {m : Int} (ht : tyInt E.P t = some k') (hs : ∃ u, E.P.underlying s = some u) (hx : ev st.tm x = some (TVv (.int k m))) : RO E ⟨d, .convert s t x, ty, pos, af, g⟩ st (TVv (.int k' (k'.wrap m))) := by
  refine ⟨(fun _ h => nomatch h), fun V a w hr => ⟨.int k' (k'.wrap m), ?_, rel_of rfl⟩⟩
  have hu : E.P.underlying t = some (.int k') := by
    unfold tyInt at ht
    split at ht
    · rename_i h; cases ht; exact h
    · cases ht
  obtain ⟨u, hs⟩ := hs
  simp only [execOp, val_of (hr.ev hx), convert, Sem.run_bind, run_underlying hs, run_underlying hu, Result.andThen_ok]
  cases u <;> rfl

theorem tyArr_spec {P : Program} {t n sz : Nat} (h : tyArr P t = some (n, sz)) : ∃ e i, P.underlying t = some (.array n e) ∧ P.info? e = some i ∧ i.size = sz := by
  unfold tyArr at h
  split at h
  · rename_i m e hu
    split at h
    · rename_i i hi; cases h; exact ⟨e, i, hu, hi, rfl⟩
    · cases h
  · cases h

theorem run_indexArr {P : Program} {t n sz : Nat} (h : tyArr P t = some (n, sz)) {b o k : Nat} (hk : k < n) (w : World) (kk : IntKind) : (Instr.indexAt t (.pointer (some ⟨b, o, none⟩)) (.int kk (k : Int))).run P w = .ok (.pointer (some ⟨b, o + k * sz, none⟩)) w := by
  obtain ⟨e, i, hu, hi, rfl⟩ := tyArr_spec h
  have h2 : (k : Int) < (n : Int) := by omega
  have h3 : ¬ n ≤ k := by omega
  simp [h3, Instr.indexAt, asIntOf, run_underlying hu, Instr.sureAddr, sizeOf, typeInfo, hi, addr_add, h2]

theorem RO.indexArrOwn {t n sz k i off : Nat} {x y : Operand} {kk : IntKind} {m : Int} (ht : tyArr E.P t = some (n, sz)) (hx : ev st.tm x = some (.v (.one (.ptr i off)))) (hy : ev st.tm y = some (TVv (.int kk m))) (hm : m = (k : Int)) (hk : k < n) : RO E ⟨d, .indexAddr t x y, ty, pos, af, g⟩ st (.v (.one (.ptr i (off + k * sz)))) := by
  refine ⟨(fun _ h => nomatch h), fun V a w hr => ?_⟩
  subst hm
  have h1 := hr.ev hx
  exact ⟨_, by simp only [execOp, h1.2, val_of (hr.ev hy), Sem.run_bind, run_indexArr ht hk]; rfl, h1.1, rfl⟩
theorem RO.indexArrPel {t n sz k off : Nat} {e : List C} {x y : Operand} {kk : IntKind} {m : Int} (ht : tyArr E.P t = some (n, sz)) (hx : ev st.tm x = some (.v (.one (.pel e off)))) (hy : ev st.tm y = some (TVv (.int kk m))) (hm : m = (k : Int)) (hk : k < n) : RO E ⟨d, .indexAddr t x y, ty, pos, af, g⟩ st (.v (.one (.pel e (off + k * sz)))) := by
  refine ⟨(fun _ h => nomatch h), fun V a w hr => ?_⟩
  subst hm
  obtain ⟨b, o, f, hv, hf⟩ := hr.ev hx
  exact ⟨_, by simp only [execOp, hv, val_of (hr.ev hy), Sem.run_bind, run_indexArr ht hk]; rfl, b, o, f, by rw [Nat.add_assoc], hf⟩
theorem RO.indexOsl {t e sz k i off len cap : Nat} {x y : Operand} {kk : IntKind} {m : Int} (ht : tySlice E.P t = some (e, sz)) (hx : ev st.tm x = some (.v (.one (.osl i off len cap)))) (hy : ev st.tm y = some (TVv (.int kk m))) (hm : m = (k : Int)) (hk : k < len) : RO E ⟨d, .indexAddr t x y, ty, pos, af, g⟩ st (.v (.one (.ptr i (off + k * sz)))) := by
  refine ⟨(fun _ h => nomatch h), fun V a w hr => ?_⟩
  subst hm
  have h1 := hr.ev hx
  obtain ⟨hu, i0, hi0, hsz⟩ := tySlice_spec ht
  have h2 : (k : Int) < (len : Int) := by omega
  refine ⟨.pointer (some ⟨V.ι i, off + k * sz, none⟩), ?_, h1.1, rfl⟩
  simp only [execOp, h1.2, val_of (hr.ev hy), Instr.indexAt, asIntOf, Sem.run_bind, Sem.run_pure, Result.andThen_ok, run_underlying hu, sizeOf, typeInfo]
  simp [hi0, hsz, addr_add, h2, Sem.run, program]

theorem RO.lenOsl {t e sz i off len cap : Nat} {x : Operand} (ht : tySlice E.P t = some (e, sz)) (hx : ev st.tm x = some (.v (.one (.osl i off len cap)))) : RO E ⟨d, .call { callee := .builtin .len, args := #[x], argTypes := #[t] }, ty, pos, af, g⟩ st (TI len) := by
  refine ⟨(fun _ h => nomatch h), fun V a w hr => ⟨.int .i64 len, ?_, rel_of rfl⟩⟩
  simp [execOp, resolve, invoke, builtin, Builtin.len_, (hr.ev hx).2, run_underlying (tySlice_spec ht).1, goInt]

theorem isStrTy_spec {P : Program} {t : TypeId} (h : isStrTy P t = true) : P.underlying t = some .string := by
  unfold isStrTy at h
  split at h
  · assumption
  · cases h

theorem RO.lenStr {t : TypeId} {x : Operand} {s : ByteArray} (ht : isStrTy E.P t = true) (hx : ev st.tm x = some (TVv (.string s))) : RO E ⟨d, .call { callee := .builtin .len, args := #[x], argTypes := #[t] }, ty, pos, af, g⟩ st (TI s.size) := by
  refine ⟨(fun _ h => nomatch h), fun V a w hr => ⟨.int .i64 s.size, ?_, rel_of rfl⟩⟩
  simp [execOp, resolve, invoke, builtin, Builtin.len_, val_of (hr.ev hx), run_underlying (isStrTy_spec ht), goInt]

theorem RO.indexStr {t : TypeId} {x y : Operand} {s : ByteArray} {kk : IntKind} {m : Int} {k : Nat} {b : UInt8} (ht : isStrTy E.P t = true) (hx : ev st.tm x = some (TVv (.string s))) (hy : ev st.tm y = some (TVv (.int kk m))) (hm : m = (k : Int)) (hb : s[k]? = some b) : RO E ⟨d, .index t x y, ty, pos, af, g⟩ st (TVv (.int .u8 b.toNat)) := by
  refine ⟨(fun _ h => nomatch h), fun V a w hr => ⟨.int .u8 b.toNat, ?_, rel_of rfl⟩⟩
  subst hm
  simp [execOp, Instr.index, asIntOf, val_of (hr.ev hx), val_of (hr.ev hy), run_underlying (isStrTy_spec ht), hb]

/-- the bounds of a slice expression -/
def hiOf (st : St) (len : Nat) : Option Operand → Option Nat
  | none => some len
  | some o => match ev st.tm o with
    | some (.v (.one (.d (.v (.int _ (.ofNat h)))))) => cond (Nat.ble h len) (some h) none
    | _ => none
def loOf (st : St) (h : Nat) : Option Operand → Option Nat
  | none => some 0
  | some o => match ev st.tm o with
    | some (.v (.one (.d (.v (.int _ (.ofNat l)))))) => cond (Nat.ble l h) (some l) none
    | _ => none
def boundsOf (st : St) (len : Nat) (lo hi mx : Option Operand) : Option (Nat × Nat) :=
  match mx with
  | some _ => none
  | none => match hiOf st len hi with
    | none => none
    | some h => match loOf st h lo with
      | none => none
      | some l => some (l, h)

theorem bound_run {V : Vu} {a : Act} {w : World} (hr : Rel E V st a w) {o : Operand} {k : IntKind} {l y : Nat} (hv : ev st.tm o = some (TVv (.int k (.ofNat l)))) (hl : l ≤ y) (c : BoundsCode) : (Instr.sliceBound (a.eval o) y c).run E.P w = .ok l w := by
  have e1 := val_of (hr.ev hv)
  have h3 : (Int.ofNat l) ≤ (y : Int) := by simpa using hl
  have h4 : (0 : Int) ≤ Int.ofNat l := Int.natCast_nonneg l
  simp only [e1, Instr.sliceBound, asIntOf, Sem.run_bind, Sem.run_pure, Result.andThen_ok, h3, h4, and_self, if_true]
  simp

theorem loOf_run {V : Vu} {a : Act} {w : World} (hr : Rel E V st a w) {h l : Nat} {lo : Option Operand} (hb : loOf st h lo = some l) : l ≤ h ∧ ∀ c, ((match lo.map a.eval with
          | some v => Instr.sliceBound v h c
          | none => pure 0 : Sem Nat)).run E.P w = .ok l w := by
  cases lo with
  | none => cases hb; exact ⟨Nat.zero_le _, fun c => rfl⟩
  | some o =>
    simp only [loOf] at hb
    split at hb
    · rename_i k l' hv
      cases hbl : Nat.ble l' h with
      | false => rw [hbl] at hb; cases hb
      | true =>
        rw [hbl] at hb; cases hb
        exact ⟨Nat.le_of_ble_eq_true hbl, fun c => bound_run hr hv (Nat.le_of_ble_eq_true hbl) c⟩
    · cases hb

theorem bounds_run {V : Vu} {a : Act} {w : World} (hr : Rel E V st a w) {len cap : Nat} (hc : len ≤ cap) {lo hi mx : Option Operand} {l h : Nat} (hb : boundsOf st len lo hi mx = some (l, h)) (isS : Bool) : mx = none ∧ l ≤ h ∧ h ≤ len ∧ (Instr.sliceBounds isS len cap (lo.map a.eval) (hi.map a.eval) (mx.map a.eval)).run E.P w = .ok (l, h, cap) w := by
  unfold boundsOf at hb
  split at hb
  · cases hb
  · split at hb
    · cases hb
    · rename_i h' hh
      split at hb
      · cases hb
      · rename_i l' hl
        cases hb
        refine ⟨rfl, ?_⟩
        obtain ⟨h1, h2⟩ := loOf_run hr hl
        cases hi with
        | none =>
          cases hh
          refine ⟨h1, Nat.le_refl _, ?_⟩
          simp only [Instr.sliceBounds, Option.map_none, Sem.run_bind, Sem.run_pure, Result.andThen_ok, h2, Option.isSome_none, Bool.false_eq_true, if_false]
          have h3 := h2 .sliceB
          cases lo with
          | none => simp only [Option.map_none] at h3 ⊢; cases hl; simp
          | some o' => simp only [Option.map_some] at h3 ⊢; simp only [Sem.run_bind, h3, Result.andThen_ok]; rfl
        | some o =>
          simp only [hiOf] at hh
          split at hh
          · rename_i k h2' hev
            cases hbl : Nat.ble h2' len with
            | false => rw [hbl] at hh; cases hh
            | true =>
              rw [hbl] at hh; cases hh
              have hle := Nat.le_of_ble_eq_true hbl
              refine ⟨h1, hle, ?_⟩
              have e2 := fun c => bound_run hr hev (Nat.le_trans hle hc) c
              simp only [Instr.sliceBounds, Option.map_none, Option.map_some, Sem.run_bind, Sem.run_pure, Result.andThen_ok, e2, h2, Option.isSome_none, Bool.false_eq_true, if_false]
              have h3 := h2 .sliceB
              cases lo with
              | none => simp only [Option.map_none] at h3 ⊢; cases hl; simp
              | some o' => simp only [Option.map_some] at h3 ⊢; simp only [Sem.run_bind, h3, Result.andThen_ok]; rfl
          · cases hh

theorem Reads.slice {S : Nat → Nat → Prop} {w : World} {sz : Nat} {es : List (List C)} {a : Option Addr} {len cap l h : Nat} (hr : Reads S w (.sl sz es) (.slice a len cap)) (hl : l ≤ h) (hh : h ≤ es.length) : len = es.length ∧ len ≤ cap ∧ Reads S w (.sl sz ((es.drop l).take (h - l))) (.slice (if cap = l then a else a.map (·.add (l * sz))) (h - l) (cap - l)) := by
  cases hr with
  | sl _ _ _ _ b off f hcap ha hle hc hs hr =>
    refine ⟨rfl, hcap, ?_⟩
    have hlen : ((es.drop l).take (h - l)).length = h - l := by simp; omega
    have hget : ∀ (i : Nat) (e : List C), ((es.drop l).take (h - l))[i]? = some e → es[l + i]? = some e := fun i e hi => by
      rw [List.getElem?_take] at hi
      split at hi
      · rw [List.getElem?_drop] at hi; exact hi
      · cases hi
    have e0 : (Value.slice (if cap = l then a else a.map (·.add (l * sz))) (h - l) (cap - l)) = .slice (if cap = l then a else a.map (·.add (l * sz))) ((es.drop l).take (h - l)).length (cap - l) := by rw [hlen]
    rw [e0]
    refine .sl sz _ _ (cap - l) b (off + l * sz) (fun i j => f (l + i) j) (by rw [hlen]; omega) (fun hne => ?_) (fun i e hi => hle (l + i) e (hget i e hi)) (fun i e j c hi hj => ?_) (fun i e j c hi hj => ?_) (fun i e j c hi hj => hr (l + i) e j c (hget i e hi) hj)
    · have hpos : 0 < h - l := by rw [← hlen]; exact List.length_pos_iff.2 hne
      have : a = some ⟨b, off, none⟩ := ha (fun e => by subst e; simp at hh; omega)
      rw [if_neg (by omega), this]
      simp [addr_add]
    · have := hc (l + i) e j c (hget i e hi) hj
      rw [Nat.add_mul] at this
      rw [show off + l * sz + i * sz + j = off + (l * sz + i * sz) + j by omega]; exact this
    · have := hs (l + i) e j c (hget i e hi) hj
      rw [Nat.add_mul] at this
      rw [show off + l * sz + i * sz + j = off + (l * sz + i * sz) + j by omega]; exact this

theorem RO.sliceD {t e sz : Nat} {x : Operand} {y : CA} {es : List (List C)} {lo hi mx : Option Operand} {l h : Nat} (ht : tySlice E.P t = some (e, sz)) (hx : ev st.tm x = some (.v (.one y))) (hs : SlOf y sz es) (hb : boundsOf st es.length lo hi mx = some (l, h)) : RO E ⟨d, .slice t x lo hi mx, ty, pos, af, g⟩ st (.v (.one (.d (.sl sz ((es.drop l).take (h - l)))))) := by
  refine ⟨(fun _ h => nomatch h), fun V a w hr => ?_⟩
  have h1 := hs.reads (hr.ev hx)
  obtain ⟨hu, i0, hi0, hsz⟩ := tySlice_spec ht
  obtain ⟨ad, cap, hv⟩ : ∃ ad cap, a.eval x = .slice ad es.length cap := by
    generalize a.eval x = v at h1
    cases h1 with
    | sl _ _ a cap b off f hcap => exact ⟨a, cap, rfl⟩
  rw [hv] at h1
  obtain ⟨hl0, hh0⟩ : l ≤ h ∧ h ≤ es.length := by
    obtain ⟨-, h2, h3, -⟩ := bounds_run hr (Nat.le_refl _) hb true
    exact ⟨h2, h3⟩
  obtain ⟨-, hcap, hrd⟩ := h1.slice hl0 hh0
  obtain ⟨-, -, -, hrun⟩ := bounds_run hr hcap hb true
  refine ⟨_, ?_, hrd⟩
  simp only [execOp, Instr.sliceAt, Instr.slice, hv, Sem.run_bind, run_underlying hu, Result.andThen_ok, hrun, sizeOf, typeInfo]
  simp [Sem.run, program, hi0, hsz]

theorem RO.sliceStr {t : Nat} {x : Operand} {s : ByteArray} {lo hi mx : Option Operand} {l h : Nat} (ht : isStrTy E.P t = true) (hx : ev st.tm x = some (TVv (.string s))) (hb : boundsOf st s.size lo hi mx = some (l, h)) : RO E ⟨d, .slice t x lo hi mx, ty, pos, af, g⟩ st (TVv (.string (s.extract l h))) := by
  refine ⟨(fun _ h => nomatch h), fun V a w hr => ⟨.string (s.extract l h), ?_, rel_of rfl⟩⟩
  obtain ⟨hm, -, -, hrun⟩ := bounds_run hr (Nat.le_refl _) hb false
  subst hm
  simp only [execOp, Instr.sliceAt, Instr.slice, val_of (hr.ev hx), Sem.run_bind, run_underlying (isStrTy_spec ht), Result.andThen_ok, Option.map_none, Option.isSome_none, Bool.false_eq_true, if_false, Sem.run_pure]
  simp only [Option.map_none] at hrun
  simp only [hrun, Result.andThen_ok]

theorem RO.sliceOsl {t e sz i off len cap : Nat} {x : Operand} {lo hi mx : Option Operand} {l h : Nat} (ht : tySlice E.P t = some (e, sz)) (hx : ev st.tm x = some (.v (.one (.osl i off len cap)))) (hlc : len ≤ cap) (hb : boundsOf st len lo hi mx = some (l, h)) : RO E ⟨d, .slice t x lo hi mx, ty, pos, af, g⟩ st (.v (.one (.osl i (if cap = l then off else off + l * sz) (h - l) (cap - l)))) := by
  refine ⟨(fun _ h => nomatch h), fun V a w hr => ?_⟩
  obtain ⟨hu, i0, hi0, hsz⟩ := tySlice_spec ht
  obtain ⟨hi1, hv⟩ := hr.ev hx
  obtain ⟨-, -, -, hrun⟩ := bounds_run hr hlc hb true
  refine ⟨.slice (some ⟨V.ι i, if cap = l then off else off + l * sz, none⟩) (h - l) (cap - l), ?_, hi1, rfl⟩
  simp only [execOp, Instr.sliceAt, Instr.slice, hv, Sem.run_bind, run_underlying hu, Result.andThen_ok, hrun, sizeOf, typeInfo]
  by_cases hcl : cap = l <;> simp [Sem.run, program, hi0, hsz, hcl, addr_add]
end
end Go.Proofs.YtcapifnaceegmaaGreatDoor
