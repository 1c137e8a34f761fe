/- Further readers: bools, pairs of numbers; numbers divided; other kinds of numbers. -/
import Derived.Test.YtcapifnaceegmaaGreatDoorAny
import Derived.Laws.StructEq
namespace Go.Proofs.YtcapifnaceegmaaGreatDoor
open Go.RowKit
set_option linter.unusedSimpArgs false
set_option linter.unusedVariables false
set_option linter.unusedSectionVars false

/-! ### Short words -/
theorem lb {a b : Nat} (h : Nat.ble a b = true) : a ≤ b := Nat.le_of_ble_eq_true h

/-- what a test says -/
class Prs (p : Prop) (q : outParam Prop) : Prop where
  prs : p → q
theorem prs {p q : Prop} [h : Prs p q] : p → q := h.prs
instance (priority := low) {p : Prop} : Prs p p := ⟨id⟩
instance {p q : Prop} [Decidable p] [h : Prs p q] : Prs (decide p = true) q := ⟨fun e => h.prs (of_decide_eq_true e)⟩
instance {p q : Prop} [Decidable p] [h : Prs (¬ p) q] : Prs (decide p = false) q := ⟨fun e => h.prs (of_decide_eq_false e)⟩
instance {b : Bool} {q : Prop} [h : Prs (b = false) q] : Prs ((!b) = true) q := ⟨fun e => h.prs (by cases b <;> simp_all)⟩
instance {b : Bool} {q : Prop} [h : Prs (b = true) q] : Prs ((!b) = false) q := ⟨fun e => h.prs (by cases b <;> simp_all)⟩
instance {α : Type} [BEq α] [LawfulBEq α] {a b : α} : Prs ((a == b) = true) (a = b) := ⟨fun e => eq_of_beq e⟩
instance {α : Type} [BEq α] [LawfulBEq α] {a b : α} : Prs ((a == b) = false) (¬ a = b) := ⟨fun e h => by subst h; simp at e⟩
instance {α : Type} [BEq α] [LawfulBEq α] {a b : α} : Prs ((a != b) = true) (¬ a = b) := ⟨fun e h => by subst h; simp at e⟩
instance {α : Type} [BEq α] [LawfulBEq α] {a b : α} : Prs ((a != b) = false) (a = b) := ⟨fun e => by simpa using e⟩
instance {a b : Int} : Prs (¬ a < b) (b ≤ a) := ⟨Int.not_lt.1⟩
instance {a b : Int} : Prs (¬ a ≤ b) (b < a) := ⟨Int.not_le.1⟩

section
variable {E : Env} {ro : Option Nat} {n : Nat} {ops : Array Oper} {Q : Exit → Act → World → Prop} {rest : List Oper} {st : St} {o : Oper} {x : TV} {ty : TypeId} {pos : String} {af : Array Edge} {t : Nat}
theorem oR (hg : o.guard = none) (hdst : o.dst = some t) (hd : Nat.ble (t + 1) st.nt = true) (h : RO E o st x) (k : XL E ro n ops Q rest (ST.put st t x)) : XL E ro n ops Q (o :: rest) st := XL.op hg (XO.of_ro hdst (lb hd) h) k
theorem nR {j d : Nat} {b : Bool} (hg : o.guard = some (j, b)) (hj : (ops[j]?).bind (·.dst) = some d) (hb : lk st.tm d = some (TB b)) (hdst : o.dst = some t) (hd : Nat.ble (t + 1) st.nt = true) (h : RO E o st x) (k : XL E ro n ops Q rest (ST.put st t x)) : XL E ro n ops Q (o :: rest) st := XL.on hg hj hb (XO.of_ro hdst (lb hd) h) k
theorem oM {y : Operand} (hd : Nat.ble (t + 1) st.nt = true) (h : ev st.tm y = some x) (k : XL E ro n ops Q rest (ST.put st t x)) : XL E ro n ops Q (⟨some t, .move y, ty, pos, af, none⟩ :: rest) st := oR rfl rfl hd (RO.move h) k
theorem oA {y : Operand} (hd : Nat.ble (t + 1) st.nt = true) (h : ev st.tm y = some x) (k : XL E ro n ops Q rest (ST.put st t x)) : XL E ro n ops Q (⟨some t, .assign y, ty, pos, af, none⟩ :: rest) st := oR rfl rfl hd (RO.assign h) k
end

def isBoolTy (P : Program) (t : TypeId) : Bool := match P.underlying t with
  | some .bool => true
  | _ => false
theorem isBoolTy_spec {P : Program} {t : TypeId} (h : isBoolTy P t = true) : P.underlying t = some .bool := by
  unfold isBoolTy at h
  split at h
  · assumption
  · cases h

/-- a struct of two numbers -/
def isPairTy (P : Program) (t : TypeId) : Bool := match P.underlying t with
  | some (.struct fs) => match fs.toList with
    | [f0, f1] => f0.name != "_" && f1.name != "_" && f0.offset == 0 && f1.offset == 1 && (match P.underlying f0.type, P.underlying f1.type with
      | some (.int .i64), some (.int .i64) => true
      | _, _ => false) && !(P.stoodInHeld t) && !(P.eqGuardType P.depth t)
    | _ => false
  | _ => false

section
variable {E : Env} {st : St} {d : Option Tmp} {ty : TypeId} {pos : String} {af : Array Edge} {g : Option (Nat × Bool)}

theorem RO.eqBool {t t' : TypeId} {x y : Operand} {a b : Bool} (ht : isBoolTy E.P t = true) (hx : ev st.tm x = some (TB a)) (hy : ev st.tm y = some (TB b)) : RO E ⟨d, .binOp .eql t x y t', ty, pos, af, g⟩ st (TB (a == b)) := by
  refine ⟨(fun _ h => nomatch h), fun V ac w hr => ⟨.bool (a == b), ?_, rel_of rfl⟩⟩
  have e0 : ∀ dp, (Op.equalIn (dp + 1) t (.bool a) (.bool b)).run E.P w = .ok (a == b) w := fun dp => by
    simp [Op.equalIn, run_underlying (isBoolTy_spec ht)]
  have e : (Op.equalIn Op.maxDepth t (.bool a) (.bool b)).run E.P w = .ok (a == b) w := e0 9999
  simp only [execOp, val_of (hr.ev hx), val_of (hr.ev hy), eqGuard, binOp, Op.equal, Sem.run_bind]
  simp [e]

theorem pair_run {P : Program} {w : World} {t : TypeId} (ht : isPairTy P t = true) (a0 a1 b0 b1 : Int) : (Op.equalIn Op.maxDepth t (.agg #[.int .i64 a0, .int .i64 a1]) (.agg #[.int .i64 b0, .int .i64 b1])).run P w = .ok ((a0 == b0) && (a1 == b1)) w ∧ P.eqGuardType P.depth t = false := by
  unfold isPairTy at ht
  split at ht
  · rename_i fs hu
    split at ht
    case h_2 => cases ht
    rename_i f0 f1 hfs
    simp only [Bool.and_eq_true, bne_iff_ne, ne_eq, beq_iff_eq, Bool.not_eq_true'] at ht
    obtain ⟨⟨⟨⟨⟨⟨h1, h2⟩, h3⟩, h4⟩, h5⟩, h6⟩, h7⟩ := ht
    refine ⟨?_, h7⟩
    split at h5
    · rename_i hu0 hu1
      have hf : P.fieldsOf t = fs := by simp [Program.fieldsOf, hu]
      have hrun := run_equalIn_struct w 9999 t #[.int .i64 a0, .int .i64 a1] #[.int .i64 b0, .int .i64 b1] (by rw [hf]; exact hu) h6
      refine (show _ = _ from hrun).trans ?_
      rw [hf, hfs]
      have q0' : ∀ (dp : Nat) (a b : Int), (Op.equalIn (dp + 1) f0.type (.int .i64 a) (.int .i64 b)).run P w = .ok (a == b) w := fun dp a b => by
        simp [Op.equalIn, run_underlying hu0]
      have q1' : ∀ (dp : Nat) (a b : Int), (Op.equalIn (dp + 1) f1.type (.int .i64 a) (.int .i64 b)).run P w = .ok (a == b) w := fun dp a b => by
        simp [Op.equalIn, run_underlying hu1]
      have q0 : ∀ (a b : Int), (Op.equalIn 9999 f0.type (.int .i64 a) (.int .i64 b)).run P w = .ok (a == b) w := q0' 9998
      have q1 : ∀ (a b : Int), (Op.equalIn 9999 f1.type (.int .i64 a) (.int .i64 b)).run P w = .ok (a == b) w := q1' 9998
      have i0 : (isAgg f0.type).run P w = .ok false w := by simp [isAgg, run_underlying hu0]
      have i1 : (isAgg f1.type).run P w = .ok false w := by simp [isAgg, run_underlying hu1]
      simp only [Op.eqFields, h1, h2, if_true, ne_eq, not_false_eq_true, part, h3, h4, Sem.run_bind, i0, i1, Result.andThen_ok, Bool.false_eq_true, if_false]
      by_cases e0 : a0 = b0 <;> by_cases e1 : a1 = b1 <;> simp [q0, q1, i0, i1, e0, e1]
    · cases h5
  · cases ht

theorem RO.neqPair {t t' : TypeId} {x y : Operand} {a0 a1 b0 b1 : Int} (ht : isPairTy E.P t = true) (hx : ev st.tm x = some (.v (.agg [.d (.v (.int .i64 a0)), .d (.v (.int .i64 a1))]))) (hy : ev st.tm y = some (.v (.agg [.d (.v (.int .i64 b0)), .d (.v (.int .i64 b1))]))) : RO E ⟨d, .binOp .neq t x y t', ty, pos, af, g⟩ st (TB (!((a0 == b0) && (a1 == b1)))) := by
  refine ⟨(fun _ h => nomatch h), fun V ac w hr => ⟨.bool (!((a0 == b0) && (a1 == b1))), ?_, rel_of rfl⟩⟩
  have ex : ∀ (o : Operand) (p q : Int), ev st.tm o = some (.v (.agg [.d (.v (.int .i64 p)), .d (.v (.int .i64 q))])) → ac.eval o = .agg #[.int .i64 p, .int .i64 q] := fun o p q h => by
    obtain ⟨vs, h1, h2, h3⟩ := hr.ev h
    obtain ⟨u0, a1, a2⟩ := h3 0 _ rfl
    obtain ⟨u1, b1, b2⟩ := h3 1 _ rfl
    cases a2; cases b2
    rw [h1]
    congr 1
    apply Array.ext
    · simpa using h2
    · intro i hi1 hi2
      simp at hi2
      match i, hi2 with
      | 0, _ => rw [Array.getElem?_eq_getElem (by omega)] at a1; exact Option.some.inj a1
      | 1, _ => rw [Array.getElem?_eq_getElem (by omega)] at b1; exact Option.some.inj b1
  obtain ⟨e, hgt⟩ := pair_run (w := w) ht a0 a1 b0 b1
  simp only [execOp, ex x _ _ hx, ex y _ _ hy, eqGuard, binOp, Op.equal, Sem.run_bind]
  simp [e, hgt]
end
end Go.Proofs.YtcapifnaceegmaaGreatDoor
