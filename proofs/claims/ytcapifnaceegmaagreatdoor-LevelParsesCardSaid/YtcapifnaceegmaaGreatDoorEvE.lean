/- The evaluator: code, calls; it is right. -/
import Derived.Test.YtcapifnaceegmaaGreatDoorEvD
import Derived.LoopNIn
namespace Go.Proofs.YtcapifnaceegmaaGreatDoor
open Go.RowKit
set_option linter.unusedSimpArgs false
set_option linter.unusedVariables false
set_option linter.unusedSectionVars false

/-! ### Equality that can be reckoned -/
def vEq : Value → Value → Bool
  | .int k a, .int k' b => decide (k = k') && decide (a = b)
  | .bool a, .bool b => a == b
  | .string a, .string b => a == b
  | .slice none 0 0, .slice none 0 0 => true
  | .pointer none, .pointer none => true
  | .map none, .map none => true
  | .nilFunc, .nilFunc => true
  | .nilIface, .nilIface => true
  | _, _ => false

theorem vEq_eq {x y : Value} (h : vEq x y = true) : x = y := by
  unfold vEq at h
  split at h
  · simp at h; rw [h.1, h.2]
  · simp at h; rw [h]
  · rw [(Go.MapKept.bytes_beq _ _).1 h]
  all_goals first | rfl | cases h

def eqL {α : Type} (p : α → α → Bool) : List α → List α → Bool
  | [], [] => true
  | x :: xs, y :: ys => p x y && eqL p xs ys
  | _, _ => false

theorem eqL_eq {α : Type} {p : α → α → Bool} (hp : ∀ x y, p x y = true → x = y) : ∀ {xs ys : List α}, eqL p xs ys = true → xs = ys
  | [], [], _ => rfl
  | x :: xs, y :: ys, h => by
    simp only [eqL, Bool.and_eq_true] at h
    rw [hp x y h.1, eqL_eq hp h.2]
  | [], _ :: _, h => by cases h
  | _ :: _, [], h => by cases h

def cEq : Nat → C → C → Bool
  | 0, _, _ => false
  | _ + 1, .v x, .v y => vEq x y
  | n + 1, .sl a es, .sl b fs => Nat.beq a b && eqL (eqL (cEq n)) es fs
  | _ + 1, _, _ => false

theorem cEq_eq : ∀ {n : Nat} {x y : C}, cEq n x y = true → x = y
  | 0, _, _, h => by cases h
  | n + 1, .v x, .v y, h => by rw [vEq_eq h]
  | n + 1, .sl a es, .sl b fs, h => by
    simp only [cEq, Bool.and_eq_true] at h
    rw [Nat.eq_of_beq_eq_true h.1, eqL_eq (fun x y h => eqL_eq (fun x y h => cEq_eq h) h) h.2]
  | n + 1, .v _, .sl _ _, h => by cases h
  | n + 1, .sl _ _, .v _, h => by cases h

def caEq : CA → CA → Bool
  | .d c, .d c' => cEq 100 c c'
  | .ptr i o, .ptr i' o' => Nat.beq i i' && Nat.beq o o'
  | .pel e o, .pel e' o' => eqL (cEq 100) e e' && Nat.beq o o'
  | .fn f l, .fn f' l' => Nat.beq f f' && eqL (fun p q => Nat.beq p.1 q.1 && Nat.beq p.2 q.2) l l'
  | .app i sz es, .app i' sz' es' => Nat.beq i i' && Nat.beq sz sz' && eqL (eqL (cEq 100)) es es'
  | .osl i a b c, .osl i' a' b' c' => Nat.beq i i' && Nat.beq a a' && Nat.beq b b' && Nat.beq c c'
  | .mp i, .mp j => Nat.beq i j
  | .yld i, .yld j => Nat.beq i j
  | _, _ => false

theorem caEq_eq {x y : CA} (h : caEq x y = true) : x = y := by
  have hn : ∀ {a b : Nat}, Nat.beq a b = true → a = b := Nat.eq_of_beq_eq_true
  unfold caEq at h
  split at h
  · rw [cEq_eq h]
  · simp only [Bool.and_eq_true] at h; rw [hn h.1, hn h.2]
  · simp only [Bool.and_eq_true] at h; rw [eqL_eq (fun x y h => cEq_eq h) h.1, hn h.2]
  · simp only [Bool.and_eq_true] at h
    rw [hn h.1, eqL_eq (fun (x y : Nat × Nat) hxy => by simp only [Bool.and_eq_true] at hxy; exact Prod.ext (hn hxy.1) (hn hxy.2)) h.2]
  · simp only [Bool.and_eq_true] at h; rw [hn h.1.1, hn h.1.2, eqL_eq (fun x y h => eqL_eq (fun x y h => cEq_eq h) h) h.2]
  · simp only [Bool.and_eq_true] at h; rw [hn h.1.1.1, hn h.1.1.2, hn h.1.2, hn h.2]
  · rw [hn h]
  · rw [hn h]
  · cases h

def avEq : AV → AV → Bool
  | .one x, .one y => caEq x y
  | .agg xs, .agg ys => eqL caEq xs ys
  | _, _ => false
theorem avEq_eq {x y : AV} (h : avEq x y = true) : x = y := by
  unfold avEq at h
  split at h
  · rw [caEq_eq h]
  · rw [eqL_eq (fun x y h => caEq_eq h) h]
  · cases h
def tvEq : TV → TV → Bool
  | .v x, .v y => avEq x y
  | .tup xs, .tup ys => eqL avEq xs ys
  | _, _ => false
theorem tvEq_eq {x y : TV} (h : tvEq x y = true) : x = y := by
  unfold tvEq at h
  split at h
  · rw [avEq_eq h]
  · rw [eqL_eq (fun x y h => avEq_eq h) h]
  · cases h

/-! ### Names below a bound -/
def CA.belowB (m : Nat) : CA → Bool
  | .ptr i _ => Nat.blt i m
  | .fn _ caps => caps.all fun p => Nat.blt p.1 m
  | .app i _ _ => Nat.blt i m
  | .osl i _ _ _ => Nat.blt i m
  | .mp i => Nat.blt i m
  | .yld i => Nat.blt i m
  | _ => true
theorem CA.belowB_ok {m : Nat} {x : CA} (h : x.belowB m = true) : x.below m := by
  cases x <;> simp only [CA.belowB] at h <;> first | trivial | exact blt_t h | skip
  intro p hp
  exact blt_t (List.all_eq_true.1 h p hp)
def AV.belowB (m : Nat) : AV → Bool
  | .one x => x.belowB m
  | .agg xs => xs.all (CA.belowB m)
theorem AV.belowB_ok {m : Nat} {x : AV} (h : x.belowB m = true) : x.below m := by
  cases x with
  | one x => exact CA.belowB_ok h
  | agg xs => intro y hy; exact CA.belowB_ok (List.all_eq_true.1 h y hy)
def TV.belowB (m : Nat) : TV → Bool
  | .v x => x.belowB m
  | .tup xs => xs.all (AV.belowB m)
  | .unk => true
theorem TV.belowB_ok {m : Nat} {x : TV} (h : x.belowB m = true) : x.below m := by
  cases x with
  | v x => exact AV.belowB_ok h
  | tup xs => intro y hy; exact AV.belowB_ok (List.all_eq_true.1 h y hy)
  | unk => trivial
def HB.belowB (m : Nat) : HB → Bool
  | .cells _ xs => xs.all (CA.belowB m)
  | .obj _ => true
  | .loop _ _ tm _ _ _ _ D => Nat.blt D m && tm.all fun p => p.2.belowB m
  | .mp es _ => es.all fun e => e.2.1.belowB m
theorem lk_mem {α : Type} : ∀ {l : List (Nat × α)} {i : Nat} {x : α}, lk l i = some x → (i, x) ∈ l
  | [], i, x, h => by cases h
  | (k, v) :: l, i, x, h => by
    rw [lk_cons] at h
    split at h
    · rename_i e; subst e; cases h; exact List.mem_cons_self
    · exact List.mem_cons_of_mem _ (lk_mem h)
theorem HB.belowB_ok {m : Nat} {x : HB} (h : x.belowB m = true) : x.below m := by
  cases x with
  | cells T xs => intro y hy; exact CA.belowB_ok (List.all_eq_true.1 h y hy)
  | obj o => trivial
  | loop s p tm nt ps as bd D =>
    simp only [HB.belowB, Bool.and_eq_true] at h
    exact ⟨blt_t h.1, fun t x hx => TV.belowB_ok (List.all_eq_true.1 h.2 _ (lk_mem hx))⟩
  | mp es c => intro e he; exact AV.belowB_ok (List.all_eq_true.1 h e he)

def keepLt {α : Type} (n : Nat) (l : List (Nat × α)) : List (Nat × α) := l.filter fun p => Nat.blt p.1 n
theorem lk_keepLt {α : Type} {n : Nat} : ∀ {l : List (Nat × α)} {i : Nat} {x : α}, lk (keepLt n l) i = some x → i < n ∧ lk l i = some x
  | [], i, x, h => by cases h
  | (k, v) :: l, i, x, h => by
    simp only [keepLt, List.filter_cons] at h
    split at h
    · rename_i hk
      rw [lk_cons] at h ⊢
      split at h
      · rename_i e; subst e; cases h; exact ⟨blt_t hk, by rw [if_pos rfl]⟩
      · rename_i e
        obtain ⟨h1, h2⟩ := lk_keepLt (l := l) h
        exact ⟨h1, by rw [if_neg e]; exact h2⟩
    · rename_i hk
      obtain ⟨h1, h2⟩ := lk_keepLt (l := l) h
      refine ⟨h1, ?_⟩
      rw [lk_cons, if_neg (fun e => hk ?_)]
      · exact h2
      · subst e; exact Nat.ble_eq_true_of_le h1

/-- What the call has made and nobody can name is given up. -/
theorem CallM.trim {P : Program} {f : FuncId} {args : List AV} {m : Mem} {res : TV} {m1 : Mem} (h : CallM P f args m res m1) (hle : m.nx ≤ m1.nx) (hr : res.belowB m.nx = true) (hb : (keepLt m.nx m1.hp).all (fun p => p.2.belowB m.nx) = true) : CallM P f args m res ⟨keepLt m.nx m1.hp, keepLt m.nx m1.tk, m.nx⟩ := by
  refine ⟨h.1, fun E V w vs hP H hn hargs => ?_⟩
  have := h.2 E V w vs hP H hn hargs
  refine Calls.mono this ?_
  rintro e w' ⟨v, V1, rfl, H1, hn1, L1, hres⟩
  refine ⟨v, { V1 with nx := m.nx }, rfl, ?_, rfl, ?_, hres.trim (TV.belowB_ok hr)⟩
  · have hV0 : E.V0.nx ≤ m.nx := by rw [← hn]; exact H.le0.nx
    refine ⟨H1.ext, ⟨hV0, H1.le0.ι, H1.le0.cu, H1.le0.κ, H1.le0.S, H1.le0.cell⟩, H1.sz, H1.sub, ?_, fun i j A B hi hj => H1.inj i j A B (lk_keepLt hi).2 (lk_keepLt hj).2, fun i B hi => H1.new i B (lk_keepLt hi).2, ?_, fun i j T U g hi hj => H1.tki i j T U g (lk_keepLt hi).2 (lk_keepLt hj).2⟩
    · intro i B hi
      obtain ⟨h1, h2⟩ := lk_keepLt hi
      obtain ⟨-, o, ho, hB⟩ := H1.own i B h2
      refine ⟨h1, o, ho, ?_⟩
      have hbel := HB.belowB_ok (List.all_eq_true.1 hb (i, B) (lk_mem hi))
      cases B with
      | cells T xs => obtain ⟨vs, h3, h4⟩ := hB; exact ⟨vs, h3, h4.trim hbel⟩
      | obj o' => exact hB
      | loop s p tm nt ps assign body D => obtain ⟨-, fn, tmps, h3, h4, h5⟩ := hB; exact ⟨hbel.1, fn, tmps, h3, h4, fun t x hx => (h5 t x hx).trim (hbel.2 t x hx)⟩
      | mp es clock => obtain ⟨ents, h3, h4, h5⟩ := hB; exact ⟨ents, h3, h4, fun i k x b hi => let ⟨v, h6, h7⟩ := h5 i k x b hi; ⟨v, h6, h7.trim (hbel _ (List.mem_of_getElem? hi))⟩⟩
    · intro i T hi
      obtain ⟨h1, h2⟩ := lk_keepLt hi
      obtain ⟨-, hcu, xs, h3, h4⟩ := H1.tok i T h2
      exact ⟨h1, hcu, xs, h3, fun g hg => ⟨(h4 g hg).1, (h4 g hg).2.1, fun j B hj => (h4 g hg).2.2 j B (lk_keepLt hj).2⟩⟩
  · exact ⟨by rw [hn]; exact Nat.le_refl _, L1.ι, L1.cu, L1.κ, L1.S, L1.cell⟩

/-! ### Code, made ready -/
inductive ACode where
  | skip
  | sq (ops : Array Oper)
  | any (ops : Array Oper) (effs : List Nat) (plan : List (Nat × List Nat)) (ok : Bool)
  | seq (a b : ACode)
  | cond (c : Operand) (a b : ACode)
  | block (id : Nat) (b : ACode)
  | loop (b : ACode)
  | rf (g : Operand) (ps : Array Nat) (a b : Code)
  | exit (id : Nat)
  | scope (b : ACode)
  | ret
  | bad

def firstArg (d : Nat) (o : Oper) : Bool := match o.op with
  | .call c => match c.callee, c.args.toList with
    | .builtin .append, .tmp t :: _ => Nat.beq t d
    | _, _ => false
  | _ => false

def effD (keep : List Nat) (ops : Array Oper) (o : Oper) : Bool := match o.op with
  | .box .. => true
  | .alloc .. => true
  | .store .. => true
  | .makeSlice .. => true
  | .makeMap .. => true
  | .mapUpdate .. => true
  | .buildSlice _ len _ => Nat.beq len 0 || (match o.dst with
    | some d => ops.any (firstArg d)
    | none => false)
  | .call c => match c.callee with
    | .builtin .append => true
    | .builtin _ => false
    | .value (.func f) => keep.contains f
    | _ => true
  | _ => false

def effsOf (keep : List Nat) (ops : Array Oper) : List Nat := (List.range ops.size).filter fun i => match ops[i]? with
  | some o => effD keep ops o
  | none => false

def planOf (ops : Array Oper) (effs : List Nat) : List (Nat × List Nat) := (List.range ops.size).map fun i => (i, (List.range (effs.length + 1)).filter fun j => mayAt ops effs i j)

def comp (keep : List Nat) : Code → ACode
  | .skip => .skip
  | .region _ ops false => .sq ops
  | .region _ ops true => .any ops (effsOf keep ops) (planOf ops (effsOf keep ops)) (anyB ops (effsOf keep ops))
  | .seq a b => .seq (comp keep a) (comp keep b)
  | .cond c a b => .cond c (comp keep a) (comp keep b)
  | .block id b => .block id (comp keep b)
  | .loop b => .loop (comp keep b)
  | .rangeFunc g ps a b => .rf g ps a b
  | .exit id => .exit id
  | .scope b => .scope (comp keep b)
  | .label _ => .skip
  | .ret => .ret
  | _ => .bad

section
variable (T : Cfg) (r : Rec)

def aSeq (ops : Array Oper) : List Oper → St → Option St
  | [], st => some st
  | o :: os, st => match wantedA ops st.tm o with
    | some true => match aop T st r true o with
      | some (x, m) => cond (dstOK st o.dst) (aSeq ops os (nextSt st o.dst x (m.getD st.mem))) none
      | none => none
    | some false => aSeq ops os (nextSt st o.dst (.tup []) st.mem)
    | none => none

/-- The facts, in the text's order. -/
def aHint (ops : Array Oper) (st : St) (effs : List Nat) : List Nat → List (Nat × TV) → Mem → Option (List (Nat × TV))
  | [], fx, _ => some fx
  | i :: is, fx, m => match ops[i]? with
    | none => none
    | some o => match wantedA ops (depsSt ops st fx i m).tm o with
      | some true => match aop T (depsSt ops st fx i m) r (effs.contains i) o with
        | some (x, m') => aHint ops st effs is ((i, x) :: fx) (m'.getD m)
        | none => none
      | some false => aHint ops st effs is ((i, .tup []) :: fx) m
      | none => none

def aMems (ops : Array Oper) (st : St) (fx : List (Nat × TV)) : List Nat → Mem → Option (List Mem)
  | [], m => some [m]
  | i :: is, m => match ops[i]?, lk fx i with
    | some o, some x => match wantedA ops (depsSt ops st fx i m).tm o with
      | some true => match aop T (depsSt ops st fx i m) r true o with
        | some (x', m') => cond (tvEq x x' && dstOK st o.dst) (match aMems ops st fx is (m'.getD m) with
          | some ms => some (m :: ms)
          | none => none) none
        | none => none
      | _ => none
    | _, _ => none

def aChk (ops : Array Oper) (st : St) (fx : List (Nat × TV)) (i : Nat) (m : Mem) : Bool :=
  match ops[i]?, lk fx i with
  | some o, some x => dstOK st o.dst && (match wantedA ops (depsSt ops st fx i m).tm o with
    | some true => match aop T (depsSt ops st fx i m) r false o with
      | some (x', none) => tvEq x x'
      | _ => false
    | some false => tvEq x (.tup [])
    | none => false)
  | _, _ => false

def aAny (ops : Array Oper) (effs : List Nat) (plan : List (Nat × List Nat)) (st : St) : Option St :=
  match aHint T r ops st effs (List.range ops.size) [] st.mem with
  | none => none
  | some fx => match aMems T r ops st fx effs st.mem with
    | none => none
    | some ms => match ms[effs.length]? with
      | none => none
      | some mE => cond (plan.all fun p => effs.contains p.1 || p.2.all fun j => match ms[j]? with
          | some m => aChk T r ops st fx p.1 m
          | none => false) (some (endSt ops st fx mE)) none

def aLoop (f : St → Option (Exit × St)) : Nat → St → Option (Exit × St)
  | 0, _ => none
  | n + 1, st => match f st with
    | some (.normal, st1) => aLoop f n st1
    | x => x

def notBusy : LoopState → Bool
  | .busy => false
  | _ => true

def exitOf : Option Code → Option Exit
  | none => some .normal
  | some .ret => some .ret
  | some (.exit id) => some (.exit id)
  | _ => none

def aRange (rn : Option Nat) (g : Operand) (ps : Array Nat) (assign body : Code) (st : St) : Option (Exit × St) :=
  match ev st.tm g with
  | some (.v (.one (.fn gf caps))) => match rn with
    | none => match r.call gf (.one (.yld (st.nx + 1)) :: ptrs caps) ⟨(st.nx + 1, .loop .ready none st.tm st.nt ps assign body st.nx) :: (st.nx, .obj (.deferred (some []))) :: st.hp, st.tk, st.nx + 2⟩ with
      | some (_, m2) => match lk m2.hp (st.nx + 1) with
        | some (.loop s jump _ _ _ _ _ _) => match notBusy s, exitOf jump with
          | true, some e => some (e, ⟨st.tm, dropK (st.nx + 1) m2.hp, m2.tk, m2.nx, st.nt, st.nx :: st.df⟩)
          | _, _ => none
        | _ => none
      | none => none
    | some L0 => match lk st.hp L0 with
      | some (.loop _ _ _ _ _ _ _ D0) => match r.call gf (.one (.yld st.nx) :: ptrs caps) ⟨(st.nx, .loop .ready none st.tm st.nt ps assign body D0) :: st.hp, st.tk, st.nx + 1⟩ with
        | some (_, m2) => match lk m2.hp st.nx with
          | some (.loop s jump _ _ _ _ _ _) => match notBusy s, exitOf jump with
            | true, some e => some (e, ⟨st.tm, dropK st.nx m2.hp, m2.tk, m2.nx, st.nt, st.df⟩)
            | _, _ => none
          | _ => none
        | none => none
      | _ => none
  | _ => none

def aexec (rn : Option Nat) : ACode → St → Option (Exit × St)
  | .skip, st => some (.normal, st)
  | .sq ops, st => match aSeq T r ops ops.toList st with
    | some st' => some (.normal, st')
    | none => none
  | .any ops effs plan ok, st => cond ok (match aAny T r ops effs plan st with
    | some st' => some (.normal, st')
    | none => none) none
  | .seq a b, st => match aexec rn a st with
    | some (.normal, st1) => aexec rn b st1
    | x => x
  | .cond c a b, st => match ev st.tm c with
    | some (.v (.one (.d (.v (.bool true))))) => aexec rn a st
    | some (.v (.one (.d (.v (.bool false))))) => aexec rn b st
    | _ => none
  | .block id b, st => match aexec rn b st with
    | some (.exit id', st1) => cond (Nat.beq id' id) (some (.normal, st1)) (some (.exit id', st1))
    | x => x
  | .loop b, st => aLoop (aexec rn b) T.rounds st
  | .rf g ps a b, st => aRange r rn g ps a b st
  | .exit id, st => some (.exit id, st)
  | .scope b, st => match aexec rn b st with
    | some (.goto _, _) => none
    | x => x
  | .ret, st => some (.ret, st)
  | .bad, _ => none

def aRes (st : St) : ResultVar → Option AV
  | .tmp t => match lk st.tm t with
    | some (.v x) => some x
    | _ => none
  | .cell ad t => match lk T.agg t, lk st.tm ad with
    | some (ag, n), some (.v (.one (.ptr i off))) => match lk st.hp i with
      | some (.cells _ xs) => match ag with
        | false => match xs[off]? with
          | some y => some (.one y)
          | none => none
        | true => cond (Nat.beq ((xs.drop off).take n).length n) (some (.agg ((xs.drop off).take n))) none
      | _ => none
    | _, _ => none

def aRess (st : St) : List ResultVar → Option (List AV)
  | [] => some []
  | v :: vs => match aRes T st v, aRess st vs with
    | some x, some xs => some (x :: xs)
    | _, _ => none

def aTrim (m : Mem) (res : TV) (m1 : Mem) : TV × Mem :=
  cond (Nat.ble m.nx m1.nx && res.belowB m.nx && (keepLt m.nx m1.hp).all fun p => p.2.belowB m.nx) (res, ⟨keepLt m.nx m1.hp, keepLt m.nx m1.tk, m.nx⟩) (res, m1)

def isEnd : Exit → Bool
  | .normal => true
  | .ret => true
  | _ => false

def acall (f : FuncId) (args : List AV) (m : Mem) : Option (TV × Mem) :=
  match lk T.fns f with
  | none => none
  | some fn => match fn.body with
    | none => none
    | some c => cond (Nat.ble args.length fn.ntmps) (match aexec T r none (comp T.keep c) ⟨entry 0 args, m.hp, m.tk, m.nx, fn.ntmps, []⟩ with
      | some (e, st') => cond (isEnd e) (match takeMarks st'.df st'.hp with
        | some hp' => match aRess T ⟨st'.tm, hp', st'.tk, st'.nx, st'.nt, []⟩ fn.results.toList with
          | some xs => some (aTrim m (resOf xs) ⟨hp', st'.tk, st'.nx⟩)
          | none => none
        | none => none) none
      | none => none) none
end

/-- Calls that are known otherwise. -/
abbrev Known := FuncId → List AV → Mem → Option (TV × Mem)

def recN (T : Cfg) (K : Known) : Nat → Rec
  | 0 => ⟨fun _ _ _ => none, fun _ _ _ => none⟩
  | n + 1 => ⟨fun f args m => match K f args m with
      | some x => some x
      | none => acall T (recN T K n) f args m, fun rn c st => aexec T (recN T K n) rn (comp T.keep c) st⟩

/-! ### It is right. -/
section
variable {P : Program} {T : Cfg} {r : Rec}

theorem aSeq_ok (hT : T.OK P) (hr : RecOK P r) {E : Env} {ro : Option Nat} {n : Nat} {Q : Exit → Act → World → Prop} {ops : Array Oper} (hP : E.P = P) : ∀ (l : List Oper) (st st' : St), aSeq T r ops l st = some st' → XQ E Q .normal st' → XL E ro n ops Q l st
  | [], st, st', h, k => by cases h; exact k
  | o :: os, st, st', h, k => by
    simp only [aSeq] at h
    split at h
    · rename_i hw
      split at h
      · rename_i x m ho
        obtain ⟨hd, h⟩ := cond_t h
        exact XL.opOK hw (aop_ok (hP ▸ hT) (hP ▸ hr) ho) hd (aSeq_ok hT hr hP os _ st' h k)
      · cases h
    · rename_i hw
      exact XL.opNo hw (aSeq_ok hT hr hP os _ st' h k)
    · cases h

theorem aMems_ok {ops : Array Oper} {st : St} {fx : List (Nat × TV)} : ∀ {effs : List Nat} {m : Mem} {ms : List Mem}, aMems T r ops st fx effs m = some ms → ms.length = effs.length + 1 ∧ ms[0]? = some m ∧ ∀ (j i : Nat) (mj : Mem), effs[j]? = some i → ms[j]? = some mj →
    ∃ o x m', ops[i]? = some o ∧ lk fx i = some x ∧ dstOK st o.dst = true ∧ wantedA ops (depsSt ops st fx i mj).tm o = some true ∧ aop T (depsSt ops st fx i mj) r true o = some (x, m') ∧ ms[j + 1]? = some (m'.getD mj)
  | [], m, ms, h => by cases h; exact ⟨rfl, rfl, fun j i mj hj => by simp at hj⟩
  | i :: is, m, ms, h => by
    simp only [aMems] at h
    split at h
    · rename_i o x ho hx
      split at h
      · rename_i hw
        split at h
        · rename_i x' m' hop
          obtain ⟨hc, h⟩ := cond_t h
          simp only [Bool.and_eq_true] at hc
          split at h
          · rename_i ms' hms
            cases h
            obtain ⟨h1, h2, h3⟩ := aMems_ok hms
            refine ⟨by simp [h1], rfl, fun j i' mj hj hmj => ?_⟩
            cases j with
            | zero =>
              simp at hj hmj
              subst hj; subst hmj
              exact ⟨o, x, m', ho, hx, hc.2, hw, by rw [tvEq_eq hc.1]; exact hop, by simpa using h2⟩
            | succ j =>
              obtain ⟨o', x', m'', h4⟩ := h3 j i' mj (by simpa using hj) (by simpa using hmj)
              exact ⟨o', x', m'', by simpa using h4⟩
          · cases h
        · cases h
      · cases h
    · cases h

theorem depsSt_mem {ops : Array Oper} {st : St} {fx : List (Nat × TV)} {i : Nat} {m : Mem} : (depsSt ops st fx i m).mem = m := rfl

theorem aAny_ok (hT : T.OK P) (hr : RecOK P r) {E : Env} {ro : Option Nat} {n id : Nat} {Q : Exit → Act → World → Prop} {ops : Array Oper} {effs : List Nat} (hP : E.P = P) (hB : anyB ops effs = true) {st st' : St} (h : aAny T r ops effs (planOf ops effs) st = some st') (k : XQ E Q .normal st') : XC E ro n Q (.region id ops true) st := by
  subst hP
  unfold aAny at h
  split at h
  · cases h
  · rename_i fx hfx
    split at h
    · cases h
    · rename_i ms hms
      split at h
      · cases h
      · rename_i mE hmE
        obtain ⟨hc, h⟩ := cond_t h
        cases h
        obtain ⟨h1, h2, h3⟩ := aMems_ok hms
        refine XC.anyOrder fx effs ms hT.mixed hB h2 hmE (fun i j m hi hj hm hmay => ?_) k
        by_cases hce : effs.contains i = true
        · have hej : effs[j]? = some i := by
            have hmay' := hmay
            simp only [mayAt, Bool.and_eq_true, Bool.or_eq_true, Bool.not_eq_true', beq_iff_eq] at hmay'
            rcases hmay'.2 with h4 | h4
            · rw [hce] at h4; cases h4
            · exact h4
          obtain ⟨o, x, m', h4, h5, h6, h7, h8, h9⟩ := h3 j i m hej hm
          refine ⟨o, x, h4, h5, h6, .inl ⟨h7, m'.getD m, ?_, by rw [if_pos hce]; exact h9⟩⟩
          have := aop_ok hT hr h8
          rw [depsSt_mem] at this; exact this
        · have hp := List.all_eq_true.1 hc (i, (List.range (effs.length + 1)).filter fun j => mayAt ops effs i j) (List.mem_map.2 ⟨i, by simpa using hi, rfl⟩)
          dsimp only at hp
          simp only [Bool.or_eq_true] at hp
          have hp := hp.resolve_left hce
          have hq := List.all_eq_true.1 hp j (List.mem_filter.2 ⟨by simpa using Nat.lt_succ_of_le hj, hmay⟩)
          rw [hm] at hq
          dsimp only at hq
          unfold aChk at hq
          split at hq
          · rename_i o x ho hx
            simp only [Bool.and_eq_true] at hq
            obtain ⟨hd, hq⟩ := hq
            refine ⟨o, x, ho, hx, hd, ?_⟩
            split at hq
            · rename_i hw
              split at hq
              · rename_i x' hop
                have := aop_ok hT hr hop
                rw [← tvEq_eq hq] at this
                rw [show (none : Option Mem).getD (depsSt ops st fx i m).mem = m from rfl] at this
                exact .inl ⟨hw, m, this, by rw [if_neg hce]⟩
              · cases hq
            · rename_i hw
              exact .inr ⟨hw, tvEq_eq hq, by simpa using hce⟩
            · cases hq
          · cases hq

theorem wpIn_scope {F : Fence} {n : Nat} {P : Program} {c : Code} {Q : Exit → Act → World → Prop} {a : Act} {w : World} (h : c.wpIn F n P (fun e a w => match e with
    | .goto _ => False
    | e => Q e a w) a w) : (Code.scope c).wpIn F n P Q a w := by
  intro b k cs hro hb hr
  have h0 : (lone (b.atR a (.code (.scope c) :: k)) cs w).fenced P F := fenced_calm hb hr rfl
  have s0 : step P (lone (b.atR a (.code (.scope c) :: k)) cs w) = .next (lone (b.atR a (.code c :: .inScope c :: k)) cs w) := step_lone_go (by simp [stepG, stepG.exec, Frame.atR])
  have s1 : ∀ a w, step P (lone (b.atR a (.inScope c :: k)) cs w) = .next (lone (b.atR a k) cs w) := fun a w => step_lone_go (by simp [stepG, stepG.exec, Frame.atR])
  obtain ⟨e, a₁, w₁, hq, harr⟩ := h b (.inScope c :: k) cs hro hb hr
  cases e with
  | normal => exact ⟨.normal, a₁, w₁, hq, .head h0 s0 (StepsIn.trans harr (.one (fenced_calm hb hr rfl) (s1 _ _)))⟩
  | exit id =>
    have hx : exitTo id (.inScope c :: k) = exitTo id k := by simp [exitTo]
    exact ⟨.exit id, a₁, w₁, hq, fun k' hk => .head h0 s0 (harr.1 k' (by rw [hx]; exact hk)),
      fun hr' hk => let ⟨k₁, h1, h2⟩ := harr.2 hr' (by rw [hx]; exact hk); ⟨k₁, h1, .head h0 s0 h2⟩⟩
  | goto l => exact hq.elim
  | ret => exact ⟨_, a₁, w₁, hq, .of_steps (.one h0 s0) harr⟩
  | panic ch => exact ⟨_, a₁, w₁, hq, .of_steps (.one h0 s0) harr⟩
  | outgrown => exact ⟨_, a₁, w₁, hq, .of_steps (.one h0 s0) harr⟩

theorem aLoop_ok {E : Env} {ro : Option Nat} {n : Nat} {Q : Exit → Act → World → Prop} {c : Code} {f : St → Option (Exit × St)} (hf : ∀ st e st', f st = some (e, st') → ∀ Q, XQ E Q e st' → XC E ro n Q c st) : ∀ (k : Nat) (st : St) (e : Exit) (st' : St), aLoop f k st = some (e, st') → XQ E Q e st' →
    ∀ V a w, Rel E V st a w → ∃ m, Code.roundsIn (FR ro) n E.P c Q m a w
  | 0, st, e, st', h, _ => by cases h
  | k + 1, st, e, st', h, hQ => by
    intro V a w hr
    simp only [aLoop] at h
    split at h
    · rename_i st1 h1
      have ih := aLoop_ok (n := n) (Q := Q) hf k st1 e st' h hQ
      -- the number of further rounds is the same wherever the rounds begin: we choose it by the fuel
      have key : ∀ (k : Nat) (st : St) (e : Exit) (st' : St), aLoop f k st = some (e, st') → XQ E Q e st' → ∀ V a w, Rel E V st a w → Code.roundsIn (FR ro) n E.P c Q k a w := by
        intro k
        induction k with
        | zero => intro st e st' h; cases h
        | succ k ihk =>
          intro st e st' h hQ V a w hr
          simp only [aLoop] at h
          split at h
          · rename_i st1 h1
            exact hf st .normal st1 h1 _ (fun V a w hr => ihk st1 e st' h hQ V a w hr) V a w hr
          · rename_i x hne
            cases hfx : f st with
            | none => rw [hfx] at h; cases h
            | some p =>
              obtain ⟨e1, s1⟩ := p
              rw [hfx] at h; cases h
              refine hf st e st' hfx _ (fun V a w hr => ?_) V a w hr
              cases e with
              | normal => exact absurd hfx (hne st')
              | exit id => exact hQ V a w hr
              | goto l => exact hQ V a w hr
              | ret => exact hQ V a w hr
              | panic ch => exact hQ V a w hr
              | outgrown => exact hQ V a w hr
      exact ⟨k + 1, key (k + 1) st e st' (by simp only [aLoop, h1]; exact h) hQ V a w hr⟩
    · rename_i x hne
      cases hfx : f st with
      | none => rw [hfx] at h; cases h
      | some p =>
        obtain ⟨e1, s1⟩ := p
        rw [hfx] at h; cases h
        refine ⟨1, hf st e st' hfx _ (fun V a w hr => ?_) V a w hr⟩
        cases e with
        | normal => exact absurd hfx (hne st')
        | exit id => exact hQ V a w hr
        | goto l => exact hQ V a w hr
        | ret => exact hQ V a w hr
        | panic ch => exact hQ V a w hr
        | outgrown => exact hQ V a w hr

theorem exitOf_jump {p : Option Code} {e : Exit} (h : exitOf p = some e) : jumpOf e = some p := by
  unfold exitOf at h
  split at h <;> first | (cases h; rfl) | cases h

theorem notBusy_ne {s : LoopState} (h : notBusy s = true) : s ≠ .busy := by
  cases s <;> simp [notBusy] at h ⊢

theorem aRange_ok (hr : RecOK P r) {rn : Option Nat} {g : Operand} {ps : Array Nat} {assign body : Code} {st st' : St} {e : Exit} (h : aRange r rn g ps assign body st = some (e, st')) : ExecOK P rn (.rangeFunc g ps assign body) st e st' := by
  unfold aRange at h
  split at h
  · rename_i gf caps hg
    split at h
    · split at h
      · rename_i res m2 hc
        split at h
        · rename_i s jump tm2 nt2 ps2 as2 bd2 D2 hL
          split at h
          · rename_i hs he
            cases h
            exact rangeFunc_out hg (hr.call hc) hL (notBusy_ne hs) (exitOf_jump he)
          · cases h
        · cases h
      · cases h
    · rename_i L0
      split at h
      · rename_i s0 p0 tm0 nt0 ps0 as0 bd0 D0 h0
        split at h
        · rename_i res m2 hc
          split at h
          · rename_i s jump tm2 nt2 ps2 as2 bd2 D2 hL
            split at h
            · rename_i hs he
              cases h
              exact rangeFunc_in hg h0 (hr.call hc) hL (notBusy_ne hs) (exitOf_jump he)
            · cases h
          · cases h
        · cases h
      · cases h
  · cases h

theorem aexec_ok (hT : T.OK P) (hr : RecOK P r) (keep : List Nat) (rn : Option Nat) : ∀ (c : Code) (st : St) (e : Exit) (st' : St), aexec T r rn (comp keep c) st = some (e, st') → ExecOK P rn c st e st' := by
  intro c
  induction c with
  | skip => intro st e st' h E ro n Q hP hro hQ; cases h; exact XC.skip hQ
  | region id ops draw =>
    intro st e st' h E ro n Q hP hro hQ
    cases draw with
    | false =>
      simp only [comp, aexec] at h
      split at h
      · rename_i s1 h1
        cases h
        have := aSeq_ok (ro := ro) (n := n) hT hr hP ops.toList st st' h1 hQ
        intro V a w hrel
        exact wpIn_region_list (this V a w hrel)
      · cases h
    | true =>
      simp only [comp, aexec] at h
      obtain ⟨hok, h⟩ := cond_t h
      split at h
      · rename_i s1 h1; cases h; exact aAny_ok hT hr hP hok h1 hQ
      · cases h
  | seq a b iha ihb =>
    intro st e st' h E ro n Q hP hro hQ
    simp only [comp, aexec] at h
    split at h
    · rename_i s1 h1
      exact XC.seq (iha st .normal s1 h1 E ro n _ hP hro (fun V a w hrel => ihb s1 e st' h E ro n Q hP hro hQ V a w hrel))
    · rename_i x hne
      refine XC.seq (iha st e st' h E ro n _ hP hro (fun V a w hrel => ?_))
      cases e with
      | normal => exact absurd h (hne st')
      | exit id => exact hQ V a w hrel
      | goto l => exact hQ V a w hrel
      | ret => exact hQ V a w hrel
      | panic ch => exact hQ V a w hrel
      | outgrown => exact hQ V a w hrel
  | cond c a b iha ihb =>
    intro st e st' h E ro n Q hP hro hQ
    simp only [comp, aexec] at h
    split at h
    · rename_i hc
      exact XC.cond hc (fun _ => iha st e st' h E ro n Q hP hro hQ) (fun hf => by cases hf)
    · rename_i hc
      exact XC.cond hc (fun hf => by cases hf) (fun _ => ihb st e st' h E ro n Q hP hro hQ)
    · cases h
  | block id b ih =>
    intro st e st' h E ro n Q hP hro hQ
    simp only [comp, aexec] at h
    split at h
    · rename_i id' s1 h1
      refine XC.block (ih st (.exit id') s1 h1 E ro n _ hP hro (fun V a w hrel => ?_))
      show (if id' = id then Q .normal a w else Q (.exit id') a w)
      cases hb : Nat.beq id' id with
      | true =>
        rw [hb] at h; cases h
        rw [if_pos (Nat.eq_of_beq_eq_true hb)]; exact hQ V a w hrel
      | false =>
        rw [hb] at h; cases h
        rw [if_neg (fun e => by subst e; simp at hb)]; exact hQ V a w hrel
    · rename_i x hne
      refine XC.block (ih st e st' h E ro n _ hP hro (fun V a w hrel => ?_))
      cases e with
      | normal => exact hQ V a w hrel
      | exit id' => exact absurd h (hne id' st')
      | goto l => exact hQ V a w hrel
      | ret => exact hQ V a w hrel
      | panic ch => exact hQ V a w hrel
      | outgrown => exact hQ V a w hrel
  | loop b ih =>
    intro st e st' h E ro n Q hP hro hQ
    simp only [comp, aexec] at h
    intro V a w hrel
    obtain ⟨m, hm⟩ := aLoop_ok (n := n) (Q := Q) (c := b) (fun st e st' h Q hQ => ih st e st' h E ro n Q hP hro hQ) T.rounds st e st' h hQ V a w hrel
    exact wpIn_loop_rounds m hm
  | rangeFunc g ps a b iha ihb =>
    intro st e st' h
    exact aRange_ok hr h
  | exit id => intro st e st' h E ro n Q hP hro hQ; cases h; exact XC.exit hQ
  | scope b ih =>
    intro st e st' h E ro n Q hP hro hQ
    simp only [comp, aexec] at h
    split at h
    · cases h
    · rename_i x hne
      intro V a w hrel
      refine wpIn_scope (ih st e st' h E ro n _ hP hro (fun V a w hrel => ?_) V a w hrel)
      cases e with
      | normal => exact hQ V a w hrel
      | exit id' => exact hQ V a w hrel
      | goto l => exact absurd h (hne l st')
      | ret => exact hQ V a w hrel
      | panic ch => exact hQ V a w hrel
      | outgrown => exact hQ V a w hrel
  | label l => intro st e st' h E ro n Q hP hro hQ; cases h; exact fun V a w hrel => wpIn_label (hQ V a w hrel)
  | goto l => intro st e st' h; cases h
  | ret => intro st e st' h E ro n Q hP hro hQ; cases h; exact XC.ret hQ
  | refuse why => intro st e st' h; cases h

theorem aRess_ok (hT : T.OK P) {st : St} : ∀ {rs : List ResultVar} {xs : List AV}, aRess T st rs = some xs → RAs P st rs xs
  | [], xs, h => by cases h; exact .nil
  | v :: vs, xs, h => by
    simp only [aRess] at h
    split at h
    · rename_i x xs' hx hxs
      cases h
      refine .cons (fun E hE => ?_) (aRess_ok hT hxs)
      subst hE
      unfold aRes at hx
      split at hx
      · split at hx
        · rename_i y hy; cases hx; exact RA.tmp hy
        · cases hx
      · split at hx
        · rename_i ag n i off ht had
          split at hx
          · rename_i T' xs0 hi
            split at hx
            · split at hx
              · rename_i y hy; cases hx; exact RA.cell (hT.agg.get ht) had hi hy
              · cases hx
            · obtain ⟨hn, rfl⟩ := beq_t hx
              exact RA.cellAgg (hT.agg.get ht) had hi rfl hn
          · cases hx
        · cases hx
    · cases h

theorem acall_ok (hT : T.OK P) (hr : RecOK P r) {f : FuncId} {args : List AV} {m : Mem} {res : TV} {m' : Mem} (h : acall T r f args m = some (res, m')) : CallM P f args m res m' := by
  unfold acall at h
  split at h
  · cases h
  · rename_i fn hf
    obtain ⟨hf1, hf2⟩ := hT.fns.get hf
    split at h
    · cases h
    · rename_i c hc
      obtain ⟨hnt, h⟩ := cond_t h
      split at h
      · rename_i e st' he
        obtain ⟨hend, h⟩ := cond_t h
        split at h
        · rename_i hp' hm
          split at h
          · rename_i xs hxs
            have key := CallM.of_exec hf1 hc hf2 (Nat.le_of_ble_eq_true hnt) (aexec_ok hT hr T.keep none c _ e st' he) (by cases e <;> first | exact .inl rfl | exact .inr rfl | cases hend) hm (aRess_ok hT hxs)
            have h' := Option.some.inj h
            unfold aTrim at h'
            cases hb : (Nat.ble m.nx st'.nx && (resOf xs).belowB m.nx && (keepLt m.nx hp').all fun p => p.2.belowB m.nx) with
            | true =>
              rw [hb] at h'
              cases h'
              simp only [Bool.and_eq_true] at hb
              exact key.trim (Nat.le_of_ble_eq_true hb.1.1) hb.1.2 hb.2
            | false => rw [hb] at h'; cases h'; exact key
          · cases h
        · cases h
      · cases h

def Known.OK (P : Program) (K : Known) : Prop := ∀ {f args m res m'}, K f args m = some (res, m') → CallM P f args m res m'

theorem recN_ok (hT : T.OK P) {K : Known} (hK : K.OK P) : ∀ n, RecOK P (recN T K n)
  | 0 => ⟨(fun h => by cases h), (fun h => by cases h)⟩
  | n + 1 => ⟨fun {f args m res m'} h => by
      simp only [recN] at h
      split at h
      · rename_i x hx; cases h; exact hK hx
      · exact acall_ok hT (recN_ok hT hK n) h, fun {rn c st e st'} h => aexec_ok hT (recN_ok hT hK n) T.keep rn c st e st' h⟩

/-- A call in an empty memory whose results are data is the contract of a function that only reads. -/
theorem Fun.of_callM {f : FuncId} {args : List AV} {res res' : TV} {m1 : Mem} (h : CallM P f args mem0 res m1) (hr : asTV res = some res') : Fun P f args res' := by
  refine ⟨h.1, fun S w vs hS hargs => ?_⟩
  refine Calls.mono (h.2 (EnvF P w S) (Vu.of S) w vs rfl (hrel0 hS) rfl hargs) ?_
  rintro e w' ⟨v, V1, rfl, H, hn, L, hres⟩
  refine ⟨v, V1.S, rfl, H.ext, H.le0.S, fun b o h => ⟨?_, H.sz b o h⟩, asTV_rel hr hres⟩
  rcases H.sub b o h with h1 | h1 | h1
  · exact .inl h1
  · exact .inr h1
  · exact h1.elim
end
end Go.Proofs.YtcapifnaceegmaaGreatDoor
