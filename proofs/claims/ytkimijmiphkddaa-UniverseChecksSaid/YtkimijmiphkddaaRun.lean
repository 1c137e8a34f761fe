/- A region in whatever order, walked in the text's order. -/
import Derived.Test.YtkimijmiphkddaaMir
namespace Go.Proofs.Ytkimijmiphkddaa
open Go.RowKit
set_option linter.unusedSimpArgs false
set_option linter.unusedVariables false
set_option linter.unusedSectionVars false

section
variable (E : Env) (ops : Array Oper) (st : St) (effs : List Nat)

/-- Operations in the text's order: the facts so far, the memories so far (the last one in front). -/
inductive RunA (F : List (Nat × TV) → List Mem → Prop) : List Nat → List (Nat × TV) → List Mem → Prop
  | nil {fx : List (Nat × TV)} {ms : List Mem} (h : F fx ms) : RunA F [] fx ms
  | rd {i : Nat} {rest : List Nat} {fx : List (Nat × TV)} {m : Mem} {ms : List Mem} {o : Oper} {x : TV} (ho : ops[i]? = some o) (he : effs.contains i = false) (hw : wantedA ops (depsSt ops st fx i m).tm o = some true) (h : OpOK E o (depsSt ops st fx i m) x m) (hd : dstOK st o.dst = true)
      (k : RunA F rest ((i, x) :: fx) (m :: ms)) : RunA F (i :: rest) fx (m :: ms)
  | no {i : Nat} {rest : List Nat} {fx : List (Nat × TV)} {m : Mem} {ms : List Mem} {o : Oper} (ho : ops[i]? = some o) (he : effs.contains i = false) (hw : wantedA ops (depsSt ops st fx i m).tm o = some false) (hd : dstOK st o.dst = true)
      (k : RunA F rest ((i, .tup []) :: fx) (m :: ms)) : RunA F (i :: rest) fx (m :: ms)
  | eff {i : Nat} {rest : List Nat} {fx : List (Nat × TV)} {m : Mem} {ms : List Mem} {o : Oper} {x : TV} {m' : Mem} (ho : ops[i]? = some o) (he : effs.contains i = true) (hw : wantedA ops (depsSt ops st fx i m).tm o = some true) (h : OpOK E o (depsSt ops st fx i m) x m') (hd : dstOK st o.dst = true)
      (k : RunA F rest ((i, x) :: fx) (m' :: m :: ms)) : RunA F (i :: rest) fx (m :: ms)
end

section
variable {E : Env} {ops : Array Oper} {st : St} {effs : List Nat} {F : List (Nat × TV) → List Mem → Prop}

theorem RunA.case {i : Nat} {rest : List Nat} {fx : List (Nat × TV)} {m : Mem} {ms : List Mem} {o : Oper} {c : Bool} (ho : ops[i]? = some o) (he : effs.contains i = false) (hw : wantedA ops (depsSt ops st fx i m).tm o = some true) (h : OpOK E o (depsSt ops st fx i m) (TB c) m) (hd : dstOK st o.dst = true)
    (kt : c = true → RunA E ops st effs F rest ((i, TB true) :: fx) (m :: ms)) (kf : c = false → RunA E ops st effs F rest ((i, TB false) :: fx) (m :: ms)) : RunA E ops st effs F (i :: rest) fx (m :: ms) := by
  cases c with
  | true => exact .rd ho he hw h hd (kt rfl)
  | false => exact .rd ho he hw h hd (kf rfl)

theorem facts_later {fx' fx : List (Nat × TV)} {js : List Nat} (h : ∀ j ∈ js, ∀ p ∈ fx', p.1 ≠ j) : factsOf ops (fx' ++ fx) js = factsOf ops fx js := by
  have key : ∀ j ∈ js, lk (fx' ++ fx) j = lk fx j := fun j hj => by
    rw [lk_append]
    have : lk fx' j = none := by
      cases hc : lk fx' j with
      | none => rfl
      | some x => exact absurd rfl (h j hj _ (lk_mem hc))
    rw [this]
  unfold factsOf
  induction js with
  | nil => rfl
  | cons j js ih =>
    rw [List.filterMap_cons, List.filterMap_cons, key j (by simp), ih (fun j hj => h j (by simp [hj])) (fun j hj => key j (by simp [hj]))]

/-- Where operation i stands among the effects. -/
def homeOf (effs : List Nat) (i : Nat) : Nat := (effs.filter fun e => decide (e < i)).length

theorem run_home (hdag : ∀ i, i < ops.size → ∀ k ∈ edgesOf ops i, k < i) : ∀ (todo : List Nat) (i0 : Nat) (fx : List (Nat × TV)) (m : Mem) (ms : List Mem), RunA E ops st effs F todo fx (m :: ms) → (∀ p ∈ fx, p.1 < i0) → todo = List.range' i0 (ops.size - i0) → i0 ≤ ops.size →
    ∃ fx' ms', F (fx' ++ fx) (ms' ++ m :: ms) ∧ (∀ p ∈ fx', i0 ≤ p.1) ∧ ms'.length = (todo.filter effs.contains).length ∧ ∀ i ∈ todo, ∃ mi,
      (ms' ++ m :: ms).reverse[ms.length + ((List.range' i0 (i - i0)).filter effs.contains).length]? = some mi ∧
      ∃ o x, ops[i]? = some o ∧ lk (fx' ++ fx) i = some x ∧ dstOK st o.dst = true ∧
        ((wantedA ops (depsSt ops st (fx' ++ fx) i mi).tm o = some true ∧ ∃ m', OpOK E o (depsSt ops st (fx' ++ fx) i mi) x m' ∧ (if effs.contains i then (ms' ++ m :: ms).reverse[ms.length + ((List.range' i0 (i - i0)).filter effs.contains).length + 1]? = some m' else m' = mi)) ∨
         (wantedA ops (depsSt ops st (fx' ++ fx) i mi).tm o = some false ∧ x = .tup [] ∧ effs.contains i = false)) := by
  intro todo
  induction todo with
  | nil =>
    intro i0 fx m ms h _ _ _
    cases h with
    | nil h => exact ⟨[], [], h, (fun p hp => by cases hp), rfl, (fun i hi => by cases hi)⟩
  | cons j todo ih =>
    intro i0 fx m ms h hfx htodo hle
    have hlt : i0 < ops.size := by
      rcases Nat.lt_or_ge i0 ops.size with h1 | h1
      · exact h1
      · rw [Nat.sub_eq_zero_of_le h1] at htodo; cases htodo
    rw [show ops.size - i0 = (ops.size - (i0 + 1)) + 1 by omega, List.range'_succ] at htodo
    have hj : j = i0 := (List.cons.inj htodo).1
    have ht : todo = List.range' (i0 + 1) (ops.size - (i0 + 1)) := (List.cons.inj htodo).2
    subst hj
    have hmem : ∀ i ∈ todo, j + 1 ≤ i := fun i hi => by rw [ht] at hi; have := List.mem_range'_1.1 hi; omega
    have hdeps : ∀ (x : TV) (fx' : List (Nat × TV)) (mi : Mem), (∀ p ∈ fx', j + 1 ≤ p.1) → depsSt ops st (fx' ++ (j, x) :: fx) j mi = depsSt ops st fx j mi := fun x fx' mi hf => by
      unfold depsSt
      rw [show fx' ++ (j, x) :: fx = (fx' ++ [(j, x)]) ++ fx by simp, facts_later (fun k hk p hp => ?_)]
      have := hdag j hlt k hk
      rcases List.mem_append.1 hp with hp | hp
      · have := hf p hp; omega
      · simp at hp; subst hp; dsimp only; omega
    have hlkj : ∀ (x : TV) (fx' : List (Nat × TV)), (∀ p ∈ fx', j + 1 ≤ p.1) → lk (fx' ++ (j, x) :: fx) j = some x := fun x fx' hf => by
      rw [lk_append]
      have : lk fx' j = none := by
        cases hc : lk fx' j with
        | none => rfl
        | some y => have := hf _ (lk_mem hc); dsimp only at this; omega
      rw [this]; dsimp only; rw [lk_cons, if_pos rfl]
    have hfx1 : ∀ (x : TV), ∀ p ∈ (j, x) :: fx, p.1 < j + 1 := fun x p hp => by
      rcases List.mem_cons.1 hp with rfl | hp
      · exact Nat.lt_succ_self _
      · have := hfx p hp; omega
    have hrng : ∀ i, j + 1 ≤ i → List.range' j (i - j) = j :: List.range' (j + 1) (i - (j + 1)) := fun i hi => by
      rw [show i - j = (i - (j + 1)) + 1 by omega, List.range'_succ]
    have hself : ∀ (ms' : List Mem) (m : Mem) (ms : List Mem), (ms' ++ m :: ms).reverse[ms.length]? = some m := fun ms' m ms => by
      rw [List.reverse_append, List.getElem?_append_left (by simp), List.reverse_cons, List.getElem?_append_right (by simp)]; simp
    cases h with
    | rd ho he hw hok hd k =>
      rename_i o x
      obtain ⟨fx', ms', h1, h2, h3, h4⟩ := ih (j + 1) _ m ms k (hfx1 x) ht (by omega)
      refine ⟨fx' ++ [(j, x)], ms', by rw [List.append_assoc]; exact h1, fun p hp => ?_, by rw [List.filter_cons, if_neg (by rw [he]; exact Bool.false_ne_true)]; exact h3, fun i hi => ?_⟩
      · rcases List.mem_append.1 hp with hp | hp
        · have := h2 p hp; omega
        · simp at hp; subst hp; exact Nat.le_refl _
      · rw [show (fx' ++ [(j, x)]) ++ fx = fx' ++ (j, x) :: fx by simp]
        rcases List.mem_cons.1 hi with rfl | hi
        · rw [Nat.sub_self, List.range'_zero, List.filter_nil, List.length_nil, Nat.add_zero]
          exact ⟨m, hself ms' m ms, o, x, ho, hlkj x fx' h2, hd, .inl ⟨by rw [hdeps x fx' m h2]; exact hw, m, by rw [hdeps x fx' m h2]; exact hok, by rw [if_neg (by rw [he]; exact Bool.false_ne_true)]⟩⟩
        · have := h4 i hi
          rw [hrng i (hmem i hi), List.filter_cons, if_neg (by rw [he]; exact Bool.false_ne_true)]
          exact this
    | no ho he hw hd k =>
      rename_i o
      obtain ⟨fx', ms', h1, h2, h3, h4⟩ := ih (j + 1) _ m ms k (hfx1 _) ht (by omega)
      refine ⟨fx' ++ [(j, .tup [])], ms', by rw [List.append_assoc]; exact h1, fun p hp => ?_, by rw [List.filter_cons, if_neg (by rw [he]; exact Bool.false_ne_true)]; exact h3, fun i hi => ?_⟩
      · rcases List.mem_append.1 hp with hp | hp
        · have := h2 p hp; omega
        · simp at hp; subst hp; exact Nat.le_refl _
      · rw [show (fx' ++ [(j, TV.tup [])]) ++ fx = fx' ++ (j, .tup []) :: fx by simp]
        rcases List.mem_cons.1 hi with rfl | hi
        · rw [Nat.sub_self, List.range'_zero, List.filter_nil, List.length_nil, Nat.add_zero]
          exact ⟨m, hself ms' m ms, o, .tup [], ho, hlkj _ fx' h2, hd, .inr ⟨by rw [hdeps _ fx' m h2]; exact hw, rfl, he⟩⟩
        · have := h4 i hi
          rw [hrng i (hmem i hi), List.filter_cons, if_neg (by rw [he]; exact Bool.false_ne_true)]
          exact this
    | eff ho he hw hok hd k =>
      rename_i o x m'
      obtain ⟨fx', ms', h1, h2, h3, h4⟩ := ih (j + 1) _ m' (m :: ms) k (hfx1 x) ht (by omega)
      refine ⟨fx' ++ [(j, x)], ms' ++ [m'], by rw [List.append_assoc, List.append_assoc]; exact h1, fun p hp => ?_, by rw [List.filter_cons, if_pos he]; simp [h3], fun i hi => ?_⟩
      · rcases List.mem_append.1 hp with hp | hp
        · have := h2 p hp; omega
        · simp at hp; subst hp; exact Nat.le_refl _
      · rw [show (fx' ++ [(j, x)]) ++ fx = fx' ++ (j, x) :: fx by simp, show (ms' ++ [m']) ++ m :: ms = ms' ++ m' :: m :: ms by simp]
        rcases List.mem_cons.1 hi with rfl | hi
        · rw [Nat.sub_self, List.range'_zero, List.filter_nil, List.length_nil, Nat.add_zero]
          refine ⟨m, ?_, o, x, ho, hlkj x fx' h2, hd, .inl ⟨by rw [hdeps x fx' m h2]; exact hw, m', by rw [hdeps x fx' m h2]; exact hok, ?_⟩⟩
          · simp
          · rw [if_pos he]
            simp
        · obtain ⟨mi, h5, h6⟩ := h4 i hi
          have e1 : ((List.range' j (i - j)).filter effs.contains).length = ((List.range' (j + 1) (i - (j + 1))).filter effs.contains).length + 1 := by
            rw [hrng i (hmem i hi), List.filter_cons, if_pos he, List.length_cons]
          refine ⟨mi, ?_, ?_⟩
          · rw [e1, ← h5]; congr 1; simp; omega
          · rw [e1]
            rw [show ms.length + (((List.range' (j + 1) (i - (j + 1))).filter effs.contains).length + 1) = (m :: ms).length + ((List.range' (j + 1) (i - (j + 1))).filter effs.contains).length by simp; omega]
            exact h6

/-- The other places at which operations may come up. -/
def AllEx (E : Env) (ops : Array Oper) (st : St) (effs : List Nat) (fx : List (Nat × TV)) (ms : List Mem) : List (Nat × Nat) → Prop
  | [] => True
  | (i, j) :: r => (∃ m, ms[j]? = some m ∧ AnyOp E ops st fx effs ms i j m) ∧ AllEx E ops st effs fx ms r

theorem AllEx.get {fx : List (Nat × TV)} {ms : List Mem} : ∀ {l : List (Nat × Nat)} {i j : Nat}, AllEx E ops st effs fx ms l → l.contains (i, j) = true → ∃ m, ms[j]? = some m ∧ AnyOp E ops st fx effs ms i j m
  | [], i, j, _, h => by cases h
  | (a, b) :: r, i, j, ha, h => by
    simp only [List.contains_cons, Bool.or_eq_true, beq_iff_eq] at h
    rcases h with h | h
    · cases h; exact ha.1
    · exact AllEx.get ha.2 h

def homeK (effs : List Nat) (i : Nat) : Nat := ((List.range' 0 i).filter effs.contains).length

def exOK (ops : Array Oper) (effs : List Nat) (ex : List (Nat × Nat)) : Bool :=
  (List.range ops.size).all fun i => (List.range (effs.length + 1)).all fun j => !(mayAt ops effs i j) || j == homeK effs i || ex.contains (i, j)

theorem XC.anyRun {ro : Option Nat} {n id : Nat} {Q : Exit → Act → World → Prop} (effs : List Nat) (ex : List (Nat × Nat)) (hm : E.P.follows .mixedOrders = true) (hB : anyB ops effs = true) (hex : exOK ops effs ex = true) (hlen : ((List.range' 0 ops.size).filter effs.contains).length = effs.length)
    (h : RunA E ops st effs (fun fx ms => AllEx E ops st effs fx ms.reverse ex ∧ ∃ mE r, ms = mE :: r ∧ XQ E Q .normal (endSt ops st fx mE)) (List.range' 0 ops.size) [] [st.mem]) : XC E ro n Q (.region id ops true) st := by
  have hB' := hB
  simp only [anyB, Bool.and_eq_true] at hB'
  obtain ⟨⟨⟨⟨hdag, -⟩, -⟩, -⟩, -⟩ := hB'
  have hdag' : ∀ i, i < ops.size → ∀ k ∈ edgesOf ops i, k < i := fun i hi k hk => by
    have := List.all_eq_true.1 (List.all_eq_true.1 hdag i (by simpa using hi)) k hk
    simpa using this
  obtain ⟨fx', ms', ⟨hall, mE, r, hmE, hQ⟩, -, hms, hrun⟩ := run_home hdag' _ 0 [] st.mem [] h (fun p hp => by cases hp) (by rw [Nat.sub_zero]) (Nat.zero_le _)
  rw [List.append_nil] at hall hQ
  rw [hlen] at hms
  refine XC.anyOrder fx' effs (ms' ++ [st.mem]).reverse (mE := mE) hm hB (by simp) ?_ (fun i j m hi hj hmj hmay => ?_) hQ
  · rw [hmE]
    have : r.length = effs.length := by have := congrArg List.length hmE; simp at this; omega
    rw [List.reverse_cons, List.getElem?_append_right (by simp; omega)]; simp [this]
  · have h1 := List.all_eq_true.1 (List.all_eq_true.1 hex i (by simpa using hi)) j (by simpa using Nat.lt_succ_of_le hj)
    rw [hmay] at h1
    simp only [Bool.not_true, Bool.false_or, Bool.or_eq_true, beq_iff_eq] at h1
    rcases h1 with h1 | h1
    · obtain ⟨mi, h2, h3⟩ := hrun i (List.mem_range'_1.2 ⟨Nat.zero_le _, by omega⟩)
      rw [List.append_nil] at h3
      simp only [List.length_nil, Nat.zero_add, Nat.sub_zero] at h2 h3
      subst h1
      unfold homeK at hmj ⊢
      rw [hmj] at h2; cases h2
      exact h3
    · obtain ⟨m', h2, h3⟩ := hall.get h1
      rw [hmj] at h2; cases h2
      exact h3
end
end Go.Proofs.Ytkimijmiphkddaa
