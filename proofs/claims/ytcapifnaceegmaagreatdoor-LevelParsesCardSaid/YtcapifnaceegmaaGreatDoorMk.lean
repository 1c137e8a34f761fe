/- Maps from numbers to numbers, typed. The keys of a map, sorted; whether a map is in order. -/
import Derived.Test.YtcapifnaceegmaaGreatDoorInl
namespace Go.Proofs.YtcapifnaceegmaaGreatDoor
section
open Go.RowKit
set_option linter.unusedSimpArgs false
set_option linter.unusedVariables false
set_option linter.unusedSectionVars false

/-- entries (key, value, when it was laid in), and the clock -/
abbrev IMap := List (Int × Int × Nat) × Nat
def imE (l : List (Int × Int × Nat)) : List (Value × AV × Nat) := l.map fun e => (.int .i64 e.1, .one (.d (.v (.int .i64 e.2.1))), e.2.2)
def imFind (k : Int) : List (Int × Int × Nat) → Nat → Option (Nat × Int)
  | [], _ => none
  | e :: l, i => cond (k == e.1) (some (i, e.2.1)) (imFind k l (i + 1))
def imGet (M : IMap) (k : Int) : Option Int := (imFind k M.1 0).map (·.2)
def imVal (M : IMap) (k : Int) : Int := (imGet M k).getD 0
def imHas (M : IMap) (k : Int) : Bool := (imGet M k).isSome
def imSet (M : IMap) (k v : Int) : IMap := match imFind k M.1 0 with
  | some (j, _) => (M.1.modify j fun e => (k, v, e.2.2), M.2)
  | none => (M.1 ++ [(k, v, M.2)], M.2 + 1)
def imNil : IMap := ([], 0)

theorem mpBelow_im {m : Nat} {l : List (Int × Int × Nat)} : mpBelow m (imE l) = True := by
  refine eq_true fun e he => ?_
  obtain ⟨x, -, rfl⟩ := List.mem_map.1 he
  trivial

theorem findE_im (k : Int) : ∀ (l : List (Int × Int × Nat)) (i : Nat), findE (.int .i64 k) (imE l) i = some ((imFind k l i).map fun p => (p.1, .one (.d (.v (.int .i64 p.2)))))
  | [], i => rfl
  | e :: l, i => by
    have ih := findE_im k l (i + 1)
    simp only [imE] at ih
    simp only [imE, List.map_cons, findE, keyEq, decide_true, cond_true, imFind]
    cases h : k == e.1 with
    | true => rfl
    | false => simp only [cond_false]; exact ih

theorem imE_modify (l : List (Int × Int × Nat)) (j : Nat) (k v : Int) : imE (l.modify j fun e => (k, v, e.2.2)) = (imE l).modify j fun e => (.int .i64 k, .one (.d (.v (.int .i64 v))), e.2.2) := by
  unfold imE
  apply List.ext_getElem?
  intro i
  rw [List.getElem?_map, List.getElem?_modify, List.getElem?_modify, List.getElem?_map]
  cases l[i]? with
  | none => by_cases h : j = i <;> simp [h]
  | some e => by_cases h : j = i <;> simp [h]

section
variable {E : Env} {st : St} {dd : Option Tmp} {ty : TypeId} {pos : String} {af : Array Edge} {g : Option (Nat × Bool)}

theorem RO.lookupT {t : TypeId} {o1 o2 : Operand} {i : Nat} {M : IMap} {k : Int} (ht : tyMap E.P t = some (true, .one (.d (.v (.int .i64 0))))) (h1 : ev st.tm o1 = some (.v (.one (.mp i)))) (h2 : ev st.tm o2 = some (TI k)) (hi : lk st.hp i = some (.mp (imE M.1) M.2)) :
    RO E ⟨dd, .lookup t o1 o2 true, ty, pos, af, g⟩ st (.tup [.one (.d (.v (.int .i64 (imVal M k)))), .one (.d (.v (.bool (imHas M k))))]) := by
  have hf := findE_im k M.1 0
  unfold imVal imHas imGet
  cases h : imFind k M.1 0 with
  | none => rw [h] at hf; exact RO.lookup (E := E) (dd := dd) (ty := ty) (pos := pos) (af := af) (g := g) ht h1 h2 rfl hi hf true
  | some p => rw [h] at hf; exact RO.lookup (E := E) (dd := dd) (ty := ty) (pos := pos) (af := af) (g := g) ht h1 h2 rfl hi hf true
theorem RO.lookupF {t : TypeId} {o1 o2 : Operand} {i : Nat} {M : IMap} {k : Int} (ht : tyMap E.P t = some (true, .one (.d (.v (.int .i64 0))))) (h1 : ev st.tm o1 = some (.v (.one (.mp i)))) (h2 : ev st.tm o2 = some (TI k)) (hi : lk st.hp i = some (.mp (imE M.1) M.2)) :
    RO E ⟨dd, .lookup t o1 o2 false, ty, pos, af, g⟩ st (TI (imVal M k)) := by
  have hf := findE_im k M.1 0
  unfold imVal imGet
  cases h : imFind k M.1 0 with
  | none => rw [h] at hf; exact RO.lookup (E := E) (dd := dd) (ty := ty) (pos := pos) (af := af) (g := g) ht h1 h2 rfl hi hf false
  | some p => rw [h] at hf; exact RO.lookup (E := E) (dd := dd) (ty := ty) (pos := pos) (af := af) (g := g) ht h1 h2 rfl hi hf false
theorem OpOK.mapSetI {t : TypeId} {o1 o2 o3 : Operand} {i : Nat} {M : IMap} {k v : Int} (ht : tyMap E.P t = some (true, .one (.d (.v (.int .i64 0))))) (h1 : ev st.tm o1 = some (.v (.one (.mp i)))) (h2 : ev st.tm o2 = some (TI k)) (h3 : ev st.tm o3 = some (TI v)) (hi : lk st.hp i = some (.mp (imE M.1) M.2)) (hdd : dd = none) :
    OpOK E ⟨dd, .mapUpdate t o1 o2 o3, ty, pos, af, g⟩ st (.tup []) ⟨(i, .mp (imE (imSet M k v).1) (imSet M k v).2) :: dropK i st.hp, st.tk, st.nx⟩ := by
  have hf := findE_im k M.1 0
  unfold imSet
  cases h : imFind k M.1 0 with
  | none =>
    rw [h] at hf
    have e : imE (M.1 ++ [(k, v, M.2)]) = imE M.1 ++ [(.int .i64 k, .one (.d (.v (.int .i64 v))), M.2)] := by simp [imE]
    dsimp only
    rw [e]; exact OpOK.mapUpdate (E := E) (dd := dd) (ty := ty) (pos := pos) (af := af) (g := g) ht h1 h2 h3 rfl hi hf hdd
  | some p =>
    rw [h] at hf
    dsimp only
    rw [imE_modify]; exact OpOK.mapUpdate (E := E) (dd := dd) (ty := ty) (pos := pos) (af := af) (g := g) ht h1 h2 h3 rfl hi hf hdd
theorem OpOK.makeMapI {t : TypeId} : OpOK E ⟨dd, .makeMap t none, ty, pos, af, g⟩ st (.v (.one (.mp st.nx))) ⟨(st.nx, .mp (imE imNil.1) imNil.2) :: st.hp, st.tk, st.nx + 1⟩ := OpOK.makeMap
end
end

section
open Go.RowKit
set_option linter.unusedSimpArgs false
set_option linter.unusedVariables false
set_option linter.unusedSectionVars false

def nodupB {α : Type} [BEq α] : List α → Bool
  | [] => true
  | x :: l => cond (l.any fun y => x == y) false (nodupB l)
theorem nodupB_ok {α : Type} [BEq α] [LawfulBEq α] : ∀ {l : List α}, nodupB l = true → l.Nodup
  | [], _ => List.nodup_nil
  | x :: l, h => by
    simp only [nodupB] at h
    cases h1 : l.any fun y => x == y with
    | true => rw [h1] at h; cases h
    | false =>
      rw [h1] at h
      refine List.nodup_cons.2 ⟨fun hx => ?_, nodupB_ok h⟩
      have : (l.any fun y => x == y) = true := List.any_eq_true.2 ⟨x, hx, by simp⟩
      rw [h1] at this; cases this

def insZ (x : Int) : List Int → List Int
  | [] => [x]
  | y :: l => cond (decide (x ≤ y)) (x :: y :: l) (y :: insZ x l)
def sortZ (l : List Int) : List Int := l.foldr insZ []
theorem insZ_perm (x : Int) : ∀ l : List Int, (insZ x l).Perm (x :: l)
  | [] => .refl _
  | y :: l => by
    simp only [insZ]
    cases decide (x ≤ y) with
    | true => exact .refl _
    | false => exact ((insZ_perm x l).cons y).trans (.swap x y l)
theorem sortZ_perm : ∀ l : List Int, (sortZ l).Perm l
  | [] => .refl _
  | x :: l => (insZ_perm x _).trans ((sortZ_perm l).cons x)
theorem insZ_sorted (x : Int) : ∀ l : List Int, l.Pairwise (· ≤ ·) → (insZ x l).Pairwise (· ≤ ·)
  | [], _ => by simp [insZ]
  | y :: l, h => by
    obtain ⟨h1, h2⟩ := List.pairwise_cons.1 h
    simp only [insZ]
    cases hd : decide (x ≤ y) with
    | true =>
      have hxy : x ≤ y := of_decide_eq_true hd
      refine List.pairwise_cons.2 ⟨fun z hz => ?_, h⟩
      rcases List.mem_cons.1 hz with rfl | hz
      · exact hxy
      · exact Int.le_trans hxy (h1 z hz)
    | false =>
      have hxy : ¬ x ≤ y := of_decide_eq_false hd
      refine List.pairwise_cons.2 ⟨fun z hz => ?_, insZ_sorted x l h2⟩
      rcases List.mem_cons.1 ((insZ_perm x l).mem_iff.1 hz) with rfl | hz
      · omega
      · exact h1 z hz
theorem sortZ_sorted : ∀ l : List Int, (sortZ l).Pairwise (· ≤ ·)
  | [] => .nil
  | x :: l => insZ_sorted x _ (sortZ_sorted l)
theorem mergeSort_sortZ {l l' : List Int} (h : l.Perm l') : (l.mergeSort fun x y => decide (x ≤ y)) = sortZ l' := by
  have tr : ∀ a b c : Int, (fun x y : Int => decide (x ≤ y)) a b = true → (fun x y : Int => decide (x ≤ y)) b c = true → (fun x y : Int => decide (x ≤ y)) a c = true := fun a b c h1 h2 => by simp only [decide_eq_true_eq] at *; exact Int.le_trans h1 h2
  have to : ∀ a b : Int, ((fun x y : Int => decide (x ≤ y)) a b || (fun x y : Int => decide (x ≤ y)) b a) = true := fun a b => by simp only [Bool.or_eq_true, decide_eq_true_eq]; exact Int.le_total a b
  refine List.Perm.eq_of_pairwise (le := fun a b : Int => a ≤ b) (fun a b _ _ h1 h2 => Int.le_antisymm h1 h2) ?_ (sortZ_sorted l') (((List.mergeSort_perm l _).trans h).trans (sortZ_perm l').symm)
  exact (List.pairwise_mergeSort tr to l).imp (fun h => by simpa using h)

def imKeys (M : IMap) : List Int := sortZ (M.1.map fun e => e.1)
def imOk (M : IMap) : Bool := cond (Nat.ble M.1.length 1000000) (cond (M.1.all fun e => cond (Nat.ble (e.2.2 + 1) M.2) (cond (decide (-9223372036854775808 ≤ e.1)) (decide (e.1 ≤ 9223372036854775807)) false) false) (cond (nodupB (M.1.map fun e => e.2.2)) (nodupB (M.1.map fun e => e.1)) false) false) false
end

end Go.Proofs.YtcapifnaceegmaaGreatDoor
