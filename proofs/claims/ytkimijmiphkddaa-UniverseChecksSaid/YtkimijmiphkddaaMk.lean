/- The keys of a map, sorted; whether a map is in order. -/
import Derived.Test.YtkimijmiphkddaaMaps
namespace Go.Proofs.Ytkimijmiphkddaa
open Go.RowKit
set_option linter.unusedSimpArgs false
set_option linter.unusedVariables false
set_option linter.unusedSectionVars false

def nodupB {α : Type} [BEq α] : List α → Bool
  | [] => true
  | x :: l => cond (l.any fun y => x == y) false (nodupB l)
theorem nodupB_ok {α : Type} [BEq α] [LawfulBEq α] : ∀ {l : List α}, nodupB l = true → l.Nodup
  | [], _ => List.nodup_nil
  | x :: l, h => by
    simp only [nodupB] at h
    cases h1 : l.any fun y => x == y with
    | true => rw [h1] at h; cases h
    | false =>
      rw [h1] at h
      refine List.nodup_cons.2 ⟨fun hx => ?_, nodupB_ok h⟩
      have : (l.any fun y => x == y) = true := List.any_eq_true.2 ⟨x, hx, by simp⟩
      rw [h1] at this; cases this

def insZ (x : Int) : List Int → List Int
  | [] => [x]
  | y :: l => cond (decide (x ≤ y)) (x :: y :: l) (y :: insZ x l)
def sortZ (l : List Int) : List Int := l.foldr insZ []
theorem insZ_perm (x : Int) : ∀ l : List Int, (insZ x l).Perm (x :: l)
  | [] => .refl _
  | y :: l => by
    simp only [insZ]
    cases decide (x ≤ y) with
    | true => exact .refl _
    | false => exact ((insZ_perm x l).cons y).trans (.swap x y l)
theorem sortZ_perm : ∀ l : List Int, (sortZ l).Perm l
  | [] => .refl _
  | x :: l => (insZ_perm x _).trans ((sortZ_perm l).cons x)
theorem insZ_sorted (x : Int) : ∀ l : List Int, l.Pairwise (· ≤ ·) → (insZ x l).Pairwise (· ≤ ·)
  | [], _ => by simp [insZ]
  | y :: l, h => by
    obtain ⟨h1, h2⟩ := List.pairwise_cons.1 h
    simp only [insZ]
    cases hd : decide (x ≤ y) with
    | true =>
      have hxy : x ≤ y := of_decide_eq_true hd
      refine List.pairwise_cons.2 ⟨fun z hz => ?_, h⟩
      rcases List.mem_cons.1 hz with rfl | hz
      · exact hxy
      · exact Int.le_trans hxy (h1 z hz)
    | false =>
      have hxy : ¬ x ≤ y := of_decide_eq_false hd
      refine List.pairwise_cons.2 ⟨fun z hz => ?_, insZ_sorted x l h2⟩
      rcases List.mem_cons.1 ((insZ_perm x l).mem_iff.1 hz) with rfl | hz
      · omega
      · exact h1 z hz
theorem sortZ_sorted : ∀ l : List Int, (sortZ l).Pairwise (· ≤ ·)
  | [] => .nil
  | x :: l => insZ_sorted x _ (sortZ_sorted l)
theorem mergeSort_sortZ {l l' : List Int} (h : l.Perm l') : (l.mergeSort fun x y => decide (x ≤ y)) = sortZ l' := by
  have tr : ∀ a b c : Int, (fun x y : Int => decide (x ≤ y)) a b = true → (fun x y : Int => decide (x ≤ y)) b c = true → (fun x y : Int => decide (x ≤ y)) a c = true := fun a b c h1 h2 => by simp only [decide_eq_true_eq] at *; exact Int.le_trans h1 h2
  have to : ∀ a b : Int, ((fun x y : Int => decide (x ≤ y)) a b || (fun x y : Int => decide (x ≤ y)) b a) = true := fun a b => by simp only [Bool.or_eq_true, decide_eq_true_eq]; exact Int.le_total a b
  refine List.Perm.eq_of_pairwise (le := fun a b : Int => a ≤ b) (fun a b _ _ h1 h2 => Int.le_antisymm h1 h2) ?_ (sortZ_sorted l') (((List.mergeSort_perm l _).trans h).trans (sortZ_perm l').symm)
  exact (List.pairwise_mergeSort tr to l).imp (fun h => by simpa using h)

def imKeys (M : IMap) : List Int := sortZ (M.1.map fun e => e.1)
def imOk (M : IMap) : Bool := cond (Nat.ble M.1.length 1000000) (cond (M.1.all fun e => cond (Nat.ble (e.2.2 + 1) M.2) (cond (decide (-9223372036854775808 ≤ e.1)) (decide (e.1 ≤ 9223372036854775807)) false) false) (cond (nodupB (M.1.map fun e => e.2.2)) (nodupB (M.1.map fun e => e.1)) false) false) false

end Go.Proofs.Ytkimijmiphkddaa
