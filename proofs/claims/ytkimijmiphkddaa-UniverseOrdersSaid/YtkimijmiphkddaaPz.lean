/- Plain laws: the laws of solutions, of least solutions and of repeated bounds. -/
import Derived.Test.YtkimijmiphkddaaPv
import Derived.Test.YtkimijmiphkddaaPy
namespace Go.Proofs.Ytkimijmiphkddaa
open Go.RowKit
set_option linter.unusedSimpArgs false
set_option linter.unusedVariables false

theorem shortB_fit {l : List Lvl} (h : shortB l = true) : fitB l := by
  simp only [shortB, Bool.and_eq_true, decide_eq_true_eq] at h
  refine ⟨by omega, fun x hx => ?_⟩
  have := List.all_eq_true.1 h.2 x hx
  simp only [shortP, decide_eq_true_eq] at this
  omega
theorem mod6 (n : Nat) : w64 (Int.tmod (n : Int) 6) = ((n % 6 : Nat) : Int) := by
  have e : Int.tmod (n : Int) 6 = ((n % 6 : Nat) : Int) := (Int.ofNat_tmod n 6).symm
  have : n % 6 < 6 := Nat.mod_lt _ (by decide)
  rw [e, w64_id (by omega) (by omega)]

/-- the solution of bounds, where there is one, holds for them -/
theorem sol_holdsL {n : Nat} (hn : n ≤ 10) {bs : List Bnd} (hs : shortVs bs) (h : (solL n bs).2.2 = 0) : holdsL (solL n bs).1 bs = (true, 0) := by
  obtain ⟨h1, -, -, -, h4, -⟩ := (solve15 hs (.inl (by omega))).2.1 h
  refine holdsL_true.2 ⟨List.all_eq_true.2 h4.val, ?_, sol_holds hs (.inl (by omega)) h⟩
  rw [h4.len, Int.toNat_natCast]; exact h1
end Go.Proofs.Ytkimijmiphkddaa
