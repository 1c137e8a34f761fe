/- What the finishing texts of layer 2 share: how the arguments are read. -/
import Derived.Test.YtkimijmiphkddaaRa
import Derived.Test.YtkimijmiphkddaaPb
import Derived.Test.YtkimijmiphkddaaRows
import Derived.ProofKit
import Derived.Carry
namespace Go.Proofs.Ytkimijmiphkddaa
open Go.ChangeShapes Go.WideShapes Go.ChangeAt Go.RowKit Go.WideElems
set_option linter.unusedSimpArgs false
set_option linter.unusedVariables false
set_option linter.unusedSectionVars false

theorem own : ownKnob Try.prog.godebug = none := by kernel_rfl
theorem laidOut : laidOutB Try.prog = true := by kernel_rfl

theorem cells3 : Try.prog.cellsOf 3 = 1 := by kernel_rfl
theorem cells37 : Try.prog.cellsOf 37 = 1 := by kernel_rfl
theorem cells39 : Try.prog.cellsOf 39 = 2 := by kernel_rfl
theorem cells41 : Try.prog.cellsOf 41 = 4 := by kernel_rfl
theorem cells59 : Try.prog.cellsOf 59 = 2 := by kernel_rfl
theorem opens_lv {H : Type} {enc : TypeId × Value → H} {w : World} : Opens enc Try.prog w 59 LV :=
  opens_pair (α := Int) (β := Int) (fun a b => (a, b)) Try.underlying59 (opens_int Try.underlying3) (opens_int Try.underlying3) 1 1 cells3 cells3 cells59 (fun _ => rfl) rfl rfl (fun _ _ => rfl)
theorem opens_lvl {H : Type} {enc : TypeId × Value → H} {w : World} : Opens enc Try.prog w 39 Lvl :=
  opens_pair (α := Int) (β := List LV) (fun a b => ⟨a, b⟩) Try.underlying39 (opens_int Try.underlying3) (opens_slice (α := LV) Try.underlying37 cells59 opens_lv) 1 1 cells3 cells37 cells39 (fun _ => rfl) rfl rfl (fun _ _ => rfl)
theorem opens_bnd {H : Type} {enc : TypeId × Value → H} {w : World} : Opens enc Try.prog w 41 Bnd :=
  opens_pair (α := Lvl) (β := Lvl) (fun a b => ⟨a, b⟩) Try.underlying41 opens_lvl opens_lvl 2 2 cells39 cells39 cells41 (fun _ => rfl) rfl rfl (fun _ _ => rfl)
theorem opens_bnds {H : Type} {enc : TypeId × Value → H} {w : World} : Opens enc Try.prog w 22 (List Bnd) :=
  opens_slice (α := Bnd) Try.underlying22 cells41 opens_bnd
theorem opens_lvls {H : Type} {enc : TypeId × Value → H} {w : World} : Opens enc Try.prog w 31 (List Lvl) :=
  opens_slice (α := Lvl) Try.underlying31 cells39 opens_lvl

set_option maxRecDepth 100000 in
/-- a slice among the arguments -/
theorem slice_reads {H : Type} {enc : TypeId × Value → H} {α : Type} [Enc α] [EncLen α] {W : World} {base : Nat} {t e : TypeId} {v : Value} {d : DataW H} {p : List MemPlace} (ht : Try.prog.underlying t = some (.slice e)) (ho : Opens enc Try.prog W t (List α))
    (hval : Value.okWide Try.prog W .any base t v) (h : DataW.Trod enc Try.prog W 0 (fun _ => true) true t v d p) : ∃ l : List α, Reads (allS W) W (.sl (Enc.sz α) (Enc.encL l)) v := by
  obtain ⟨fuel, hf⟩ := h
  obtain ⟨l, hl⟩ := ho _ _ _ hf
  refine ⟨l, ?_⟩
  obtain ⟨u, h2, h3⟩ := hl.2 0 _ rfl
  have h4 : v.cells = #[v] := by
    have h5 := hl.1
    cases v with
    | agg cs =>
      exfalso
      obtain ⟨s, n, c, h7⟩ := okWide_slice ht hval
      cases h7
    | _ => rfl
  rw [h4] at h2
  cases h2
  exact h3

theorem few_short {l : List Bnd} (h : fewB l = true) : shortVs l := by
  simp only [fewB, Bool.and_eq_true, decide_eq_true_eq] at h
  refine ⟨by omega, fun b hb => ?_⟩
  have := List.all_eq_true.1 h.2 b hb
  simp only [fewP, Bool.and_eq_true, decide_eq_true_eq] at this
  omega
theorem u8_nat {n : Int} (h : (Lit.int .u8 n).wf = true) : ∃ m : Nat, n = (m : Int) ∧ m < 256 := by
  simp only [Lit.wf, IntKind.min, IntKind.max, IntKind.signed, IntKind.bits, Bool.and_eq_true, decide_eq_true_eq, Bool.false_eq_true, if_false] at h
  exact ⟨n.toNat, by omega, by omega⟩
end Go.Proofs.Ytkimijmiphkddaa
