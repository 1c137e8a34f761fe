/- What the finishing texts of layer 1 share: how the arguments are read. -/
import Derived.Test.YtcapifnaceegmaaGreatDoorRa
import Derived.Test.YtcapifnaceegmaaGreatDoorEncs
import Derived.Test.YtcapifnaceegmaaGreatDoorRows
import Derived.Test.YtcapifnaceegmaaGreatDoorCards
import Derived.Test.YtcapifnaceegmaaGreatDoorTie
import Derived.ProofKit
import Derived.Carry
import Derived.Lay
import Derived.SevenTiedAt
namespace Go.Proofs.YtcapifnaceegmaaGreatDoor
open Go.ChangeShapes Go.WideShapes Go.ChangeAt Go.RowKit Go.WideElems
set_option linter.unusedSimpArgs false
set_option linter.unusedVariables false
set_option linter.unusedSectionVars false

theorem own : ownKnob Tryz.prog.godebug = none := by kernel_rfl
theorem laidOut : laidOutB Tryz.prog = true := by kernel_rfl
theorem cells3 : Tryz.prog.cellsOf 3 = 1 := by kernel_rfl
theorem cells22 : Tryz.prog.cellsOf 22 = 1 := by kernel_rfl
theorem cells24 : Tryz.prog.cellsOf 24 = 2 := by kernel_rfl
theorem cells69 : Tryz.prog.cellsOf 69 = 2 := by kernel_rfl
theorem opens_lv {H : Type} {enc : TypeId × Value → H} {w : World} : Opens enc Tryz.prog w 69 LV :=
  opens_pair (α := Int) (β := Int) (fun a b => (a, b)) Tryz.underlying69 (opens_int Tryz.underlying3) (opens_int Tryz.underlying3) 1 1 cells3 cells3 cells69 (fun _ => rfl) rfl rfl (fun _ _ => rfl)
theorem opens_lvl {H : Type} {enc : TypeId × Value → H} {w : World} : Opens enc Tryz.prog w 24 Lvl :=
  opens_pair (α := Int) (β := List LV) (fun a b => ⟨a, b⟩) Tryz.underlying24 (opens_int Tryz.underlying3) (opens_slice (α := LV) Tryz.underlying22 cells69 opens_lv) 1 1 cells3 cells22 cells24 (fun _ => rfl) rfl rfl (fun _ _ => rfl)
theorem opens_lvls {H : Type} {enc : TypeId × Value → H} {w : World} : Opens enc Tryz.prog w 55 (List Lvl) :=
  opens_slice (α := Lvl) Tryz.underlying55 cells24 opens_lvl
theorem opens_ints {H : Type} {enc : TypeId × Value → H} {w : World} : Opens enc Tryz.prog w 46 (List Int) :=
  opens_slice (α := Int) Tryz.underlying46 cells3 (opens_int Tryz.underlying3)

set_option maxRecDepth 100000 in
/-- a slice among the arguments -/
theorem slice_reads {H : Type} {enc : TypeId × Value → H} {α : Type} [Enc α] [EncLen α] {W : World} {base : Nat} {t e : TypeId} {v : Value} {d : DataW H} {p : List MemPlace} (ht : Tryz.prog.underlying t = some (.slice e)) (ho : Opens enc Tryz.prog W t (List α))
    (hval : Value.okWide Tryz.prog W .any base t v) (h : DataW.Trod enc Tryz.prog W 0 (fun _ => true) true t v d p) : ∃ l : List α, Reads (allS W) W (.sl (Enc.sz α) (Enc.encL l)) v := by
  obtain ⟨fuel, hf⟩ := h
  obtain ⟨l, hl⟩ := ho _ _ _ hf
  refine ⟨l, ?_⟩
  obtain ⟨u, h2, h3⟩ := hl.2 0 _ rfl
  have h4 : v.cells = #[v] := by
    have h5 := hl.1
    cases v with
    | agg cs =>
      exfalso
      obtain ⟨s, n, c, h7⟩ := okWide_slice ht hval
      cases h7
    | _ => rfl
  rw [h4] at h2
  cases h2
  exact h3

set_option maxRecDepth 100000 in
/-- a level among the arguments -/
theorem lvl_reads {H : Type} {enc : TypeId × Value → H} {W : World} {base : Nat} {v : Value} {d : DataW H} {p : List MemPlace}
    (hval : Value.okWide Tryz.prog W .any base 24 v) (h : DataW.Trod enc Tryz.prog W 0 (fun _ => true) true 24 v d p) : ∃ L : Lvl, (AV.agg (cE L)).rel (Vu.of (allS W)) W v := by
  obtain ⟨fuel, hf⟩ := h
  obtain ⟨L, hl⟩ := opens_lvl _ _ _ hf
  obtain ⟨cs, rfl, -⟩ := okWide_struct Tryz.underlying24 hval
  have hc : (Value.agg cs).cells = cs := rfl
  rw [hc] at hl
  refine ⟨L, cs, rfl, ?_, fun i x hx => ?_⟩
  · have := hl.1
    rw [Array.length_toList] at this
    rw [this, List.length_map]
  · rw [List.getElem?_map] at hx
    cases hy : (Enc.enc L)[i]? with
    | none => rw [hy] at hx; cases hx
    | some c =>
      rw [hy] at hx
      cases hx
      obtain ⟨u, hu, hr⟩ := hl.2 i c hy
      exact ⟨u, by simpa using hu, hr⟩
end Go.Proofs.YtcapifnaceegmaaGreatDoor
