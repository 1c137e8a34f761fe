/- The statement UniverseChecks is proved here: for every number of metavariables and every list of bounds the law returns true, and the arguments read behind the call as they did before; no condition. -/
import Derived.Test.YtkimijmiphkddaaMk3
import Derived.Test.YtkimijmiphkddaaRa
import Derived.Test.YtkimijmiphkddaaRows
import Derived.ProofKit
import Derived.Carry
namespace Go.Proofs.Ytkimijmiphkddaa
open Go.ChangeShapes Go.WideShapes Go.ChangeAt Go.RowKit Go.WideElems
set_option linter.unusedSimpArgs false
set_option linter.unusedVariables false
set_option linter.unusedSectionVars false

theorem own : ownKnob Try.prog.godebug = none := by kernel_rfl
theorem laidOut : laidOutB Try.prog = true := by kernel_rfl

theorem cells3 : Try.prog.cellsOf 3 = 1 := by kernel_rfl
theorem cells37 : Try.prog.cellsOf 37 = 1 := by kernel_rfl
theorem cells39 : Try.prog.cellsOf 39 = 2 := by kernel_rfl
theorem cells41 : Try.prog.cellsOf 41 = 4 := by kernel_rfl
theorem cells59 : Try.prog.cellsOf 59 = 2 := by kernel_rfl
theorem opens_lv {H : Type} {enc : TypeId × Value → H} {w : World} : Opens enc Try.prog w 59 LV :=
  opens_pair (α := Int) (β := Int) (fun a b => (a, b)) Try.underlying59 (opens_int Try.underlying3) (opens_int Try.underlying3) 1 1 cells3 cells3 cells59 (fun _ => rfl) rfl rfl (fun _ _ => rfl)
theorem opens_lvl {H : Type} {enc : TypeId × Value → H} {w : World} : Opens enc Try.prog w 39 Lvl :=
  opens_pair (α := Int) (β := List LV) (fun a b => ⟨a, b⟩) Try.underlying39 (opens_int Try.underlying3) (opens_slice (α := LV) Try.underlying37 cells59 opens_lv) 1 1 cells3 cells37 cells39 (fun _ => rfl) rfl rfl (fun _ _ => rfl)
theorem opens_bnd {H : Type} {enc : TypeId × Value → H} {w : World} : Opens enc Try.prog w 41 Bnd :=
  opens_pair (α := Lvl) (β := Lvl) (fun a b => ⟨a, b⟩) Try.underlying41 opens_lvl opens_lvl 2 2 cells39 cells39 cells41 (fun _ => rfl) rfl rfl (fun _ _ => rfl)
theorem opens_bnds {H : Type} {enc : TypeId × Value → H} {w : World} : Opens enc Try.prog w 22 (List Bnd) :=
  opens_slice (α := Bnd) Try.underlying22 cells41 opens_bnd

theorem few_short {l : List Bnd} (h : fewB l = true) : shortVs l := by
  simp only [fewB, Bool.and_eq_true, decide_eq_true_eq] at h
  refine ⟨by omega, fun b hb => ?_⟩
  have := List.all_eq_true.1 h.2 b hb
  simp only [fewP, Bool.and_eq_true, decide_eq_true_eq] at this
  omega

theorem m3_true (m : Int) (l : List Bnd) : m3 m l = some true := by
  unfold m3
  cases h : fewB l with
  | false => rfl
  | true =>
    rw [m13_eq m l (few_short h), m14_eq m l (few_short h)]
    simp

theorem law3 {W : World} (m : Int) (l : List Bnd) {v : Value} (hv : Reads (allS W) W (.sl 4 (Enc.encL l)) v) : Calls Try.prog 3 #[.int .i64 m, v] W fun e W' => e = .returned (.bool true) ∧ Below W.heap.size W W' := by
  have hF := m3_ok m l true (m3_true m l)
  refine Calls.mono (hF.2 (allS W) W #[.int .i64 m, v] (fun b o h => h) ⟨rfl, fun i y hy => ?_⟩) ?_
  · match i, hy with
    | 0, hy => cases hy; exact ⟨_, rfl, Reads.v _ rfl⟩
    | 1, hy => cases hy; exact ⟨_, rfl, hv⟩
  · rintro e W' ⟨u, S', rfl, hx, -, -, hu⟩
    have e1 : u = .bool true := by cases hu; rfl
    rw [e1]
    exact ⟨rfl, hx.os, hx.tape, hx.output, hx.size, fun k hk => hx.block k hk (fun h => h)⟩

set_option maxRecDepth 100000 in
theorem lifted (os : Os) (started : os.Started) (H : Type) (enc : TypeId × Value → H) :
    ReturnsInHanded {} Try.checked os 3 .any (Rows.universeChecksSpec.pre6 enc Try.prog Try.f3 Rows.universeChecksRow.domain false) (Rows.universeChecksSpec.post enc Try.prog Try.f3 false true false false) := by
  refine returnsInHanded_of_change (C := Try.checked) own started (by kernel_rfl) Try.func3
    (ChangeSpec.witness6 (enc := enc) (C := Try.checked) false ⟨#[], #[.int .i64 0, .slice none 0 0], []⟩ 8 (by kernel_rfl) (by kernel_rfl) (by kernel_rfl) (by kernel_rfl)) ?_
  intro W base args ds gs before hval0 hW hcnd _
  have hval : ∀ (j : Nat) t v, Try.f3.params[j]? = some t → args[j]? = some v → Value.okWide Try.prog W .any base t v := hval0
  have hW' := hW
  obtain ⟨p, q, hA0, hV, rfl, hfz, hnd⟩ := hW
  have hA : DataW.TrodAll enc Try.prog W 0 (fun _ => true) true Try.f3.params.toList args.toList ds p := hA0
  rw [Try.params3] at hA hval
  obtain ⟨v0, v1, d0, d1, p0, p1, rfl, rfl, rfl, h0, h1⟩ := trodAll_two hA
  obtain ⟨rfl, rfl⟩ := trodVars_none hV
  have h0k := h0
  have h1k := h1
  obtain ⟨a0, rfl, -, -, -⟩ := open_int Try.underlying3 (hval 0 3 v0 rfl rfl) h0
  obtain ⟨fuel, hf⟩ := h1
  obtain ⟨l, hl⟩ := opens_bnds _ _ _ hf
  have hv1 : Reads (allS W) W (.sl 4 (Enc.encL l)) v1 := by
    obtain ⟨u, h2, h3⟩ := hl.2 0 _ rfl
    have h4 : v1.cells = #[v1] := by
      have h5 := hl.1
      cases v1 with
      | agg cs =>
        exfalso
        have h6 := hval 1 22 (.agg cs) rfl rfl
        obtain ⟨s, n, c, h7⟩ := okWide_slice Try.underlying22 h6
        cases h7
      | _ => rfl
    rw [h4] at h2
    cases h2
    exact h3
  clear hA0 hval0
  simp only [List.append_nil] at hW'
  have hlt : ∀ x ∈ p0 ++ p1, x.block < W.heap.size := fun x hx => by simpa using hW'.lt x hx
  refine (law3 a0 l hv1).mono fun e W' ⟨he, hb⟩ => ?_
  subst he
  have hargs : ∀ sp : Nat → Bool, (∀ x ∈ p0 ++ p1, sp x.block = true) → DataW.TrodAll enc Try.prog W' 0 sp true [3, 22] [.int .i64 a0, v1] [d0, d1] (p0 ++ p1) := fun sp hsp =>
    trodAll_mk2 (WideElems.Trod_stays laidOut (by kernel_rfl) (of_decide_eq_true (by kernel_rfl)) h0k (fun x hx => hb.same (hlt x (by simp [hx]))) (fun x hx => hsp x (by simp [hx])))
      (WideElems.Trod_stays laidOut (by kernel_rfl) (of_decide_eq_true (by kernel_rfl)) h1k (fun x hx => hb.same (hlt x (by simp [hx]))) (fun x hx => hsp x (by simp [hx])))
  exact ⟨_, rfl, _, _, _, [], p0 ++ p1, [], hW', trodAll_mk1 (shut_bool Try.underlying4 true), hargs _ (fun x hx => by simpa using hlt x hx), rfl, hb.frame _, fun h => by cases h⟩

theorem over : Rows.universeChecksRow.holds Try.pinned (OpenSpec.ofChange Rows.universeChecksSpec) :=
  OpenClaim.holds_of_wide 3 Try.f3 rfl rfl rfl rfl rfl rfl rfl ⟨rfl, rfl, rfl, rfl, rfl⟩ rfl rfl rfl rfl rfl (by kernel_rfl) Try.func3 (by kernel_rfl)
    (of_decide_eq_true (by kernel_rfl)) (by unfold Func.isWrapper; first | (rw [if_pos (by decide +kernel)]; kernel_rfl) | (rw [if_neg (by decide +kernel)]; exact ⟨rfl, rfl⟩))
    (fun os started H enc _ => lifted os started H enc)

/-- THE STATEMENT. -/
theorem universeChecks : Rows.UniverseChecksSaid := over
#print axioms universeChecks
end Go.Proofs.Ytkimijmiphkddaa
