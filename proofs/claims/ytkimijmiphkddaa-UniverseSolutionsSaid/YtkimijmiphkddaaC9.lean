/- The statement UniverseSolutions is proved here: for every number of metavariables and every list of bounds the law returns true, and the arguments read behind the call as they did before; no condition. -/
import Derived.Test.YtkimijmiphkddaaMk9
import Derived.Test.YtkimijmiphkddaaPz
import Derived.Test.YtkimijmiphkddaaCm
namespace Go.Proofs.Ytkimijmiphkddaa
open Go.ChangeShapes Go.WideShapes Go.ChangeAt Go.RowKit Go.WideElems
set_option linter.unusedSimpArgs false
set_option linter.unusedVariables false
set_option linter.unusedSectionVars false

theorem m9_true (a0 : Nat) (a1 : List Bnd) (hb0 : a0 < 256) : m9 a0 a1 = some true := by
  unfold m9
  cases hf : fewB a1 with
  | false => rfl
  | true =>
    have hs := few_shortVs hf
    have hn : a0 % 6 ≤ 10 := by omega
    obtain ⟨e1, e2, e3⟩ := solve15 (m := ((a0 % 6 : Nat) : Int)) hs (.inl (by omega))
    simp only [Bool.not_true, cond_false]
    rw [mod6, e1, Option.bind_some]
    by_cases h : (solL ((a0 % 6 : Nat) : Int) a1).2.2 = 0
    · obtain ⟨-, -, -, -, v, -⟩ := e2 h
      have ec : (((solL ((a0 % 6 : Nat) : Int) a1).2.2) != 0) = false := by rw [h]; rfl
      have el : (((solL ((a0 % 6 : Nat) : Int) a1).1.length : Int) == ((a0 % 6 : Nat) : Int)) = true := by rw [v.len, Int.toNat_natCast]; exact beq_self_eq_true _
      rw [ec, cond_false, m24_eq v.fit hs, sol_holdsL hn hs h, Option.bind_some, el]
      rfl
    · have ec : (((solL ((a0 % 6 : Nat) : Int) a1).2.2) != 0) = true := by simpa using h
      rw [ec, cond_true, e3 h]
      rfl

theorem law9 {W : World} (a0 : Nat) (a1 : List Bnd) (hb0 : a0 < 256) {v1 : Value} (hv1 : Reads (allS W) W (.sl 4 (Enc.encL a1)) v1) : Calls Try.prog 9 #[.int .u8 a0, v1] W fun e W' => e = .returned (.bool true) ∧ Below W.heap.size W W' := by
  have hF := m9_ok a0 a1 true (m9_true a0 a1 hb0)
  refine Calls.mono (hF.2 (allS W) W #[.int .u8 a0, v1] (fun b o h => h) ⟨rfl, fun i y hy => ?_⟩) ?_
  · match i, hy with
    | 0, hy => cases hy; exact ⟨_, rfl, Reads.v _ rfl⟩
    | 1, hy => cases hy; exact ⟨_, rfl, hv1⟩
  · rintro e W' ⟨u, S', rfl, hx, -, -, hu⟩
    have e1 : u = .bool true := by cases hu; rfl
    rw [e1]
    exact ⟨rfl, hx.os, hx.tape, hx.output, hx.size, fun k hk => hx.block k hk (fun h => h)⟩

set_option maxRecDepth 100000 in
set_option maxHeartbeats 1000000 in
theorem lifted (os : Os) (started : os.Started) (H : Type) (enc : TypeId × Value → H) :
    ReturnsInHanded {} Try.checked os 9 .any (Rows.universeSolutionsSpec.pre6 enc Try.prog Try.f9 Rows.universeSolutionsRow.domain false) (Rows.universeSolutionsSpec.post enc Try.prog Try.f9 false true false false) := by
  refine returnsInHanded_of_change (C := Try.checked) own started (by kernel_rfl) Try.func9
    (ChangeSpec.witness6 (enc := enc) (C := Try.checked) false ⟨#[], #[.int .u8 0, .slice none 0 0], []⟩ 8 (by kernel_rfl) (by kernel_rfl) (by kernel_rfl) (by kernel_rfl)) ?_
  intro W base args ds gs before hval0 hW hcnd _
  have hval : ∀ (j : Nat) t v, Try.f9.params[j]? = some t → args[j]? = some v → Value.okWide Try.prog W .any base t v := hval0
  have hW' := hW
  obtain ⟨p, q, hA0, hV, rfl, hfz, hnd⟩ := hW
  have hA : DataW.TrodAll enc Try.prog W 0 (fun _ => true) true Try.f9.params.toList args.toList ds p := hA0
  rw [Try.params9] at hA hval
  obtain ⟨v0, v1, d0, d1, p0, p1, rfl, rfl, rfl, h0, h1⟩ := trodAll_two hA
  obtain ⟨rfl, rfl⟩ := trodVars_none hV
  have h0k := h0
  have h1k := h1
  obtain ⟨n0, rfl, -, -, hw0⟩ := open_int Try.underlying5 (hval 0 5 v0 rfl rfl) h0
  obtain ⟨a0, rfl, hb0⟩ := u8_nat hw0
  obtain ⟨a1, hv1⟩ := slice_reads Try.underlying22 opens_bnds (hval 1 22 v1 rfl rfl) h1
  clear hA0 hval0
  simp only [List.append_nil] at hW'
  have hlt : ∀ x ∈ p0 ++ p1, x.block < W.heap.size := fun x hx => by simpa using hW'.lt x hx
  refine (law9 a0 a1 hb0 hv1).mono fun e W' ⟨he, hb⟩ => ?_
  subst he
  have hargs : ∀ sp : Nat → Bool, (∀ x ∈ p0 ++ p1, sp x.block = true) → DataW.TrodAll enc Try.prog W' 0 sp true [5, 22] [.int .u8 a0, v1] [d0, d1] (p0 ++ p1) := fun sp hsp =>
    trodAll_mk2 (WideElems.Trod_stays laidOut (by kernel_rfl) (of_decide_eq_true (by kernel_rfl)) h0k (fun x hx => hb.same (hlt x (by simp [hx]))) (fun x hx => hsp x (by simp [hx]))) (WideElems.Trod_stays laidOut (by kernel_rfl) (of_decide_eq_true (by kernel_rfl)) h1k (fun x hx => hb.same (hlt x (by simp [hx]))) (fun x hx => hsp x (by simp [hx])))
  exact ⟨_, rfl, _, _, _, [], p0 ++ p1, [], hW', trodAll_mk1 (shut_bool Try.underlying4 true), hargs _ (fun x hx => by simpa using hlt x hx), rfl, hb.frame _, fun h => by cases h⟩

theorem over : Rows.universeSolutionsRow.holds Try.pinned (OpenSpec.ofChange Rows.universeSolutionsSpec) :=
  OpenClaim.holds_of_wide 9 Try.f9 rfl rfl rfl rfl rfl rfl rfl ⟨rfl, rfl, rfl, rfl, rfl⟩ rfl rfl rfl rfl rfl (by kernel_rfl) Try.func9 (by kernel_rfl)
    (of_decide_eq_true (by kernel_rfl)) (by unfold Func.isWrapper; first | (rw [if_pos (by decide +kernel)]; kernel_rfl) | (rw [if_neg (by decide +kernel)]; exact ⟨rfl, rfl⟩))
    (fun os started H enc _ => lifted os started H enc)

/-- THE STATEMENT. -/
theorem universeSolutions : Rows.UniverseSolutionsSaid := over
#print axioms universeSolutions
end Go.Proofs.Ytkimijmiphkddaa
