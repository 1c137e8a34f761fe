/- The statement UniverseLeast is proved here: for all values and every list of bounds the law returns true, and the arguments read behind the call as they did before; no condition. -/
import Derived.Test.YtkimijmiphkddaaMk10
import Derived.Test.YtkimijmiphkddaaPz1
import Derived.Test.YtkimijmiphkddaaCm
namespace Go.Proofs.Ytkimijmiphkddaa
open Go.ChangeShapes Go.WideShapes Go.ChangeAt Go.RowKit Go.WideElems
set_option linter.unusedSimpArgs false
set_option linter.unusedVariables false
set_option linter.unusedSectionVars false

theorem m10_true (a0 : List Lvl) (a1 : List Bnd) : m10 a0 a1 = some true := by
  unfold m10
  cases hf : fewB a1 with
  | false => rfl
  | true =>
    cases hg : shortB a0 with
    | false => rfl
    | true =>
      have hs := few_shortVs hf
      have hfit := shortB_fit hg
      simp only [Bool.not_true, cond_false]
      rw [m22_eq hs, Option.bind_some]
      cases h1 : a1.all oneB with
      | false => rfl
      | true =>
        rw [m24_eq hfit hs]
        simp only [Bool.not_true, Option.bind_some, cond_false]
        by_cases hh : holdsL a0 a1 = (true, 0)
        · obtain ⟨k1, k2, k3⟩ := holdsL_true.1 hh
          have hl : a0.length ≤ 10 := by
            simp only [shortB, Bool.and_eq_true, decide_eq_true_eq] at hg
            exact hg.1
          have hw : Vals ((a0.length : Int)).toNat a0 := ⟨by rw [Int.toNat_natCast], fun w hw => List.all_eq_true.1 k1 w hw, by rw [Int.toNat_natCast]; omega⟩
          obtain ⟨e1, l1⟩ := least k2 (all_one h1) hw k3
          have e2 : (solL (a0.length : Int) a1).2.2 = 0 := by rw [e1]
          obtain ⟨s1, s2, -⟩ := solve15 (m := (a0.length : Int)) hs (.inl (by omega))
          obtain ⟨-, -, -, -, v, -⟩ := s2 e2
          have vl : (solL (a0.length : Int) a1).1.length = a0.length := by rw [v.len, Int.toNat_natCast]
          rw [hh, s1]
          simp only [Option.bind_some]
          have key := scan_loop (step := m10_l0 (solL (a0.length : Int) a1) a0) (l := (solL (a0.length : Int) a1).1) (β := Bool) (fun _ _ => none) (by omega) (fun k x hx => by
            have hk := (List.getElem?_eq_some_iff.1 hx).1
            obtain ⟨y, hy⟩ : ∃ y, a0[k]? = some y := ⟨_, List.getElem?_eq_getElem (by omega)⟩
            have vx := (valB_iff.1 (v.val x (List.mem_of_getElem? hx))).1
            have vy := (valB_iff.1 (hw.val y (List.mem_of_getElem? hy))).1
            unfold m10_l0
            rw [decide_eq_true (by omega : (k : Int) < (solL (a0.length : Int) a1).1.length), cond_true, idx_nat (Int.natCast_nonneg _) (by simpa using hx), Option.bind_some, idx_nat (Int.natCast_nonneg _) (by simpa using hy), Option.bind_some, guard_t (by rw [ble_t (wf_valid vx).len, cond_true]; exact ble_t (wf_valid vy).len), leqB_iff.2 ⟨vx, vy, l1.2 k x y hx hy⟩]
            rfl) (by unfold m10_l0; rw [decide_eq_false (by omega), cond_false])
          rw [e2, vl, key, firstR_none]
          simp [sumR]
        · have : cond ((holdsL a0 a1).2 != 0) (some true) (some (!(holdsL a0 a1).1)) = some true := by
            by_cases h2 : (holdsL a0 a1).2 = 0
            · cases h3 : (holdsL a0 a1).1 with
              | true => exact absurd (Prod.ext h3 h2) hh
              | false => rw [h2]; rfl
            · rw [show ((holdsL a0 a1).2 != 0) = true by simpa using h2, cond_true]
          rw [this]
          rfl

theorem law10 {W : World} (a0 : List Lvl) (a1 : List Bnd)  {v0 : Value} (hv0 : Reads (allS W) W (.sl 2 (Enc.encL a0)) v0) {v1 : Value} (hv1 : Reads (allS W) W (.sl 4 (Enc.encL a1)) v1) : Calls Try.prog 10 #[v0, v1] W fun e W' => e = .returned (.bool true) ∧ Below W.heap.size W W' := by
  have hF := m10_ok a0 a1 true (m10_true a0 a1)
  refine Calls.mono (hF.2 (allS W) W #[v0, v1] (fun b o h => h) ⟨rfl, fun i y hy => ?_⟩) ?_
  · match i, hy with
    | 0, hy => cases hy; exact ⟨_, rfl, hv0⟩
    | 1, hy => cases hy; exact ⟨_, rfl, hv1⟩
  · rintro e W' ⟨u, S', rfl, hx, -, -, hu⟩
    have e1 : u = .bool true := by cases hu; rfl
    rw [e1]
    exact ⟨rfl, hx.os, hx.tape, hx.output, hx.size, fun k hk => hx.block k hk (fun h => h)⟩

set_option maxRecDepth 100000 in
set_option maxHeartbeats 1000000 in
theorem lifted (os : Os) (started : os.Started) (H : Type) (enc : TypeId × Value → H) :
    ReturnsInHanded {} Try.checked os 10 .any (Rows.universeLeastSpec.pre6 enc Try.prog Try.f10 Rows.universeLeastRow.domain false) (Rows.universeLeastSpec.post enc Try.prog Try.f10 false true false false) := by
  refine returnsInHanded_of_change (C := Try.checked) own started (by kernel_rfl) Try.func10
    (ChangeSpec.witness6 (enc := enc) (C := Try.checked) false ⟨#[], #[.slice none 0 0, .slice none 0 0], []⟩ 8 (by kernel_rfl) (by kernel_rfl) (by kernel_rfl) (by kernel_rfl)) ?_
  intro W base args ds gs before hval0 hW hcnd _
  have hval : ∀ (j : Nat) t v, Try.f10.params[j]? = some t → args[j]? = some v → Value.okWide Try.prog W .any base t v := hval0
  have hW' := hW
  obtain ⟨p, q, hA0, hV, rfl, hfz, hnd⟩ := hW
  have hA : DataW.TrodAll enc Try.prog W 0 (fun _ => true) true Try.f10.params.toList args.toList ds p := hA0
  rw [Try.params10] at hA hval
  obtain ⟨v0, v1, d0, d1, p0, p1, rfl, rfl, rfl, h0, h1⟩ := trodAll_two hA
  obtain ⟨rfl, rfl⟩ := trodVars_none hV
  have h0k := h0
  have h1k := h1
  obtain ⟨a0, hv0⟩ := slice_reads Try.underlying31 opens_lvls (hval 0 31 v0 rfl rfl) h0
  obtain ⟨a1, hv1⟩ := slice_reads Try.underlying22 opens_bnds (hval 1 22 v1 rfl rfl) h1
  clear hA0 hval0
  simp only [List.append_nil] at hW'
  have hlt : ∀ x ∈ p0 ++ p1, x.block < W.heap.size := fun x hx => by simpa using hW'.lt x hx
  refine (law10 a0 a1 hv0 hv1).mono fun e W' ⟨he, hb⟩ => ?_
  subst he
  have hargs : ∀ sp : Nat → Bool, (∀ x ∈ p0 ++ p1, sp x.block = true) → DataW.TrodAll enc Try.prog W' 0 sp true [31, 22] [v0, v1] [d0, d1] (p0 ++ p1) := fun sp hsp =>
    trodAll_mk2 (WideElems.Trod_stays laidOut (by kernel_rfl) (of_decide_eq_true (by kernel_rfl)) h0k (fun x hx => hb.same (hlt x (by simp [hx]))) (fun x hx => hsp x (by simp [hx]))) (WideElems.Trod_stays laidOut (by kernel_rfl) (of_decide_eq_true (by kernel_rfl)) h1k (fun x hx => hb.same (hlt x (by simp [hx]))) (fun x hx => hsp x (by simp [hx])))
  exact ⟨_, rfl, _, _, _, [], p0 ++ p1, [], hW', trodAll_mk1 (shut_bool Try.underlying4 true), hargs _ (fun x hx => by simpa using hlt x hx), rfl, hb.frame _, fun h => by cases h⟩

theorem over : Rows.universeLeastRow.holds Try.pinned (OpenSpec.ofChange Rows.universeLeastSpec) :=
  OpenClaim.holds_of_wide 10 Try.f10 rfl rfl rfl rfl rfl rfl rfl ⟨rfl, rfl, rfl, rfl, rfl⟩ rfl rfl rfl rfl rfl (by kernel_rfl) Try.func10 (by kernel_rfl)
    (of_decide_eq_true (by kernel_rfl)) (by unfold Func.isWrapper; first | (rw [if_pos (by decide +kernel)]; kernel_rfl) | (rw [if_neg (by decide +kernel)]; exact ⟨rfl, rfl⟩))
    (fun os started H enc _ => lifted os started H enc)

/-- THE STATEMENT. -/
theorem universeLeast : Rows.UniverseLeastSaid := over
#print axioms universeLeast
end Go.Proofs.Ytkimijmiphkddaa
