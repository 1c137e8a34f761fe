/- The statement UniverseOrders is proved here: for every number of metavariables, every list of bounds and every index the law returns true, and the arguments read behind the call as they did before; no condition. -/
import Derived.Test.YtkimijmiphkddaaMk7
import Derived.Test.YtkimijmiphkddaaPz1
import Derived.Test.YtkimijmiphkddaaCm
namespace Go.Proofs.Ytkimijmiphkddaa
open Go.ChangeShapes Go.WideShapes Go.ChangeAt Go.RowKit Go.WideElems
set_option linter.unusedSimpArgs false
set_option linter.unusedVariables false
set_option linter.unusedSectionVars false

theorem m7_true (a0 : Nat) (a1 : List Bnd) (a2 : Nat) (hb0 : a0 < 256) (hb2 : a2 < 256) : m7 a0 a1 a2 = some true := by
  unfold m7
  cases hf : fewB a1 with
  | false => rfl
  | true =>
    have hs := few_shortVs hf
    cases a1 with
    | nil => rfl
    | cons b0 bs0 =>
      generalize hbs : b0 :: bs0 = bs at hf hs ⊢
      have hpos : 0 < bs.length := by rw [← hbs]; simp
      have e0 : ((bs.length : Int) == 0) = false := by simp; intro h; rw [h] at hpos; cases hpos
      simp only [Bool.not_true, cond_false, e0]
      rw [m22_eq hs, Option.bind_some]
      cases h1 : bs.all oneB with
      | false => rfl
      | true =>
        have hn : a0 % 6 ≤ 10 := by omega
        obtain ⟨e1, e2, e3⟩ := solve15 (m := ((a0 % 6 : Nat) : Int)) hs (.inl (by omega))
        simp only [Bool.not_true, Option.bind_some, cond_false]
        rw [mod6, e1, Option.bind_some]
        by_cases h : (solL ((a0 % 6 : Nat) : Int) bs).2.2 = 0
        · obtain ⟨-, -, -, -, v, -⟩ := e2 h
          have ec : (((solL ((a0 % 6 : Nat) : Int) bs).2.2) != 0) = false := by rw [h]; rfl
          have ei : Int.tmod (w64 (a2 : Int)) (bs.length : Int) = ((a2 % bs.length : Nat) : Int) := by
            rw [w64_id (by omega) (by omega)]; exact (Int.ofNat_tmod a2 bs.length).symm
          obtain ⟨b, hb⟩ : ∃ b, bs[a2 % bs.length]? = some b := ⟨_, List.getElem?_eq_getElem (Nat.mod_lt _ hpos)⟩
          have hbm := List.mem_of_getElem? hb
          have hs2 : shortVs (bs ++ [b]) := by
            simp only [fewB, Bool.and_eq_true, decide_eq_true_eq] at hf
            refine ⟨by rw [List.length_append, List.length_singleton]; omega, fun x hx => ?_⟩
            rcases List.mem_append.1 hx with hx | hx
            · exact hs.2 x hx
            · simp at hx; rw [hx]; exact hs.2 b hbm
          have hlen : bs.length ≤ 100000 := hs.1
          have e4 := (solve15 (m := ((a0 % 6 : Nat) : Int)) hs2 (.inl (by omega))).1
          rw [ec, cond_false, show (!false) = true from rfl, guard_t (b := true) rfl, guard_t (ble_t (by simp only [List.length_nil]; omega)), ei, idx_nat (Int.natCast_nonneg _) (by rw [Int.toNat_natCast]; exact hb), Option.bind_some, guard_t (ble_t (by simp only [List.nil_append, List.length_cons, List.length_nil]; omega)), List.nil_append, e4, Option.bind_some, sol_twice hn hs (all_one h1) hbm hs2 h]
          have hr := m17_refl (l := (solL ((a0 % 6 : Nat) : Int) bs).1) (by rw [v.len, Int.toNat_natCast]; omega) (fun L hL => by have := v.fit.2 L hL; omega)
          dsimp only
          rw [hr]
          rfl
        · have ec : (((solL ((a0 % 6 : Nat) : Int) bs).2.2) != 0) = true := by simpa using h
          rw [ec, cond_true]

theorem law7 {W : World} (a0 : Nat) (a1 : List Bnd) (a2 : Nat) (hb0 : a0 < 256) (hb2 : a2 < 256) {v1 : Value} (hv1 : Reads (allS W) W (.sl 4 (Enc.encL a1)) v1) : Calls Try.prog 7 #[.int .u8 a0, v1, .int .u8 a2] W fun e W' => e = .returned (.bool true) ∧ Below W.heap.size W W' := by
  have hF := m7_ok a0 a1 a2 true (m7_true a0 a1 a2 hb0 hb2)
  refine Calls.mono (hF.2 (allS W) W #[.int .u8 a0, v1, .int .u8 a2] (fun b o h => h) ⟨rfl, fun i y hy => ?_⟩) ?_
  · match i, hy with
    | 0, hy => cases hy; exact ⟨_, rfl, Reads.v _ rfl⟩
    | 1, hy => cases hy; exact ⟨_, rfl, hv1⟩
    | 2, hy => cases hy; exact ⟨_, rfl, Reads.v _ rfl⟩
  · rintro e W' ⟨u, S', rfl, hx, -, -, hu⟩
    have e1 : u = .bool true := by cases hu; rfl
    rw [e1]
    exact ⟨rfl, hx.os, hx.tape, hx.output, hx.size, fun k hk => hx.block k hk (fun h => h)⟩

set_option maxRecDepth 100000 in
set_option maxHeartbeats 1000000 in
theorem lifted (os : Os) (started : os.Started) (H : Type) (enc : TypeId × Value → H) :
    ReturnsInHanded {} Try.checked os 7 .any (Rows.universeOrdersSpec.pre6 enc Try.prog Try.f7 Rows.universeOrdersRow.domain false) (Rows.universeOrdersSpec.post enc Try.prog Try.f7 false true false false) := by
  refine returnsInHanded_of_change (C := Try.checked) own started (by kernel_rfl) Try.func7
    (ChangeSpec.witness6 (enc := enc) (C := Try.checked) false ⟨#[], #[.int .u8 0, .slice none 0 0, .int .u8 0], []⟩ 8 (by kernel_rfl) (by kernel_rfl) (by kernel_rfl) (by kernel_rfl)) ?_
  intro W base args ds gs before hval0 hW hcnd _
  have hval : ∀ (j : Nat) t v, Try.f7.params[j]? = some t → args[j]? = some v → Value.okWide Try.prog W .any base t v := hval0
  have hW' := hW
  obtain ⟨p, q, hA0, hV, rfl, hfz, hnd⟩ := hW
  have hA : DataW.TrodAll enc Try.prog W 0 (fun _ => true) true Try.f7.params.toList args.toList ds p := hA0
  rw [Try.params7] at hA hval
  obtain ⟨v0, v1, v2, d0, d1, d2, p0, p1, p2, rfl, rfl, rfl, h0, h1, h2⟩ := trodAll_three hA
  obtain ⟨rfl, rfl⟩ := trodVars_none hV
  have h0k := h0
  have h1k := h1
  have h2k := h2
  obtain ⟨n0, rfl, -, -, hw0⟩ := open_int Try.underlying5 (hval 0 5 v0 rfl rfl) h0
  obtain ⟨a0, rfl, hb0⟩ := u8_nat hw0
  obtain ⟨a1, hv1⟩ := slice_reads Try.underlying22 opens_bnds (hval 1 22 v1 rfl rfl) h1
  obtain ⟨n2, rfl, -, -, hw2⟩ := open_int Try.underlying5 (hval 2 5 v2 rfl rfl) h2
  obtain ⟨a2, rfl, hb2⟩ := u8_nat hw2
  clear hA0 hval0
  simp only [List.append_nil, List.append_assoc] at hW'
  have hlt : ∀ x ∈ p0 ++ (p1 ++ p2), x.block < W.heap.size := fun x hx => by simpa using hW'.lt x hx
  refine (law7 a0 a1 a2 hb0 hb2 hv1).mono fun e W' ⟨he, hb⟩ => ?_
  subst he
  have hargs : ∀ sp : Nat → Bool, (∀ x ∈ p0 ++ (p1 ++ p2), sp x.block = true) → DataW.TrodAll enc Try.prog W' 0 sp true [5, 22, 5] [.int .u8 a0, v1, .int .u8 a2] [d0, d1, d2] (p0 ++ (p1 ++ p2)) := fun sp hsp =>
    trodAll_mk3 (WideElems.Trod_stays laidOut (by kernel_rfl) (of_decide_eq_true (by kernel_rfl)) h0k (fun x hx => hb.same (hlt x (by simp [hx]))) (fun x hx => hsp x (by simp [hx]))) (WideElems.Trod_stays laidOut (by kernel_rfl) (of_decide_eq_true (by kernel_rfl)) h1k (fun x hx => hb.same (hlt x (by simp [hx]))) (fun x hx => hsp x (by simp [hx]))) (WideElems.Trod_stays laidOut (by kernel_rfl) (of_decide_eq_true (by kernel_rfl)) h2k (fun x hx => hb.same (hlt x (by simp [hx]))) (fun x hx => hsp x (by simp [hx])))
  exact ⟨_, rfl, _, _, _, [], p0 ++ (p1 ++ p2), [], hW', trodAll_mk1 (shut_bool Try.underlying4 true), hargs _ (fun x hx => by simpa using hlt x hx), rfl, hb.frame _, fun h => by cases h⟩

theorem over : Rows.universeOrdersRow.holds Try.pinned (OpenSpec.ofChange Rows.universeOrdersSpec) :=
  OpenClaim.holds_of_wide 7 Try.f7 rfl rfl rfl rfl rfl rfl rfl ⟨rfl, rfl, rfl, rfl, rfl⟩ rfl rfl rfl rfl rfl (by kernel_rfl) Try.func7 (by kernel_rfl)
    (of_decide_eq_true (by kernel_rfl)) (by unfold Func.isWrapper; first | (rw [if_pos (by decide +kernel)]; kernel_rfl) | (rw [if_neg (by decide +kernel)]; exact ⟨rfl, rfl⟩))
    (fun os started H enc _ => lifted os started H enc)

/-- THE STATEMENT. -/
theorem universeOrders : Rows.UniverseOrdersSaid := over
#print axioms universeOrders
end Go.Proofs.Ytkimijmiphkddaa
