/- The card of LevelValues is proved here: for all levels and values the law returns true, and the arguments read behind the call as they did before; condition: the listed package-level variables hold what the program's text lays (tied). -/
import Derived.Test.YtcapifnaceegmaaGreatDoorPl10
import Derived.Test.YtcapifnaceegmaaGreatDoorCn
import Derived.Test.YtcapifnaceegmaaGreatDoorCm
namespace Go.Proofs.YtcapifnaceegmaaGreatDoor
open Go.ChangeShapes Go.WideShapes Go.ChangeAt Go.RowKit Go.WideElems
set_option linter.unusedSimpArgs false
set_option linter.unusedVariables false
set_option linter.unusedSectionVars false

theorem m10_true (a0 a1 : Lvl) (a2 : Vls) (hn : (0 ≤ a2.u ∧ a2.u < 256) ∧ (0 ≤ a2.v ∧ a2.v < 256) ∧ (0 ≤ a2.w ∧ a2.w < 256) ∧ (0 ≤ a2.n ∧ a2.n < 256)) : m10 a0 a1 a2 = some true := m10_eq a0 a1 a2 hn.1 hn.2.1 hn.2.2.1 hn.2.2.2

theorem law10 {W : World} (a0 : Lvl) (a1 : Lvl) (a2 : Vls) (hn : (0 ≤ a2.u ∧ a2.u < 256) ∧ (0 ≤ a2.v ∧ a2.v < 256) ∧ (0 ≤ a2.w ∧ a2.w < 256) ∧ (0 ≤ a2.n ∧ a2.n < 256)) {v0 : Value} (hv0 : (AV.agg (cE a0)).rel (Vu.of (allS W)) W v0) {v1 : Value} (hv1 : (AV.agg (cE a1)).rel (Vu.of (allS W)) W v1) {v2 : Value} (hv2 : (AV.agg (cE a2)).rel (Vu.of (allS W)) W v2) : Calls Tryz.prog 10 #[v0, v1, v2] W fun e W' => e = .returned (.bool true) ∧ Below W.heap.size W W' := by
  have hF := m10_ok a0 a1 a2 true (m10_true a0 a1 a2 hn)
  refine Calls.mono (hF.2 (allS W) W #[v0, v1, v2] (fun b o h => h) ⟨rfl, fun i y hy => ?_⟩) ?_
  · match i, hy with
    | 0, hy => cases hy; exact ⟨_, rfl, hv0⟩
    | 1, hy => cases hy; exact ⟨_, rfl, hv1⟩
    | 2, hy => cases hy; exact ⟨_, rfl, hv2⟩
  · rintro e W' ⟨u, S', rfl, hx, -, -, hu⟩
    have e1 : u = .bool true := by cases hu; rfl
    rw [e1]
    exact ⟨rfl, hx.os, hx.tape, hx.output, hx.size, fun k hk => hx.block k hk (fun h => h)⟩

set_option maxRecDepth 100000 in
set_option maxHeartbeats 1000000 in
theorem lifted (os : Os) (started : os.Started) (H : Type) (enc : TypeId × Value → H) :
    ReturnsInHanded {} Tryz.checked os 10 .any (fun w args => (Rows.levelValuesSpec.pre enc Tryz.prog Tryz.f10 [] false w args ∧ laidMetH Tryz.prog Rows.levelValuesRow.laid w) ∧ sizedMet enc Tryz.prog Tryz.f10 (OpenSpec.ofChange Rows.levelValuesSpec) false w args)
      (Rows.levelValuesSpec.post enc Tryz.prog Tryz.f10 false true false false) := by
  refine returnsInHanded_of_change_and (C := Tryz.checked) (X := fun w _ => laidMetH Tryz.prog Rows.levelValuesRow.laid w) (fun _ _ _ hh h => h.of_heap hh) own started (by kernel_rfl) Tryz.func10
    (ChangeSpec.witness_shaped (enc := enc) (C := Tryz.checked) (os := os) (X := fun w _ => laidMetH Tryz.prog Rows.levelValuesRow.laid w) false (World.laidAll Tryz.prog os Rows.levelValuesRow.laid) #[.agg #[.int .i64 0, .slice none 0 0], .agg #[.int .i64 0, .slice none 0 0], .agg #[.int .u8 0, .int .u8 0, .int .u8 0, .int .u8 0]] 8 (World.laidAll_os _ _ _)
      (World.shaped_of_ZipB (by kernel_rfl) (by kernel_rfl)) (by kernel_rfl) (by kernel_rfl) (by kernel_rfl)
      (by rw [MakeChecks.laidMetH_plain _ _ _ (by kernel_rfl)]; exact laidMet_laidAll _ (by kernel_rfl) (by kernel_rfl))) ?_
  intro W base args ds gs before hval0 hW _ _ _ _
  have hval : ∀ (j : Nat) t v, Tryz.f10.params[j]? = some t → args[j]? = some v → Value.okWide Tryz.prog W .any base t v := hval0
  have hW' := hW
  obtain ⟨p, q, hA0, hV, rfl, hfz, hnd⟩ := hW
  have hA : DataW.TrodAll enc Tryz.prog W 0 (fun _ => true) true Tryz.f10.params.toList args.toList ds p := hA0
  rw [Tryz.params10] at hA hval
  obtain ⟨v0, v1, v2, d0, d1, d2, p0, p1, p2, rfl, rfl, rfl, h0, h1, h2⟩ := trodAll_three hA
  obtain ⟨rfl, rfl⟩ := trodVars_none hV
  have h0k := h0
  have h1k := h1
  have h2k := h2
  obtain ⟨a0, hv0⟩ := lvl_reads (hval 0 24 v0 rfl rfl) h0
  obtain ⟨a1, hv1⟩ := lvl_reads (hval 1 24 v1 rfl rfl) h1
  obtain ⟨a2, hv2, hn⟩ := vals_reads (hval 2 53 v2 rfl rfl) h2
  clear hA0 hval0
  simp only [List.append_nil, List.append_assoc] at hW'
  have hlt : ∀ x ∈ p0 ++ (p1 ++ p2), x.block < W.heap.size := fun x hx => by simpa using hW'.lt x hx
  refine (law10 a0 a1 a2 hn hv0 hv1 hv2).mono fun e W' ⟨he, hb⟩ => ?_
  subst he
  have hargs : ∀ sp : Nat → Bool, (∀ x ∈ p0 ++ (p1 ++ p2), sp x.block = true) → DataW.TrodAll enc Tryz.prog W' 0 sp true [24, 24, 53] [v0, v1, v2] [d0, d1, d2] (p0 ++ (p1 ++ p2)) := fun sp hsp =>
    trodAll_mk3 (WideElems.Trod_stays laidOut (by kernel_rfl) (of_decide_eq_true (by kernel_rfl)) h0k (fun x hx => hb.same (hlt x (by simp [hx]))) (fun x hx => hsp x (by simp [hx]))) (WideElems.Trod_stays laidOut (by kernel_rfl) (of_decide_eq_true (by kernel_rfl)) h1k (fun x hx => hb.same (hlt x (by simp [hx]))) (fun x hx => hsp x (by simp [hx]))) (WideElems.Trod_stays laidOut (by kernel_rfl) (of_decide_eq_true (by kernel_rfl)) h2k (fun x hx => hb.same (hlt x (by simp [hx]))) (fun x hx => hsp x (by simp [hx])))
  exact ⟨_, rfl, _, _, _, [], p0 ++ (p1 ++ p2), [], hW', trodAll_mk1 (shut_bool Tryz.underlying4 true), hargs _ (fun x hx => by simpa using hlt x hx), rfl, hb.frame _, fun h => by cases h⟩

theorem over : Rows.levelValuesRow.holds Tryz.pinned (OpenSpec.ofChange Rows.levelValuesSpec) :=
  OpenClaim.holds_of_wide 10 Tryz.f10 rfl rfl rfl rfl rfl rfl rfl ⟨rfl, rfl, rfl, rfl, rfl⟩ rfl rfl rfl rfl rfl (by kernel_rfl) Tryz.func10 (by kernel_rfl)
    (of_decide_eq_true (by kernel_rfl)) (by unfold Func.isWrapper; first | (rw [if_pos (by decide +kernel)]; kernel_rfl) | (rw [if_neg (by decide +kernel)]; exact ⟨rfl, rfl⟩))
    (fun os started H enc _ => lifted os started H enc)

/-- THE STATEMENT. -/
theorem levelValuesCard : Rows.LevelValuesCardSaid :=
  Claim7.holds_tied_plain_at .later [] [.data, .data, .data, .data, .sentinel, .sentinel, .pinned] true (true, "5e7632e2b5e91e2e64ce9ca6ac393cc93f51a5042e08c0e4f1680a28b429fecc") true
    over (fun _ h => by cases h) (by kernel_rfl) (fun _ h => by cases h) levelValues_row_tie rfl ⟨rfl, rfl⟩ (by kernel_rfl) rfl
    (fun f fn hf hfn => by
      obtain rfl : f = 10 := Option.some.inj ((show Tryz.prog.funcNamed "euclid/euclidlaw01.LevelValues" = some 10 by kernel_rfl).symm.trans hf) |>.symm
      obtain rfl : fn = Tryz.f10 := (Option.some.inj (Tryz.func10.symm.trans hfn)).symm
      exact ⟨by kernel_rfl, fun j t ht => by
        rw [Tryz.params10] at ht
        have hm : t ∈ [24, 24, 53] := by simpa using Array.mem_of_getElem? ht
        have hall : ([24, 24, 53].all fun u => !Tryz.prog.wantsStandIn u) = true := by kernel_rfl
        exact (show Tryz.prog.wantsStandIn t = false by simpa using List.all_eq_true.1 hall t hm)⟩)
    (by kernel_rfl)
#print axioms levelValuesCard
end Go.Proofs.YtcapifnaceegmaaGreatDoor
