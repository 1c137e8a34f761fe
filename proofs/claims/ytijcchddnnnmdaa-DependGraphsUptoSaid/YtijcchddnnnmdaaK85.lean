/- Part 5 of the proof: rules, mirrors and plain laws. The statement DependGraphsUpto is proved here: for every list of declarations the law returns true, and the list reads behind the call as it did before; condition: the list is of bulk at most 1048576 (the second form). -/
import Derived.Test.YtijcchddnnnmdaaK84
namespace Go.Proofs.Ytijcchddnnnmdaa
open Go.RowKit Go.Lib
set_option linter.unusedSimpArgs false
set_option linter.unusedVariables false
set_option linter.unusedSectionVars false
theorem loop_any {α σ τ β : Type} {step : τ → Option (LO τ β)} (l : List α) (mk : Int → σ → τ) (hlen : l.length ≤ 900000000)
    (hin : ∀ (a : List α) (x : α) (b : List α) (s : σ), l = a ++ x :: b → (∃ r, step (mk (a.length : Int) s) = some (.done r)) ∨ ∃ s', step (mk (a.length : Int) s) = some (.next (mk (w64 ((a.length : Int) + 1)) s')))
    (hout : ∀ s, ∃ r, step (mk (l.length : Int) s) = some (.done r)) (s0 : σ) : ∃ r, loopN step FUEL (mk 0 s0) = some r := by
  obtain ⟨r, h, -⟩ := loop_all l mk (fun _ _ => True) (fun _ => True) hlen (fun a x b s e _ => (hin a x b s e).elim (fun ⟨r, h⟩ => .inl ⟨r, h, trivial⟩) (fun ⟨s', h⟩ => .inr ⟨s', h, trivial⟩)) (fun s _ => let ⟨r, h⟩ := hout s; ⟨r, h, trivial⟩) s0 trivial
  exact ⟨r, h⟩
theorem size_some : ∀ (n : Nat) (t : Tm), t.size ≤ n → t.size ≤ 900000000 → ∃ r, recO m65F n t = some r
  | 0, t, h, _ => by rw [t.size_eq] at h; omega
  | n + 1, t, h, h2 => by
    show ∃ r, m65s (recO m65F n) t = some r
    unfold m65s
    have hl := kids_len t
    obtain ⟨r, e⟩ := loop_any (step := m65_l0 t (recO m65F n)) t.kids (fun i (s : Int) => (s, i)) (by omega)
      (fun a x b s e => by
        have hx := Tm.kid_size (t := t) (k := x) (by rw [e]; simp)
        obtain ⟨r, hr⟩ := size_some n x (by omega) (by omega)
        refine .inr ⟨w64 (s + r), ?_⟩
        unfold m65_l0
        dsimp only
        rw [e, lt_mid, idx_mid]
        simp only [cond_true, Option.bind_some]
        rw [hr]; rfl) (fun s => ⟨s, by unfold m65_l0; dsimp only; rw [lt_end]; rfl⟩) 1
    rw [e]; exact ⟨r, rfl⟩
theorem depth_some : ∀ (n : Nat) (t : Tm), t.size ≤ n → t.size ≤ 900000000 → ∃ r, recO m66F n t = some r
  | 0, t, h, _ => by rw [t.size_eq] at h; omega
  | n + 1, t, h, h2 => by
    show ∃ r, m66s (recO m66F n) t = some r
    unfold m66s
    have hl := kids_len t
    obtain ⟨r, e⟩ := loop_any (step := m66_l0 t (recO m66F n)) t.kids (fun i (s : Int) => (s, i)) (by omega)
      (fun a x b s e => by
        have hx := Tm.kid_size (t := t) (k := x) (by rw [e]; simp)
        obtain ⟨r, hr⟩ := depth_some n x (by omega) (by omega)
        refine .inr ⟨max s r, ?_⟩
        unfold m66_l0
        dsimp only
        rw [e, lt_mid, idx_mid]
        simp only [cond_true, Option.bind_some]
        rw [hr]; rfl) (fun s => ⟨s, by unfold m66_l0; dsimp only; rw [lt_end]; rfl⟩) 0
    rw [e]; exact ⟨_, rfl⟩
theorem m50_some (t : Tm) (h : t.size ≤ 900000000) : ∃ b, m50 t = some b := by
  unfold m50
  obtain ⟨r, e⟩ := size_some FUEL t (by unfold FUEL; omega) h
  obtain ⟨r2, e2⟩ := depth_some FUEL t (by unfold FUEL; omega) h
  unfold m65 m66
  rw [e, e2]
  simp only [Option.bind_some]
  cases decide (r ≤ 400) <;> exact ⟨_, rfl⟩
theorem tree_some : ∀ (n : Nat) (t : Tr) (d : Int), t.size ≤ n → t.size ≤ 900000000 → ∃ r, recO m51F n (t, d) = some r
  | 0, t, d, h, _ => by rw [t.size_eq] at h; omega
  | n + 1, t, d, h, h2 => by
    show ∃ r, m51s (recO m51F n) t d = some r
    unfold m51s
    have hl := branches_len t
    have hsz := t.size_eq
    obtain ⟨b, hb⟩ := m50_some t.body (by omega)
    obtain ⟨r, e⟩ := loop_any (step := m51_l0 t (recO m51F n) d) t.branches (fun i (s : Unit) => i) (by omega)
      (fun a x c s e => by
        have hx := Tr.kid_size (t := t) (b := x) (by rw [e]; simp)
        obtain ⟨r, hr⟩ := tree_some n x.tree (w64 (d + 1)) (by omega) (by omega)
        unfold m51_l0
        rw [e, lt_mid, idx_mid]
        simp only [cond_true, Option.bind_some]
        rw [hr]
        cases r with
        | false => exact .inl ⟨_, rfl⟩
        | true =>
          simp only [Option.bind_some, Bool.not_true, cond_false]
          cases decide (200 < (x.ctor.length : Int)) with
          | true => exact .inl ⟨_, rfl⟩
          | false => exact .inr ⟨(), rfl⟩) (fun s => ⟨_, by unfold m51_l0; rw [lt_end]; rfl⟩) ()
    rw [e, hb]
    cases decide (40 < d) with
    | true => exact ⟨_, rfl⟩
    | false =>
      cases decide (40 < (t.branches.length : Int)) with
      | true => exact ⟨_, rfl⟩
      | false =>
        cases b with
        | false => exact ⟨_, rfl⟩
        | true =>
          cases r with
          | inl u => exact ⟨_, rfl⟩
          | inr u => exact ⟨_, rfl⟩
theorem m30_some (d : Dcl) (h : d.size ≤ 900000000) : ∃ b, m30 d = some b := by
  have h1 := ctors_len d
  have h2 := funs_len d
  have h3 := rules_len d
  have hty := term_mem (d := d) (t := d.ty) (by unfold termsOf; simp)
  have hval := term_mem (d := d) (t := d.value) (by unfold termsOf; simp)
  have hrt := term_mem (d := d) (t := d.rcr.ty) (by unfold termsOf; simp)
  obtain ⟨b1, e1⟩ := m50_some d.ty (by omega)
  obtain ⟨b2, e2⟩ := m50_some d.value (by omega)
  obtain ⟨b3, e3⟩ := m50_some d.rcr.ty (by omega)
  obtain ⟨r1, l1⟩ := loop_any (step := m30_l0 d) d.ctors (fun i (s : Unit) => i) (by omega)
    (fun a x c s e => by
      have hx := term_mem (d := d) (t := x.ty) (by unfold termsOf; rw [e]; simp)
      obtain ⟨r, hr⟩ := m50_some x.ty (by omega)
      unfold m30_l0
      rw [e, lt_mid, idx_mid]
      simp only [cond_true, Option.bind_some]
      cases decide (200 < (x.name.length : Int)) with
      | true => exact .inl ⟨_, rfl⟩
      | false =>
        simp only [cond_false]
        rw [hr]
        cases r with
        | false => exact .inl ⟨_, rfl⟩
        | true => exact .inr ⟨(), rfl⟩) (fun s => ⟨_, by unfold m30_l0; rw [lt_end]; rfl⟩) ()
  obtain ⟨r2, l2⟩ := loop_any (step := m30_l1 d) d.rcr.rules (fun i (s : Unit) => i) (by omega)
    (fun a x c s e => by
      have hx := term_mem (d := d) (t := x) (by unfold termsOf; rw [e]; simp)
      obtain ⟨r, hr⟩ := m50_some x (by omega)
      unfold m30_l1
      rw [e, lt_mid, idx_mid]
      simp only [cond_true, Option.bind_some]
      rw [hr]
      cases r with
      | false => exact .inl ⟨_, rfl⟩
      | true => exact .inr ⟨(), rfl⟩) (fun s => ⟨_, by unfold m30_l1; rw [lt_end]; rfl⟩) ()
  obtain ⟨r3, l3⟩ := loop_any (step := m30_l2 d) d.funs (fun i (s : Unit) => i) (by omega)
    (fun a x c s e => by
      have hx := term_mem (d := d) (t := x.ty) (by unfold termsOf; rw [e]; simp)
      have hf := fun_mem (d := d) (f := x) (by rw [e]; simp)
      obtain ⟨r, hr⟩ := m50_some x.ty (by omega)
      obtain ⟨q, hq⟩ := tree_some FUEL x.tree 0 (by unfold FUEL; omega) (by omega)
      unfold m30_l2
      rw [e, lt_mid, idx_mid]
      simp only [cond_true, Option.bind_some]
      cases decide (200 < (x.name.length : Int)) with
      | true => exact .inl ⟨_, rfl⟩
      | false =>
        simp only [cond_false]
        rw [hr]
        cases r with
        | false => exact .inl ⟨_, rfl⟩
        | true =>
          simp only [Option.bind_some, Bool.not_true, cond_false]
          unfold m51
          rw [hq]
          cases q with
          | false => exact .inl ⟨_, rfl⟩
          | true => exact .inr ⟨(), rfl⟩) (fun s => ⟨_, by unfold m30_l2; rw [lt_end]; rfl⟩) ()
  have tail : ∃ b, Option.bind (loopN (m30_l0 d) FUEL 0) (Sum.elim (fun (o3 : Unit) => Option.bind (loopN (m30_l1 d) FUEL 0) (Sum.elim (fun (o4 : Unit) => Option.bind (loopN (m30_l2 d) FUEL 0) (Sum.elim (fun (o5 : Unit) => some true) (fun o => some o))) (fun o => some o))) (fun o => some o)) = some b := by
    rw [l1, l2, l3]
    cases r1 with
    | inr u => exact ⟨_, rfl⟩
    | inl u =>
      cases r2 with
      | inr u => exact ⟨_, rfl⟩
      | inl u =>
        cases r3 with
        | inr u => exact ⟨_, rfl⟩
        | inl u => exact ⟨_, rfl⟩
  obtain ⟨bt, ht⟩ := tail
  unfold m30
  rw [e1, e2, e3, ht]
  cases decide (200 < (d.name.length : Int)) with
  | true => exact ⟨_, rfl⟩
  | false =>
    cases b1 with
    | false => exact ⟨_, rfl⟩
    | true =>
      cases b2 with
      | false => exact ⟨_, rfl⟩
      | true =>
        cases decide (40 < (d.ctors.length : Int)) with
        | true => exact ⟨_, rfl⟩
        | false =>
          cases decide (12 < (d.funs.length : Int)) with
          | true => exact ⟨_, rfl⟩
          | false =>
            cases b3 with
            | false => exact ⟨_, rfl⟩
            | true =>
              cases h7 : decide (40 < (d.rcr.rules.length : Int)) with
              | true => exact ⟨false, by simp [h7]⟩
              | false => exact ⟨bt, by simp [h7]⟩
theorem m9_some (env : List Dcl) (h : envSz env ≤ 900000000) : ∃ b, m9 env = some b ∧ (b = true → env.length ≤ 70) := by
  have hel := env_len env
  obtain ⟨r, e, hr⟩ := loop_all (step := m9_l0 env) env (fun i (s : Unit) => i) (fun _ _ => True) (fun r => r = .inl () ∨ r = .inr false) (by omega)
    (fun a x c s e _ => by
      have hx := size_le (env := env) (d := x) (by rw [e]; simp)
      obtain ⟨r, hr⟩ := m30_some x (by omega)
      unfold m9_l0
      rw [e, lt_mid, idx_mid]
      simp only [cond_true, Option.bind_some]
      cases decide ((a.length : Int) < 80) with
      | false => exact .inl ⟨_, rfl, .inl rfl⟩
      | true =>
        simp only [cond_true]
        rw [hr]
        cases r with
        | false => exact .inl ⟨_, rfl, .inr rfl⟩
        | true => exact .inr ⟨(), rfl, trivial⟩) (fun s _ => ⟨_, by unfold m9_l0; rw [lt_end]; rfl, .inl rfl⟩) () trivial
  unfold m9
  rw [e]
  rcases hr with rfl | rfl
  · exact ⟨_, rfl, fun hb => by have := of_decide_eq_true hb; omega⟩
  · exact ⟨false, rfl, fun hb => by cases hb⟩
theorem m29_self (l : List Int) (h : l.length ≤ 900000000) : m29 l l = some true := by
  unfold m29
  rw [show ((l.length : Int) != (l.length : Int)) = false by simp]
  obtain ⟨r, e, rfl⟩ := loop_all (step := m29_l0 l l) l (fun i (s : Unit) => i) (fun _ _ => True) (fun r => r = .inl ()) h
    (fun a x c s e _ => .inr ⟨(), by
      unfold m29_l0
      rw [e, lt_mid, idx_mid]
      simp [beqI], trivial⟩) (fun s _ => ⟨_, by unfold m29_l0; rw [lt_end]; rfl, rfl⟩) () trivial
  rw [e]; rfl
end Go.Proofs.Ytijcchddnnnmdaa
namespace Go.Proofs.Ytijcchddnnnmdaa
open Go.RowKit Go.Shelf
set_option linter.unusedSimpArgs false
set_option linter.unusedVariables false
def m23o_l0 (x10 : (List Bs)) (s2 : Int × (GMap Bs Int)) (s3 : Int × (GMap Bs Int)) : Option (LO (Int × (GMap Bs Int)) (((GMap Bs Int)) ⊕ (((List (List Int)) × (GMap Bs Int)) ⊕ Unit ⊕ Unit))) :=
  cond (decide (s3.1 < (x10.length : Int)))
    (Option.bind (idx x10 s3.1) fun (x13 : Bs) =>
  cond (gmHas s3.2 x13)
    (some (.done (.inr (.inr (.inl ())))))
    (some (.next ((w64 (s3.1 + 1)), (gmSet s3.2 x13 s2.1)))))
    (some (.done (.inl s3.2)))
def m23o_l1 (nn : Nat) (a0 : List Dcl) (s2 : Int × (GMap Bs Int)) : Option (LO (Int × (GMap Bs Int)) (((GMap Bs Int)) ⊕ (((List (List Int)) × (GMap Bs Int)) ⊕ Unit ⊕ Unit))) :=
  cond (decide (s2.1 < ((nn : Nat) : Int)))
    (Option.bind (idx a0 s2.1) fun (x8 : Dcl) =>
  guardO (Nat.beq a0.length nn)
  (Option.bind (m37 x8) fun (x10 : (List Bs)) =>
  Option.bind (loopN (m23o_l0 x10 s2) FUEL (0, s2.2)) (Sum.elim (fun (o11 : (GMap Bs Int)) => some (.next ((w64 (s2.1 + 1)), o11))) (fun o => some (.done (.inr o))))))
    (some (.done (.inl s2.2)))
def m23o_l2 (x11 : (List Bs)) (o6 : (GMap Bs Int)) (s3 : (List Int) × Int) : Option (LO ((List Int) × Int) (((List Int)) ⊕ (((List (List Int)) × (GMap Bs Int)) ⊕ Unit ⊕ Unit))) :=
  cond (decide (s3.2 < (x11.length : Int)))
    (Option.bind (idx x11 s3.2) fun (x14 : Bs) =>
  cond (!(gmHas o6 x14))
    (some (.done (.inr (.inr (.inr ())))))
    (guardO (Nat.ble (s3.1.length + ([(gmVal o6 x14)]).length) 1000000000)
  (some (.next ((s3.1 ++ ([(gmVal o6 x14)])), (w64 (s3.2 + 1)))))))
    (some (.done (.inl s3.1)))
def m23o_l3 (nn : Nat) (a0 : List Dcl) (o6 : (GMap Bs Int)) (s2 : Int × (List (List Int))) : Option (LO (Int × (List (List Int))) (((List (List Int))) ⊕ (((List (List Int)) × (GMap Bs Int)) ⊕ Unit ⊕ Unit))) :=
  cond (decide (s2.1 < ((nn : Nat) : Int)))
    (Option.bind (idx a0 s2.1) fun (x9 : Dcl) =>
  guardO (Nat.beq a0.length nn)
  (Option.bind (m53 x9) fun (x11 : (List Bs)) =>
  Option.bind (loopN (m23o_l2 x11 o6) FUEL (([] : List Int), 0)) (Sum.elim (fun (o12 : (List Int)) => Option.bind (sortF o12) fun (x13 : List Int) =>
  Option.bind (compactF x13 ((Enc.encL o12).length)) fun (x14 : List Int) =>
  guardO (Nat.ble (s2.2.length + ([x14]).length) 1000000000)
  (some (.next ((w64 (s2.1 + 1)), (s2.2 ++ ([x14])))))) (fun o => some (.done (.inr o))))))
    (some (.done (.inl s2.2)))
def m23o (a0 : List Dcl) (nn : Nat) : Option ((List (List Int)) × Int) :=
  Option.bind (Option.bind (loopN (m23o_l1 nn a0) FUEL (0, gmNil)) (Sum.elim (fun (o6 : (GMap Bs Int)) => Option.bind (loopN (m23o_l3 nn a0 o6) FUEL (0, ([] : List (List Int)))) (Sum.elim (fun (o7 : (List (List Int))) => some (.inl (o7, o6))) (fun o => some o))) (fun o => some o))) (Sum.elim (fun (y1 : (List (List Int)) × (GMap Bs Int)) => some (y1.1, 0)) (Sum.elim (fun (y2 : Unit) => some (([] : List (List Int)), 8)) (fun (y3 : Unit) => some (([] : List (List Int)), 9))))
set_option maxRecDepth 100000 in
set_option maxHeartbeats 2000000 in
theorem m23o_ok (a0 : List Dcl) (nn : Nat) (r : (List (List Int)) × Int) (h0 : m23o a0 nn = some r) : CallM Try.prog 23 [.one (.osl 0 0 nn nn)] ⟨[(0, .cells 48 (flatE a0))], [], 1⟩ (resOf [.one (dS r.1), .one (dI r.2)]) ⟨[(0, .cells 48 (flatE a0))], [], 6⟩ := by
  unfold m23o at h0
  refine CallM.of_bodyD ⟨[(2, .v (.one (dS r.1))), (3, .v (.one (dI r.2)))], [(0, .cells 48 (flatE a0))], [], 6, 14, []⟩ rfl rfl en_23 (lb rfl) rfl (RAs.tmp rfl (RAs.tmp rfl .nil)) (fun w0 M V0 Q hv0 hQ0 => ?_)
  simp only [entry]
  refine XC.seq <| XC.region <| rA rfl rfl rfl <| rA rfl rfl rfl <| XL.nil <| XQ.seq <| XC.seq <| XC.region <| rM rfl rfl rfl ?_
  refine bindK h0 (fun y5 h1 h0 => ?_)
  have hc4 : CallM Try.prog 34 [.one (.osl 0 0 nn nn)] ⟨[(0, .cells 48 (flatE a0))], [], 1⟩ (resOf (((Sum.elim (fun (y1 : (List (List Int)) × (GMap Bs Int)) => ([.agg [dA 4 y1.1, .mp 2], .one (dI 0)] : List AV)) (Sum.elim (fun (y2 : Unit) => ([.agg [dN, .d (.v (.map none))], .one (dI 8)] : List AV)) (fun (y3 : Unit) => ([.agg [dN, .d (.v (.map none))], .one (dI 9)] : List AV))))) y5)) ⟨(((Sum.elim (fun (y1 : (List (List Int)) × (GMap Bs Int)) => (⟨[(2, .v (.one (.ptr 1 0))), (3, .v (.one (dI 0)))], [(0, .cells 48 (flatE a0)), (1, .cells 72 [dA 4 y1.1, .mp 2]), (2, .mp (gmE y1.2.1) y1.2.2)], [(4, some ⟨54, 1, (Enc.encL y1.1).length, []⟩)], 5, 88, []⟩ : St)) (Sum.elim (fun (y2 : Unit) => (⟨[(2, .v (.one (.ptr 1 0))), (3, .v (.one (dI 8)))], [(0, .cells 48 (flatE a0)), (1, .cells 72 [dN, .d (.v (.map none))])], [], 5, 88, []⟩ : St)) (fun (y3 : Unit) => (⟨[(2, .v (.one (.ptr 1 0))), (3, .v (.one (dI 9)))], [(0, .cells 48 (flatE a0)), (1, .cells 72 [dN, .d (.v (.map none))])], [], 7, 88, []⟩ : St))))) y5).hp, (((Sum.elim (fun (y1 : (List (List Int)) × (GMap Bs Int)) => (⟨[(2, .v (.one (.ptr 1 0))), (3, .v (.one (dI 0)))], [(0, .cells 48 (flatE a0)), (1, .cells 72 [dA 4 y1.1, .mp 2]), (2, .mp (gmE y1.2.1) y1.2.2)], [(4, some ⟨54, 1, (Enc.encL y1.1).length, []⟩)], 5, 88, []⟩ : St)) (Sum.elim (fun (y2 : Unit) => (⟨[(2, .v (.one (.ptr 1 0))), (3, .v (.one (dI 8)))], [(0, .cells 48 (flatE a0)), (1, .cells 72 [dN, .d (.v (.map none))])], [], 5, 88, []⟩ : St)) (fun (y3 : Unit) => (⟨[(2, .v (.one (.ptr 1 0))), (3, .v (.one (dI 9)))], [(0, .cells 48 (flatE a0)), (1, .cells 72 [dN, .d (.v (.map none))])], [], 7, 88, []⟩ : St))))) y5).tk, (((Sum.elim (fun (y1 : (List (List Int)) × (GMap Bs Int)) => (⟨[(2, .v (.one (.ptr 1 0))), (3, .v (.one (dI 0)))], [(0, .cells 48 (flatE a0)), (1, .cells 72 [dA 4 y1.1, .mp 2]), (2, .mp (gmE y1.2.1) y1.2.2)], [(4, some ⟨54, 1, (Enc.encL y1.1).length, []⟩)], 5, 88, []⟩ : St)) (Sum.elim (fun (y2 : Unit) => (⟨[(2, .v (.one (.ptr 1 0))), (3, .v (.one (dI 8)))], [(0, .cells 48 (flatE a0)), (1, .cells 72 [dN, .d (.v (.map none))])], [], 5, 88, []⟩ : St)) (fun (y3 : Unit) => (⟨[(2, .v (.one (.ptr 1 0))), (3, .v (.one (dI 9)))], [(0, .cells 48 (flatE a0)), (1, .cells 72 [dN, .d (.v (.map none))])], [], 7, 88, []⟩ : St))))) y5).nx⟩ := by
   refine CallM.of_bodyT y5 ((Sum.elim (fun (y1 : (List (List Int)) × (GMap Bs Int)) => (⟨[(2, .v (.one (.ptr 1 0))), (3, .v (.one (dI 0)))], [(0, .cells 48 (flatE a0)), (1, .cells 72 [dA 4 y1.1, .mp 2]), (2, .mp (gmE y1.2.1) y1.2.2)], [(4, some ⟨54, 1, (Enc.encL y1.1).length, []⟩)], 5, 88, []⟩ : St)) (Sum.elim (fun (y2 : Unit) => (⟨[(2, .v (.one (.ptr 1 0))), (3, .v (.one (dI 8)))], [(0, .cells 48 (flatE a0)), (1, .cells 72 [dN, .d (.v (.map none))])], [], 5, 88, []⟩ : St)) (fun (y3 : Unit) => (⟨[(2, .v (.one (.ptr 1 0))), (3, .v (.one (dI 9)))], [(0, .cells 48 (flatE a0)), (1, .cells 72 [dN, .d (.v (.map none))])], [], 7, 88, []⟩ : St))))) ((Sum.elim (fun (y1 : (List (List Int)) × (GMap Bs Int)) => ([.agg [dA 4 y1.1, .mp 2], .one (dI 0)] : List AV)) (Sum.elim (fun (y2 : Unit) => ([.agg [dN, .d (.v (.map none))], .one (dI 8)] : List AV)) (fun (y3 : Unit) => ([.agg [dN, .d (.v (.map none))], .one (dI 9)] : List AV))))) rfl rfl en_34 (lb rfl) (fun z_ => by cases z_ with
     | inl _ => rfl
     | inr z_ => exact (by cases z_ <;> rfl)) (fun z_ => by cases z_ with
     | inl _ => exact (RAs.agg ag_72 rfl rfl rfl rfl (RAs.tmp rfl .nil))
     | inr z_ => exact (by cases z_ with
     | inl _ => exact (RAs.agg ag_72 rfl rfl rfl rfl (RAs.tmp rfl .nil))
     | inr _ => exact (RAs.agg ag_72 rfl rfl rfl rfl (RAs.tmp rfl .nil)))) (fun w0 M V0 Q hv1 hQ1 => ?_)
   simp only [entry]
   refine XC.seq <| XC.region <| XL.put rfl rfl (lb rfl) (OpOK.alloc z_72 rfl) <| rA rfl rfl rfl <| XL.nil <| XQ.seq <| XC.seq <| XC.region <| XL.put rfl rfl (lb rfl) (OpOK.makeMapG Bs Int) <| rR rfl rfl rfl (RO.build1 bd_72 rfl rfl rfl) <| XL.put rfl rfl (lb rfl) (OpOK.alloc z_72 rfl) <| XL.eff rfl rfl (OpOK.store ag_72 rfl rfl rfl rfl (lb rfl) rfl) <| XL.nil <| XQ.seq ?_
   refine XC.seq <| XC.seq <| XC.region <| rM rfl rfl rfl <| rR rfl rfl rfl (RO.lenOsl sl_22 rfl) <| rM rfl rfl rfl <| XL.nil <| XQ.seq <| XC.block ?_
   refine XC.joinX 0 (fun (o6 : (GMap Bs Int)) => ⟨[(0, .v (.one (.osl 0 0 nn nn))), (2, .v (.one (.ptr 1 0))), (4, .v (.one (.ptr 3 0)))], [(0, .cells 48 (flatE a0)), (1, .cells 72 [dN, .d (.v (.map none))]), (2, .mp (gmE o6.1) o6.2), (3, .cells 72 [dN, .mp 2])], [], 4, 88, []⟩) (fun (o6 : (GMap Bs Int)) => (Option.bind (loopN (m23o_l3 nn a0 o6) FUEL (0, ([] : List (List Int)))) (Sum.elim (fun (o7 : (List (List Int))) => some (.inl (o7, o6))) (fun o => some o))) = some y5) ?_ ?_
   ·
    refine bindK h1 (fun o7 hl2 h1 => ?_)
    refine XC.loopM (m23o_l1 nn a0) (fun s2 => ⟨[(0, .v (.one (.osl 0 0 nn nn))), (2, .v (.one (.ptr 1 0))), (4, .v (.one (.ptr 3 0))), (20, .v (.one (.osl 0 0 nn nn))), (21, .v (.one (dI ((nn : Nat) : Int)))), (22, .v (.one (dI s2.1)))], [(0, .cells 48 (flatE a0)), (1, .cells 72 [dN, .d (.v (.map none))]), (2, .mp (gmE s2.2.1) s2.2.2), (3, .cells 72 [dN, .mp 2])], [], 4, 88, []⟩) (0, gmNil) o7 (stle (tR rfl (tR rfl (tR rfl (tR rfl (tR rfl (tR rfl tZ)))))) (hR rfl (hR rfl (hR rfl (hR rfl hZ)))) kZ rfl (Nat.le_trans hv1 (lb rfl)) rfl rfl rfl (bF rfl (bB rfl rfl (bG rfl (bB rfl rfl bZ)))) rfl rfl) hl2 (fun s2 n2 oo2 h2 ho2 => ?_)
    unfold m23o_l1 at h2
    refine XC.seq <| XC.region <| rR rfl rfl rfl (RO.binInt rfl rfl rfl) <| XL.nil <| XQ.seq <| XC.seq ?_
    refine XC.cond (b := (decide (s2.1 < ((nn : Nat) : Int)))) rfl (fun c8 => ?_) (fun c8 => ?_)
    ·
     replace h2 := condT c8 h2
     refine XC.skip <| XQ.seq <| XC.seq <| XC.block <| XC.seq <| XC.region <| rM rfl rfl rfl ?_
     refine bindK h2 (fun x9 hx9 h2 => ?_)
     refine guardK h2 (fun g10 h2 => ?_)
     refine rR rfl rfl rfl (RO.indexO (α := Dcl) sl_22 rfl rfl hx9 g10) <| rR rfl rfl rfl (RO.loadOE (α := Dcl) (ys := [dI x9.kind, dS8 x9.name, dI x9.params, dI x9.ty.kind, dI x9.ty.index, dS8 x9.ty.name, dS x9.ty.levels, dS x9.ty.kids, dI x9.value.kind, dI x9.value.index, dS8 x9.value.name, dS x9.value.levels, dS x9.value.kids, dI x9.fixed, dS x9.ctors, dI x9.rcr.params, dI x9.rcr.ty.kind, dI x9.rcr.ty.index, dS8 x9.rcr.ty.name, dS x9.rcr.ty.levels, dS x9.rcr.ty.kids, dS x9.rcr.rules, dS x9.funs]) ag_48 rfl rfl hx9 rfl) <| XL.put rfl rfl (lb rfl) (OpOK.alloc z_48 rfl) <| rA rfl rfl rfl <| XL.eff rfl rfl (OpOK.storeCE (x9 : Dcl) ag_48 rfl rfl rfl rfl rfl) <| XL.nil <| XQ.seq <| XC.seq <| XC.region <| rR rfl rfl rfl (RO.loadCE (x9 : Dcl) ag_48 rfl rfl) ?_
     refine bindK h2 (fun x11 hx11 h2 => ?_)
     refine XL.put rfl rfl (lb rfl) (OpOK.callFun (m37_ok x9 x11 hx11) rfl (.cons (.agg (.cons (.d _) (.cons (.d _) (.cons (.d _) (.cons (.d _) (.cons (.d _) (.cons (.d _) (.cons (.d _) (.cons (.d _) (.cons (.d _) (.cons (.d _) (.cons (.d _) (.cons (.d _) (.cons (.d _) (.cons (.d _) (.cons (.d _) (.cons (.d _) (.cons (.d _) (.cons (.d _) (.cons (.d _) (.cons (.d _) (.cons (.d _) (.cons (.d _) (.cons (.d _) .nil)))))))))))))))))))))))) .nil)) <| rR rfl rfl rfl (RO.lenE (α := Bs) sl_23 rfl (.d _)) <| rM rfl rfl rfl <| XL.nil <| XQ.seq <| XC.block ?_
     refine XC.joinX 2 (fun (o12 : (GMap Bs Int)) => ⟨[(0, .v (.one (.osl 0 0 nn nn))), (2, .v (.one (.ptr 1 0))), (4, .v (.one (.ptr 3 0))), (20, .v (.one (.osl 0 0 nn nn))), (21, .v (.one (dI ((nn : Nat) : Int)))), (22, .v (.one (dI s2.1)))], [(0, .cells 48 (flatE a0)), (1, .cells 72 [dN, .d (.v (.map none))]), (2, .mp (gmE o12.1) o12.2), (3, .cells 72 [dN, .mp 2]), (4, .cells 48 (cE x9))], [], 5, 88, []⟩) (fun (o12 : (GMap Bs Int)) => (some (.next ((w64 (s2.1 + 1)), o12))) = some oo2) ?_ ?_
     ·
      refine bindK h2 (fun o13 hl3 h2 => ?_)
      refine XC.loopM (m23o_l0 x11 s2) (fun s3 => ⟨[(0, .v (.one (.osl 0 0 nn nn))), (2, .v (.one (.ptr 1 0))), (4, .v (.one (.ptr 3 0))), (5, .v (.one (dI s2.1))), (20, .v (.one (.osl 0 0 nn nn))), (21, .v (.one (dI ((nn : Nat) : Int)))), (22, .v (.one (dI s2.1))), (28, .v (.one (dS x11))), (29, .v (.one (dI (x11.length : Int)))), (30, .v (.one (dI s3.1)))], [(0, .cells 48 (flatE a0)), (1, .cells 72 [dN, .d (.v (.map none))]), (2, .mp (gmE s3.2.1) s3.2.2), (3, .cells 72 [dN, .mp 2]), (4, .cells 48 (cE x9))], [], 5, 88, []⟩) (0, s2.2) o13 (stle (tR rfl (tR rfl (tR rfl (tR rfl (tR rfl (tR rfl (tR rfl (tR rfl (tR rfl (tR rfl tZ)))))))))) (hR rfl (hR rfl (hR rfl (hR rfl (hR rfl hZ))))) kZ rfl (Nat.le_trans hv1 (lb rfl)) rfl rfl rfl (bF rfl (bB rfl rfl (bG rfl (bB rfl rfl (bB rfl rfl bZ))))) rfl rfl) hl3 (fun s3 n3 oo3 h3 ho3 => ?_)
      unfold m23o_l0 at h3
      refine XC.seq <| XC.region <| rR rfl rfl rfl (RO.binInt rfl rfl rfl) <| XL.nil <| XQ.seq <| XC.seq ?_
      refine XC.cond (b := (decide (s3.1 < (x11.length : Int)))) rfl (fun c14 => ?_) (fun c14 => ?_)
      ·
       replace h3 := condT c14 h3
       refine XC.skip <| XQ.seq <| XC.seq <| XC.block <| XC.seq <| XC.region ?_
       refine bindK h3 (fun x15 hx15 h3 => ?_)
       refine rR rfl rfl rfl (RO.indexE (α := Bs) sl_23 rfl (.d _) rfl hx15) <| rR rfl rfl rfl (RO.loadPel ag_9 rfl rfl) <| rA rfl rfl rfl <| XL.nil <| XQ.seq <| XC.seq <| XC.seq <| XC.region <| rR rfl rfl rfl (RO.fieldOwn fo_72_1 rfl) <| rR rfl rfl rfl (RO.loadOwn ag_70 rfl rfl rfl) <| rM rfl rfl rfl <| rR rfl rfl rfl (RO.lookupGT (M := s3.2) (k := x15) mp_70 zok_int rfl rfl rfl) <| rM rfl rfl rfl <| rR rfl rfl rfl (RO.extract rfl rfl) ?_
       refine rR rfl rfl rfl (RO.extract rfl rfl) <| rA rfl rfl rfl <| rA rfl rfl rfl <| XL.nil <| XQ.seq <| XC.seq <| XC.region <| rM rfl rfl rfl <| XL.nil <| XQ.seq ?_
       refine XC.cond (b := (gmHas s3.2 x15)) rfl (fun c16 => ?_) (fun c16 => ?_)
       ·
        replace h3 := condT c16 h3
        refine XC.seq <| XC.region <| rR rfl rfl rfl (RO.build0 bd_72 rfl ) <| XL.eff rfl rfl (OpOK.store ag_72 rfl rfl rfl rfl (lb rfl) rfl) <| rA rfl rfl rfl <| XL.nil <| XQ.seq <| XC.ret ?_
        have e_ := Option.some.inj h3
        subst e_
        have e_ : _ = _ := ho3
        subst e_
        try dsimp only [Sum.elim_inl, Sum.elim_inr] at h2
        have e_ := Option.some.inj h2
        subst e_
        have e_ : _ = _ := ho2
        subst e_
        try dsimp only [Sum.elim_inl, Sum.elim_inr] at h1
        have e_ := Option.some.inj h1
        subst e_
        exact hQ1 _ _ _ (.inr rfl) rfl (show StLe _ _ ⟨[(2, .v (.one (.ptr 1 0))), (3, .v (.one (dI 8)))], [(0, .cells 48 (flatE a0)), (1, .cells 72 [dN, .d (.v (.map none))])], [], 5, 88, []⟩ from (stle (tR rfl (tR rfl tZ)) (hR rfl (hR rfl hZ)) kZ rfl (Nat.le_trans hv1 (lb rfl)) rfl rfl rfl (bF rfl (bB rfl rfl bZ)) rfl rfl))
       ·
        replace h3 := condF c16 h3
        refine XC.skip <| XQ.seq <| XC.region <| rR rfl rfl rfl (RO.fieldOwn fo_72_1 rfl) <| rR rfl rfl rfl (RO.loadOwn ag_70 rfl rfl rfl) <| rM rfl rfl rfl <| rM rfl rfl rfl <| XL.eff rfl rfl (OpOK.mapSetG (M := s3.2) (k := x15) (v := s2.1) mp_70 rfl rfl rfl rfl rfl) <| XL.nil <| XQ.inBlock <| XQ.seq <| XC.region <| rR rfl rfl rfl (RO.binInt rfl rfl rfl) <| rM rfl rfl rfl ?_
        refine XL.nil ?_
        have e_ := Option.some.inj h3
        subst e_
        refine XQ.nextM ((w64 (s3.1 + 1)), (gmSet s3.2 x15 s2.1)) (stle (tR rfl (tR rfl (tR rfl (tR rfl (tR rfl (tR rfl (tR rfl (tR rfl (tR rfl (tR rfl tZ)))))))))) (hR rfl (hR rfl (hR rfl (hR rfl (hR rfl hZ))))) kZ rfl (Nat.le_trans hv1 (lb rfl)) rfl rfl rfl (bF rfl (bB rfl rfl (bG rfl (bB rfl rfl (bB rfl rfl bZ))))) rfl rfl) ho3
      ·
       replace h3 := condF c14 h3
       refine XC.exit <| XQ.thenE <| XQ.thenE ?_
       have e_ := Option.some.inj h3
       subst e_
       have e_ : _ = _ := ho3
       subst e_
       exact XQ.joinX s3.2 (stle (tR rfl (tR rfl (tR rfl (tR rfl (tR rfl (tR rfl tZ)))))) (hR rfl (hR rfl (hR rfl (hR rfl (hR rfl hZ))))) kZ rfl (Nat.le_trans hv1 (lb rfl)) rfl rfl rfl (bF rfl (bB rfl rfl (bG rfl (bB rfl rfl (bB rfl rfl bZ))))) rfl rfl) h2
     ·
      intro o12 h2
      refine XQ.blockX <| XQ.inBlock <| XQ.seq <| XC.region <| rR rfl rfl rfl (RO.binInt rfl rfl rfl) <| rM rfl rfl rfl <| XL.nil ?_
      have e_ := Option.some.inj h2
      subst e_
      refine XQ.nextM ((w64 (s2.1 + 1)), o12) (stle (tR rfl (tR rfl (tR rfl (tR rfl (tR rfl (tR rfl tZ)))))) (hR rfl (hR rfl (hR rfl (hR rfl hZ)))) kZ rfl (Nat.le_trans hv1 (lb rfl)) rfl rfl rfl (bF rfl (bB rfl rfl (bG rfl (bB rfl rfl bZ)))) rfl rfl) ho2
    ·
     replace h2 := condF c8 h2
     refine XC.exit <| XQ.thenE <| XQ.thenE ?_
     have e_ := Option.some.inj h2
     subst e_
     have e_ : _ = _ := ho2
     subst e_
     exact XQ.joinX s2.2 (stle (tR rfl (tR rfl (tR rfl tZ))) (hR rfl (hR rfl (hR rfl (hR rfl hZ)))) kZ rfl (Nat.le_trans hv1 (lb rfl)) rfl rfl rfl (bF rfl (bB rfl rfl (bG rfl (bB rfl rfl bZ)))) rfl rfl) h1
   ·
    intro o6 h1
    refine XQ.blockX <| XQ.seq <| XC.seq <| XC.seq <| XC.region <| rM rfl rfl rfl <| rR rfl rfl rfl (RO.lenOsl sl_22 rfl) <| rM rfl rfl rfl <| XL.nil <| XQ.seq <| XC.block ?_
    refine XC.joinX 4 (fun (o17 : (List (List Int))) => ⟨[(2, .v (.one (.ptr 1 0))), (4, .v (.one (.ptr 3 0)))], [(0, .cells 48 (flatE a0)), (1, .cells 72 [dN, .d (.v (.map none))]), (2, .mp (gmE o6.1) o6.2), (3, .cells 72 [dA 4 o17, .mp 2])], [(4, some ⟨54, 1, (Enc.encL o17).length, []⟩)], 5, 88, []⟩) (fun (o17 : (List (List Int))) => (some (.inl (o17, o6))) = some y5) ?_ ?_
    ·
     refine XC.adoptC (i := 3) (off := 0) 54 1 rfl rfl ?_
     refine bindK h1 (fun o18 hl2 h1 => ?_)
     refine XC.loopM (m23o_l3 nn a0 o6) (fun s2 => ⟨[(2, .v (.one (.ptr 1 0))), (4, .v (.one (.ptr 3 0))), (49, .v (.one (.osl 0 0 nn nn))), (50, .v (.one (dI ((nn : Nat) : Int)))), (51, .v (.one (dI s2.1)))], [(0, .cells 48 (flatE a0)), (1, .cells 72 [dN, .d (.v (.map none))]), (2, .mp (gmE o6.1) o6.2), (3, .cells 72 [dA 4 s2.2, .mp 2])], [(4, some ⟨54, 1, (Enc.encL s2.2).length, []⟩)], 5, 88, []⟩) (0, ([] : List (List Int))) o18 (stle (tR rfl (tR rfl (tR rfl (tR rfl (tR rfl tZ))))) (hR rfl (hR rfl (hR rfl (hR rfl hZ)))) (kR rfl kZ) rfl (Nat.le_trans hv1 (lb rfl)) rfl rfl rfl (bF rfl (bB rfl rfl (bG rfl (bB rfl rfl bZ)))) rfl rfl) hl2 (fun s2 n2 oo2 h2 ho2 => ?_)
     unfold m23o_l3 at h2
     refine XC.seq <| XC.region <| rR rfl rfl rfl (RO.binInt rfl rfl rfl) <| XL.nil <| XQ.seq <| XC.seq ?_
     refine XC.cond (b := (decide (s2.1 < ((nn : Nat) : Int)))) rfl (fun c19 => ?_) (fun c19 => ?_)
     ·
      replace h2 := condT c19 h2
      refine XC.skip <| XQ.seq <| XC.seq <| XC.block <| XC.seq <| XC.region ?_
      refine bindK h2 (fun x20 hx20 h2 => ?_)
      refine guardK h2 (fun g21 h2 => ?_)
      refine rR rfl rfl rfl (RO.indexO (α := Dcl) sl_22 rfl rfl hx20 g21) <| rR rfl rfl rfl (RO.loadOE (α := Dcl) (ys := [dI x20.kind, dS8 x20.name, dI x20.params, dI x20.ty.kind, dI x20.ty.index, dS8 x20.ty.name, dS x20.ty.levels, dS x20.ty.kids, dI x20.value.kind, dI x20.value.index, dS8 x20.value.name, dS x20.value.levels, dS x20.value.kids, dI x20.fixed, dS x20.ctors, dI x20.rcr.params, dI x20.rcr.ty.kind, dI x20.rcr.ty.index, dS8 x20.rcr.ty.name, dS x20.rcr.ty.levels, dS x20.rcr.ty.kids, dS x20.rcr.rules, dS x20.funs]) ag_48 rfl rfl hx20 rfl) <| XL.put rfl rfl (lb rfl) (OpOK.alloc z_48 rfl) <| XL.eff rfl rfl (OpOK.storeCE (x20 : Dcl) ag_48 rfl rfl rfl rfl rfl) <| XL.nil <| XQ.seq <| XC.seq <| XC.region <| rA rfl rfl rfl <| XL.nil <| XQ.seq <| XC.seq <| XC.seq <| XC.region ?_
      refine rR rfl rfl rfl (RO.loadCE (x20 : Dcl) ag_48 rfl rfl) ?_
      refine bindK h2 (fun x22 hx22 h2 => ?_)
      refine XL.put rfl rfl (lb rfl) (OpOK.callFun (m53_ok x20 x22 hx22) rfl (.cons (.agg (.cons (.d _) (.cons (.d _) (.cons (.d _) (.cons (.d _) (.cons (.d _) (.cons (.d _) (.cons (.d _) (.cons (.d _) (.cons (.d _) (.cons (.d _) (.cons (.d _) (.cons (.d _) (.cons (.d _) (.cons (.d _) (.cons (.d _) (.cons (.d _) (.cons (.d _) (.cons (.d _) (.cons (.d _) (.cons (.d _) (.cons (.d _) (.cons (.d _) (.cons (.d _) .nil)))))))))))))))))))))))) .nil)) <| rR rfl rfl rfl (RO.lenE (α := Bs) sl_23 rfl (.d _)) <| rM rfl rfl rfl <| XL.nil <| XQ.seq <| XC.block ?_
      refine XC.joinX 6 (fun (o23 : (List Int)) => ⟨[(2, .v (.one (.ptr 1 0))), (4, .v (.one (.ptr 3 0))), (13, .v (.one (.apv 6 1 ((Enc.encL o23).length) []))), (49, .v (.one (.osl 0 0 nn nn))), (50, .v (.one (dI ((nn : Nat) : Int)))), (51, .v (.one (dI s2.1)))], [(0, .cells 48 (flatE a0)), (1, .cells 72 [dN, .d (.v (.map none))]), (2, .mp (gmE o6.1) o6.2), (3, .cells 72 [dA 4 s2.2, .mp 2]), (5, .cells 48 (cE x20))], [(4, some ⟨54, 1, (Enc.encL s2.2).length, []⟩), (6, some ⟨3, 1, (Enc.encL o23).length, (Enc.encL o23).flatten⟩)], 7, 88, []⟩) (fun (o23 : (List Int)) => (Option.bind (sortF o23) fun (x24 : List Int) =>
        Option.bind (compactF x24 ((Enc.encL o23).length)) fun (x25 : List Int) =>
        guardO (Nat.ble (s2.2.length + ([x25]).length) 1000000000)
        (some (.next ((w64 (s2.1 + 1)), (s2.2 ++ ([x25])))))) = some oo2) ?_ ?_
      ·
       refine XC.adoptT (t := 13) 3 1 rfl <| XC.privT (α := Int) (t := 13) rfl rfl ?_
       refine bindK h2 (fun o24 hl3 h2 => ?_)
       refine XC.loopM (m23o_l2 x22 o6) (fun s3 => ⟨[(2, .v (.one (.ptr 1 0))), (4, .v (.one (.ptr 3 0))), (13, .v (.one (.apv 6 1 ((Enc.encL s3.1).length) []))), (49, .v (.one (.osl 0 0 nn nn))), (50, .v (.one (dI ((nn : Nat) : Int)))), (51, .v (.one (dI s2.1))), (56, .v (.one (dS x22))), (57, .v (.one (dI (x22.length : Int)))), (58, .v (.one (dI s3.2)))], [(0, .cells 48 (flatE a0)), (1, .cells 72 [dN, .d (.v (.map none))]), (2, .mp (gmE o6.1) o6.2), (3, .cells 72 [dA 4 s2.2, .mp 2]), (5, .cells 48 (cE x20))], [(4, some ⟨54, 1, (Enc.encL s2.2).length, []⟩), (6, some ⟨3, 1, (Enc.encL s3.1).length, (Enc.encL s3.1).flatten⟩)], 7, 88, []⟩) (([] : List Int), 0) o24 (stle (tR rfl (tR rfl (tR rfl (tR rfl (tR rfl (tR rfl (tR rfl (tR rfl (tR rfl tZ))))))))) (hR rfl (hR rfl (hR rfl (hR rfl (hR rfl hZ))))) (kR rfl (kR rfl kZ)) rfl (Nat.le_trans hv1 (lb rfl)) rfl rfl rfl (bF rfl (bB rfl rfl (bG rfl (bB rfl rfl (bB rfl rfl bZ))))) rfl rfl) hl3 (fun s3 n3 oo3 h3 ho3 => ?_)
       unfold m23o_l2 at h3
       refine XC.seq <| XC.region <| rR rfl rfl rfl (RO.binInt rfl rfl rfl) <| XL.nil <| XQ.seq <| XC.seq ?_
       refine XC.cond (b := (decide (s3.2 < (x22.length : Int)))) rfl (fun c25 => ?_) (fun c25 => ?_)
       ·
        replace h3 := condT c25 h3
        refine XC.skip <| XQ.seq <| XC.seq <| XC.block <| XC.seq <| XC.region ?_
        refine bindK h3 (fun x26 hx26 h3 => ?_)
        refine rR rfl rfl rfl (RO.indexE (α := Bs) sl_23 rfl (.d _) rfl hx26) <| rR rfl rfl rfl (RO.loadPel ag_9 rfl rfl) <| rA rfl rfl rfl <| XL.nil <| XQ.seq <| XC.seq <| XC.region <| rR rfl rfl rfl (RO.fieldOwn fo_72_1 rfl) <| rR rfl rfl rfl (RO.loadOwn ag_70 rfl rfl rfl) <| rM rfl rfl rfl <| rR rfl rfl rfl (RO.lookupGT (M := o6) (k := x26) mp_70 zok_int rfl rfl rfl) <| rM rfl rfl rfl <| rR rfl rfl rfl (RO.extract rfl rfl) <| rR rfl rfl rfl (RO.extract rfl rfl) ?_
        refine rA rfl rfl rfl <| rA rfl rfl rfl <| XL.nil <| XQ.seq <| XC.seq <| XC.seq <| XC.region <| rM rfl rfl rfl <| rR rfl rfl rfl (RO.not rfl) <| XL.nil <| XQ.seq ?_
        refine XC.cond (b := (!(gmHas o6 x26))) rfl (fun c27 => ?_) (fun c27 => ?_)
        ·
         replace h3 := condT c27 h3
         refine XC.seq <| XC.region <| rR rfl rfl rfl (RO.build0 bd_72 rfl ) <| XL.eff rfl rfl (OpOK.store ag_72 rfl rfl rfl rfl (lb rfl) rfl) <| rA rfl rfl rfl <| XL.nil <| XQ.seq <| XC.ret ?_
         have e_ := Option.some.inj h3
         subst e_
         have e_ : _ = _ := ho3
         subst e_
         try dsimp only [Sum.elim_inl, Sum.elim_inr] at h2
         have e_ := Option.some.inj h2
         subst e_
         have e_ : _ = _ := ho2
         subst e_
         try dsimp only [Sum.elim_inl, Sum.elim_inr] at h1
         have e_ := Option.some.inj h1
         subst e_
         exact hQ1 _ _ _ (.inr rfl) rfl (show StLe _ _ ⟨[(2, .v (.one (.ptr 1 0))), (3, .v (.one (dI 9)))], [(0, .cells 48 (flatE a0)), (1, .cells 72 [dN, .d (.v (.map none))])], [], 7, 88, []⟩ from (stle (tR rfl (tR rfl tZ)) (hR rfl (hR rfl hZ)) kZ rfl (Nat.le_trans hv1 (lb rfl)) rfl rfl rfl (bF rfl (bB rfl rfl bZ)) rfl rfl))
        ·
         replace h3 := condF c27 h3
         refine XC.skip <| XQ.seq <| XC.region <| rM rfl rfl rfl <| rM rfl rfl rfl <| XL.put rfl rfl (lb rfl) (OpOK.lit1E (α := Int) ((gmVal o6 x26)) sl_54 z_3 rfl rfl (lb rfl) (lb rfl) rfl rfl (.cons (.d _) .nil) rfl) ?_
         refine guardK h3 (fun g28 h3 => ?_)
         refine XL.put rfl rfl (lb rfl) (OpOK.appendPr (α := Int) (l := s3.1) (l2 := ([(gmVal o6 x26)] : List Int)) sl_54 el_3 rfl rfl rfl rfl (.app _ _) rfl g28) <| rA rfl rfl rfl <| XL.nil <| XQ.inBlock <| XQ.seq <| XC.region <| rR rfl rfl rfl (RO.binInt rfl rfl rfl) <| rM rfl rfl rfl <| XL.nil ?_
         have e_ := Option.some.inj h3
         subst e_
         refine XQ.nextM ((s3.1 ++ ([(gmVal o6 x26)])), (w64 (s3.2 + 1))) (stle (tR rfl (tR rfl (tR rfl (tR rfl (tR rfl (tR rfl (tR rfl (tR rfl (tR rfl tZ))))))))) (hR rfl (hR rfl (hR rfl (hR rfl (hR rfl hZ))))) (kR rfl (kR rfl kZ)) rfl (Nat.le_trans hv1 (lb rfl)) rfl rfl rfl (bF rfl (bB rfl rfl (bG rfl (bB rfl rfl (bB rfl rfl bZ))))) rfl rfl) ho3
       ·
        replace h3 := condF c25 h3
        refine XC.exit <| XQ.thenE <| XQ.thenE ?_
        have e_ := Option.some.inj h3
        subst e_
        have e_ : _ = _ := ho3
        subst e_
        exact XQ.joinX s3.1 (stle (tR rfl (tR rfl (tR rfl (tR rfl (tR rfl (tR rfl tZ)))))) (hR rfl (hR rfl (hR rfl (hR rfl (hR rfl hZ))))) (kR rfl (kR rfl kZ)) rfl (Nat.le_trans hv1 (lb rfl)) rfl rfl rfl (bF rfl (bB rfl rfl (bG rfl (bB rfl rfl (bB rfl rfl bZ))))) rfl rfl) h2
      ·
       intro o23 h2
       refine XQ.blockX <| XQ.seq <| XC.seq <| XC.region <| rM rfl rfl rfl ?_
       refine bindK h2 (fun x29 hx29 h2 => ?_)
       refine XL.put rfl rfl (lb rfl) (OpOK.callG (hp1' := []) (tk1' := [(6, some ⟨3, 1, (Enc.encL o23).length, (Enc.encL x29).flatten⟩)]) (hpF := [(0, .cells 48 (flatE a0)), (1, .cells 72 [dN, .d (.v (.map none))]), (2, .mp (gmE o6.1) o6.2), (3, .cells 72 [dA 4 s2.2, .mp 2]), (5, .cells 48 (cE x20))]) (tkF := [(4, some ⟨54, 1, (Enc.encL s2.2).length, []⟩)]) (res2 := resOf []) (nx2 := 7) [6] rfl rfl (sortF_ok o23 x29 hx29) rfl rfl qZ rfl rfl gZ (jR rfl jZ) (hR rfl (hR rfl (hR rfl (hR rfl (hR rfl hZ))))) (kR rfl kZ) rfl rfl rfl rfl rfl bZ rfl rfl rfl rfl) <| XL.nil <| XQ.seq ?_
       refine XC.anyRun [3, 5, 7] [(0, 1), (1, 1)] mixed (by kernel_rfl) (by kernel_rfl) (by kernel_rfl) ?_
       refine RunA.rd rfl rfl rfl (OpOK.of_ro (RO.fieldOwn fo_72_0 rfl)) rfl <| RunA.rd rfl rfl rfl (OpOK.of_ro (RO.loadOwn ag_57 rfl rfl rfl)) rfl <| RunA.rd rfl rfl rfl (OpOK.of_ro (RO.move rfl)) rfl ?_
       refine bindK h2 (fun x30 hx30 h2 => ?_)
       refine RunA.eff rfl rfl rfl (OpOK.callG (hp1' := []) (tk1' := [(7, some ⟨3, 1, (Enc.encL x30).length, []⟩)]) (hpF := [(0, .cells 48 (flatE a0)), (1, .cells 72 [dN, .d (.v (.map none))]), (2, .mp (gmE o6.1) o6.2), (3, .cells 72 [dA 4 s2.2, .mp 2]), (5, .cells 48 (cE x20))]) (tkF := [(4, some ⟨54, 1, (Enc.encL s2.2).length, []⟩)]) (res2 := resOf [.one (dA 7 x30)]) (nx2 := 8) [6] rfl rfl (compactF_ok x29 ((Enc.encL o23).length) x30 hx30) rfl rfl qZ rfl rfl gZ (jR rfl jZ) (hR rfl (hR rfl (hR rfl (hR rfl (hR rfl hZ))))) (kR rfl kZ) rfl rfl rfl rfl rfl bZ rfl rfl rfl rfl) rfl <| RunA.rd rfl rfl rfl (OpOK.data1E (α := List Int) (x30) sl_57 z_54 rfl rfl (lb rfl) rfl rfl (.cons (.app _ _ _) .nil) rfl) rfl ?_
       refine guardK h2 (fun g31 h2 => ?_)
       refine RunA.eff rfl rfl rfl (OpOK.appendE (α := List Int) sl_57 el_54 rfl rfl rfl rfl rfl (.d _) g31) rfl <| RunA.rd rfl rfl rfl (OpOK.of_ro (RO.fieldOwn fo_72_0 rfl)) rfl <| RunA.eff rfl rfl rfl (OpOK.store ag_57 rfl rfl rfl rfl (lb rfl) rfl) rfl ?_
       refine RunA.nil ⟨?ex, _, _, rfl, ?_⟩
       case ex => exact ⟨⟨_, rfl, _, _, rfl, rfl, rfl, .inl ⟨rfl, _, OpOK.of_ro (RO.fieldOwn fo_72_0 rfl), rfl⟩⟩, ⟨_, rfl, _, _, rfl, rfl, rfl, .inl ⟨rfl, _, OpOK.of_ro (RO.loadOwn ag_57 rfl rfl rfl), rfl⟩⟩, trivial⟩
       refine XQ.less (st' := ⟨[(2, .v (.one (.ptr 1 0))), (4, .v (.one (.ptr 3 0))), (49, .v (.one (.osl 0 0 nn nn))), (50, .v (.one (dI ((nn : Nat) : Int)))), (51, .v (.one (dI s2.1)))], [(0, .cells 48 (flatE a0)), (1, .cells 72 [dN, .d (.v (.map none))]), (2, .mp (gmE o6.1) o6.2), (3, .cells 72 [dA 4 ((s2.2 ++ ([x30])) : List (List Int)), .mp 2]), (5, .cells 48 (cE x20))], [(4, some ⟨54, 1, (Enc.encL ((s2.2 ++ ([x30])) : List (List Int))).length, []⟩), (7, some ⟨3, 1, (Enc.encL x30).length, []⟩)], 8, 88, []⟩) (stle (tR rfl (tR rfl (tR rfl (tR rfl (tR rfl tZ))))) (hR rfl (hR rfl (hR rfl (hR rfl (hR rfl hZ))))) (kR rfl (kR rfl kZ)) rfl (Nat.le_trans hv1 (lb rfl)) rfl rfl rfl (bF rfl (bB rfl rfl (bG rfl (bB rfl rfl (bB rfl rfl bZ))))) rfl rfl) <| XQ.inBlock <| XQ.seq <| XC.region <| rR rfl rfl rfl (RO.binInt rfl rfl rfl) <| rM rfl rfl rfl <| XL.nil ?_
       have e_ := Option.some.inj h2
       subst e_
       refine XQ.nextM ((w64 (s2.1 + 1)), (s2.2 ++ ([x30]))) (stle (tR rfl (tR rfl (tR rfl (tR rfl (tR rfl tZ))))) (hR rfl (hR rfl (hR rfl (hR rfl hZ)))) (kR rfl kZ) rfl (Nat.le_trans hv1 (lb rfl)) rfl rfl rfl (bF rfl (bB rfl rfl (bG rfl (bB rfl rfl bZ)))) rfl rfl) ho2
     ·
      replace h2 := condF c19 h2
      refine XC.exit <| XQ.thenE <| XQ.thenE ?_
      have e_ := Option.some.inj h2
      subst e_
      have e_ : _ = _ := ho2
      subst e_
      exact XQ.joinX s2.2 (stle (tR rfl (tR rfl tZ)) (hR rfl (hR rfl (hR rfl (hR rfl hZ)))) (kR rfl kZ) rfl (Nat.le_trans hv1 (lb rfl)) rfl rfl rfl (bF rfl (bB rfl rfl (bG rfl (bB rfl rfl bZ)))) rfl rfl) h1
    ·
     intro o17 h1
     refine XQ.blockX <| XQ.seq <| XC.seq <| XC.region <| rR rfl rfl rfl (RO.loadOwnAgg ag_72 rfl rfl rfl rfl) <| XL.eff rfl rfl (OpOK.store ag_72 rfl rfl rfl rfl (lb rfl) rfl) <| rA rfl rfl rfl <| XL.nil <| XQ.seq <| XC.ret ?_
     have e_ := Option.some.inj h1
     subst e_
     exact hQ1 _ _ _ (.inr rfl) rfl (show StLe _ _ ⟨[(2, .v (.one (.ptr 1 0))), (3, .v (.one (dI 0)))], [(0, .cells 48 (flatE a0)), (1, .cells 72 [dA 4 o17, .mp 2]), (2, .mp (gmE o6.1) o6.2)], [(4, some ⟨54, 1, (Enc.encL o17).length, []⟩)], 5, 88, []⟩ from (stle (tR rfl (tR rfl tZ)) (hR rfl (hR rfl (hR rfl hZ))) (kR rfl kZ) rfl (Nat.le_trans hv1 (lb rfl)) rfl rfl rfl (bF rfl (bB rfl rfl (bG rfl bZ))) rfl rfl))
  refine sumK (C := fun q_ => CallM Try.prog 34 [.one (.osl 0 0 nn nn)] ⟨[(0, .cells 48 (flatE a0))], [], 1⟩ (resOf (((Sum.elim (fun (y1 : (List (List Int)) × (GMap Bs Int)) => ([.agg [dA 4 y1.1, .mp 2], .one (dI 0)] : List AV)) (Sum.elim (fun (y2 : Unit) => ([.agg [dN, .d (.v (.map none))], .one (dI 8)] : List AV)) (fun (y3 : Unit) => ([.agg [dN, .d (.v (.map none))], .one (dI 9)] : List AV))))) q_)) ⟨(((Sum.elim (fun (y1 : (List (List Int)) × (GMap Bs Int)) => (⟨[(2, .v (.one (.ptr 1 0))), (3, .v (.one (dI 0)))], [(0, .cells 48 (flatE a0)), (1, .cells 72 [dA 4 y1.1, .mp 2]), (2, .mp (gmE y1.2.1) y1.2.2)], [(4, some ⟨54, 1, (Enc.encL y1.1).length, []⟩)], 5, 88, []⟩ : St)) (Sum.elim (fun (y2 : Unit) => (⟨[(2, .v (.one (.ptr 1 0))), (3, .v (.one (dI 8)))], [(0, .cells 48 (flatE a0)), (1, .cells 72 [dN, .d (.v (.map none))])], [], 5, 88, []⟩ : St)) (fun (y3 : Unit) => (⟨[(2, .v (.one (.ptr 1 0))), (3, .v (.one (dI 9)))], [(0, .cells 48 (flatE a0)), (1, .cells 72 [dN, .d (.v (.map none))])], [], 7, 88, []⟩ : St))))) q_).hp, (((Sum.elim (fun (y1 : (List (List Int)) × (GMap Bs Int)) => (⟨[(2, .v (.one (.ptr 1 0))), (3, .v (.one (dI 0)))], [(0, .cells 48 (flatE a0)), (1, .cells 72 [dA 4 y1.1, .mp 2]), (2, .mp (gmE y1.2.1) y1.2.2)], [(4, some ⟨54, 1, (Enc.encL y1.1).length, []⟩)], 5, 88, []⟩ : St)) (Sum.elim (fun (y2 : Unit) => (⟨[(2, .v (.one (.ptr 1 0))), (3, .v (.one (dI 8)))], [(0, .cells 48 (flatE a0)), (1, .cells 72 [dN, .d (.v (.map none))])], [], 5, 88, []⟩ : St)) (fun (y3 : Unit) => (⟨[(2, .v (.one (.ptr 1 0))), (3, .v (.one (dI 9)))], [(0, .cells 48 (flatE a0)), (1, .cells 72 [dN, .d (.v (.map none))])], [], 7, 88, []⟩ : St))))) q_).tk, (((Sum.elim (fun (y1 : (List (List Int)) × (GMap Bs Int)) => (⟨[(2, .v (.one (.ptr 1 0))), (3, .v (.one (dI 0)))], [(0, .cells 48 (flatE a0)), (1, .cells 72 [dA 4 y1.1, .mp 2]), (2, .mp (gmE y1.2.1) y1.2.2)], [(4, some ⟨54, 1, (Enc.encL y1.1).length, []⟩)], 5, 88, []⟩ : St)) (Sum.elim (fun (y2 : Unit) => (⟨[(2, .v (.one (.ptr 1 0))), (3, .v (.one (dI 8)))], [(0, .cells 48 (flatE a0)), (1, .cells 72 [dN, .d (.v (.map none))])], [], 5, 88, []⟩ : St)) (fun (y3 : Unit) => (⟨[(2, .v (.one (.ptr 1 0))), (3, .v (.one (dI 9)))], [(0, .cells 48 (flatE a0)), (1, .cells 72 [dN, .d (.v (.map none))])], [], 7, 88, []⟩ : St))))) q_).nx⟩) hc4 h0 (fun y1 hc4 h0 => ?_) (fun z_ hc4 h0 => sumK (C := fun q_ => CallM Try.prog 34 [.one (.osl 0 0 nn nn)] ⟨[(0, .cells 48 (flatE a0))], [], 1⟩ (resOf (((Sum.elim (fun (y1 : (List (List Int)) × (GMap Bs Int)) => ([.agg [dA 4 y1.1, .mp 2], .one (dI 0)] : List AV)) (Sum.elim (fun (y2 : Unit) => ([.agg [dN, .d (.v (.map none))], .one (dI 8)] : List AV)) (fun (y3 : Unit) => ([.agg [dN, .d (.v (.map none))], .one (dI 9)] : List AV))))) (.inr q_))) ⟨(((Sum.elim (fun (y1 : (List (List Int)) × (GMap Bs Int)) => (⟨[(2, .v (.one (.ptr 1 0))), (3, .v (.one (dI 0)))], [(0, .cells 48 (flatE a0)), (1, .cells 72 [dA 4 y1.1, .mp 2]), (2, .mp (gmE y1.2.1) y1.2.2)], [(4, some ⟨54, 1, (Enc.encL y1.1).length, []⟩)], 5, 88, []⟩ : St)) (Sum.elim (fun (y2 : Unit) => (⟨[(2, .v (.one (.ptr 1 0))), (3, .v (.one (dI 8)))], [(0, .cells 48 (flatE a0)), (1, .cells 72 [dN, .d (.v (.map none))])], [], 5, 88, []⟩ : St)) (fun (y3 : Unit) => (⟨[(2, .v (.one (.ptr 1 0))), (3, .v (.one (dI 9)))], [(0, .cells 48 (flatE a0)), (1, .cells 72 [dN, .d (.v (.map none))])], [], 7, 88, []⟩ : St))))) (.inr q_)).hp, (((Sum.elim (fun (y1 : (List (List Int)) × (GMap Bs Int)) => (⟨[(2, .v (.one (.ptr 1 0))), (3, .v (.one (dI 0)))], [(0, .cells 48 (flatE a0)), (1, .cells 72 [dA 4 y1.1, .mp 2]), (2, .mp (gmE y1.2.1) y1.2.2)], [(4, some ⟨54, 1, (Enc.encL y1.1).length, []⟩)], 5, 88, []⟩ : St)) (Sum.elim (fun (y2 : Unit) => (⟨[(2, .v (.one (.ptr 1 0))), (3, .v (.one (dI 8)))], [(0, .cells 48 (flatE a0)), (1, .cells 72 [dN, .d (.v (.map none))])], [], 5, 88, []⟩ : St)) (fun (y3 : Unit) => (⟨[(2, .v (.one (.ptr 1 0))), (3, .v (.one (dI 9)))], [(0, .cells 48 (flatE a0)), (1, .cells 72 [dN, .d (.v (.map none))])], [], 7, 88, []⟩ : St))))) (.inr q_)).tk, (((Sum.elim (fun (y1 : (List (List Int)) × (GMap Bs Int)) => (⟨[(2, .v (.one (.ptr 1 0))), (3, .v (.one (dI 0)))], [(0, .cells 48 (flatE a0)), (1, .cells 72 [dA 4 y1.1, .mp 2]), (2, .mp (gmE y1.2.1) y1.2.2)], [(4, some ⟨54, 1, (Enc.encL y1.1).length, []⟩)], 5, 88, []⟩ : St)) (Sum.elim (fun (y2 : Unit) => (⟨[(2, .v (.one (.ptr 1 0))), (3, .v (.one (dI 8)))], [(0, .cells 48 (flatE a0)), (1, .cells 72 [dN, .d (.v (.map none))])], [], 5, 88, []⟩ : St)) (fun (y3 : Unit) => (⟨[(2, .v (.one (.ptr 1 0))), (3, .v (.one (dI 9)))], [(0, .cells 48 (flatE a0)), (1, .cells 72 [dN, .d (.v (.map none))])], [], 7, 88, []⟩ : St))))) (.inr q_)).nx⟩) hc4 h0 (fun y2 hc4 h0 => ?_) (fun y3 hc4 h0 => ?_))
  ·
   replace hc4 : CallM Try.prog 34 [.one (.osl 0 0 nn nn)] ⟨[(0, .cells 48 (flatE a0))], [], 1⟩ (resOf [.agg [dA 4 y1.1, .mp 2], .one (dI 0)]) ⟨[(0, .cells 48 (flatE a0)), (1, .cells 72 [dA 4 y1.1, .mp 2]), (2, .mp (gmE y1.2.1) y1.2.2)], [(4, some ⟨54, 1, (Enc.encL y1.1).length, []⟩)], 5⟩ := hc4
   refine XL.put rfl rfl (lb rfl) (OpOK.callW rfl rfl rfl hc4 rfl (hR rfl hZ) kZ) <| rM rfl rfl rfl <| rR rfl rfl rfl (RO.extract rfl rfl) <| rR rfl rfl rfl (RO.extract rfl rfl) <| XL.put rfl rfl (lb rfl) (OpOK.alloc z_72 rfl) <| XL.eff rfl rfl (OpOK.store ag_72 rfl rfl rfl rfl (lb rfl) rfl) <| rA rfl rfl rfl <| XL.nil <| XQ.seq <| XC.seq <| XC.region <| rR rfl rfl rfl (RO.fieldOwn fo_72_0 rfl) <| rR rfl rfl rfl (RO.loadOwn ag_57 rfl rfl rfl) <| rM rfl rfl rfl ?_
   refine rA rfl rfl rfl <| rA rfl rfl rfl <| XL.nil <| XQ.seq <| XC.ret ?_
   have e_ := Option.some.inj h0
   subst e_
   exact hQ0 _ _ _ (.inr rfl) rfl (stle (tC rfl (.sub (.app _ _ _)) (tR rfl tZ)) (hR rfl hZ) kZ rfl (Nat.le_trans hv0 (lb rfl)) rfl rfl rfl (bF rfl bZ) rfl rfl)
  ·
   replace hc4 : CallM Try.prog 34 [.one (.osl 0 0 nn nn)] ⟨[(0, .cells 48 (flatE a0))], [], 1⟩ (resOf [.agg [dN, .d (.v (.map none))], .one (dI 8)]) ⟨[(0, .cells 48 (flatE a0)), (1, .cells 72 [dN, .d (.v (.map none))])], [], 5⟩ := hc4
   refine XL.put rfl rfl (lb rfl) (OpOK.callW rfl rfl rfl hc4 rfl (hR rfl hZ) kZ) <| rM rfl rfl rfl <| rR rfl rfl rfl (RO.extract rfl rfl) <| rR rfl rfl rfl (RO.extract rfl rfl) <| XL.put rfl rfl (lb rfl) (OpOK.alloc z_72 rfl) <| XL.eff rfl rfl (OpOK.store ag_72 rfl rfl rfl rfl (lb rfl) rfl) <| rA rfl rfl rfl <| XL.nil <| XQ.seq <| XC.seq <| XC.region <| rR rfl rfl rfl (RO.fieldOwn fo_72_0 rfl) <| rR rfl rfl rfl (RO.loadOwn ag_57 rfl rfl rfl) <| rM rfl rfl rfl ?_
   refine rA rfl rfl rfl <| rA rfl rfl rfl <| XL.nil <| XQ.seq <| XC.ret ?_
   have e_ := Option.some.inj h0
   subst e_
   exact hQ0 _ _ _ (.inr rfl) rfl (stle (tC rfl (.sub (.nil _)) (tR rfl tZ)) (hR rfl hZ) kZ rfl (Nat.le_trans hv0 (lb rfl)) rfl rfl rfl (bF rfl bZ) rfl rfl)
  ·
   replace hc4 : CallM Try.prog 34 [.one (.osl 0 0 nn nn)] ⟨[(0, .cells 48 (flatE a0))], [], 1⟩ (resOf [.agg [dN, .d (.v (.map none))], .one (dI 9)]) ⟨[(0, .cells 48 (flatE a0)), (1, .cells 72 [dN, .d (.v (.map none))])], [], 7⟩ := hc4
   refine XL.put rfl rfl (lb rfl) (OpOK.callW rfl rfl rfl hc4 rfl (hR rfl hZ) kZ) <| rM rfl rfl rfl <| rR rfl rfl rfl (RO.extract rfl rfl) <| rR rfl rfl rfl (RO.extract rfl rfl) <| XL.put rfl rfl (lb rfl) (OpOK.alloc z_72 rfl) <| XL.eff rfl rfl (OpOK.store ag_72 rfl rfl rfl rfl (lb rfl) rfl) <| rA rfl rfl rfl <| XL.nil <| XQ.seq <| XC.seq <| XC.region <| rR rfl rfl rfl (RO.fieldOwn fo_72_0 rfl) <| rR rfl rfl rfl (RO.loadOwn ag_57 rfl rfl rfl) <| rM rfl rfl rfl ?_
   refine rA rfl rfl rfl <| rA rfl rfl rfl <| XL.nil <| XQ.seq <| XC.ret ?_
   have e_ := Option.some.inj h0
   subst e_
   exact hQ0 _ _ _ (.inr rfl) rfl (stle (tC rfl (.sub (.nil _)) (tR rfl tZ)) (hR rfl hZ) kZ rfl (Nat.le_trans hv0 (lb rfl)) rfl rfl rfl (bF rfl bZ) rfl rfl)
end Go.Proofs.Ytijcchddnnnmdaa
namespace Go.Proofs.Ytijcchddnnnmdaa
open Go.RowKit Go.Shelf
set_option linter.unusedSimpArgs false
set_option linter.unusedVariables false
def m22o_l0 (x10 : (List Bs)) (s2 : Int × (GMap Bs Int)) (s3 : Int × (GMap Bs Int)) : Option (LO (Int × (GMap Bs Int)) (((GMap Bs Int)) ⊕ (((List (List Int)) × (GMap Bs Int)) ⊕ Unit ⊕ Unit))) :=
  cond (decide (s3.1 < (x10.length : Int)))
    (Option.bind (idx x10 s3.1) fun (x13 : Bs) =>
  cond (gmHas s3.2 x13)
    (some (.done (.inr (.inr (.inl ())))))
    (some (.next ((w64 (s3.1 + 1)), (gmSet s3.2 x13 s2.1)))))
    (some (.done (.inl s3.2)))
def m22o_l1 (nn : Nat) (a0 : List Dcl) (s2 : Int × (GMap Bs Int)) : Option (LO (Int × (GMap Bs Int)) (((GMap Bs Int)) ⊕ (((List (List Int)) × (GMap Bs Int)) ⊕ Unit ⊕ Unit))) :=
  cond (decide (s2.1 < ((nn : Nat) : Int)))
    (Option.bind (idx a0 s2.1) fun (x8 : Dcl) =>
  guardO (Nat.beq a0.length nn)
  (Option.bind (m37 x8) fun (x10 : (List Bs)) =>
  Option.bind (loopN (m22o_l0 x10 s2) FUEL (0, s2.2)) (Sum.elim (fun (o11 : (GMap Bs Int)) => some (.next ((w64 (s2.1 + 1)), o11))) (fun o => some (.done (.inr o))))))
    (some (.done (.inl s2.2)))
def m22o_l2 (x11 : (List Bs)) (o6 : (GMap Bs Int)) (s3 : (List Int) × Int) : Option (LO ((List Int) × Int) (((List Int)) ⊕ (((List (List Int)) × (GMap Bs Int)) ⊕ Unit ⊕ Unit))) :=
  cond (decide (s3.2 < (x11.length : Int)))
    (Option.bind (idx x11 s3.2) fun (x14 : Bs) =>
  cond (!(gmHas o6 x14))
    (some (.done (.inr (.inr (.inr ())))))
    (guardO (Nat.ble (s3.1.length + ([(gmVal o6 x14)]).length) 1000000000)
  (some (.next ((s3.1 ++ ([(gmVal o6 x14)])), (w64 (s3.2 + 1)))))))
    (some (.done (.inl s3.1)))
def m22o_l3 (nn : Nat) (a0 : List Dcl) (o6 : (GMap Bs Int)) (s2 : Int × (List (List Int))) : Option (LO (Int × (List (List Int))) (((List (List Int))) ⊕ (((List (List Int)) × (GMap Bs Int)) ⊕ Unit ⊕ Unit))) :=
  cond (decide (s2.1 < ((nn : Nat) : Int)))
    (Option.bind (idx a0 s2.1) fun (x9 : Dcl) =>
  guardO (Nat.beq a0.length nn)
  (Option.bind (m53 x9) fun (x11 : (List Bs)) =>
  Option.bind (loopN (m22o_l2 x11 o6) FUEL (([] : List Int), 0)) (Sum.elim (fun (o12 : (List Int)) => Option.bind (sortF o12) fun (x13 : List Int) =>
  Option.bind (compactF x13 ((Enc.encL o12).length)) fun (x14 : List Int) =>
  guardO (Nat.ble (s2.2.length + ([x14]).length) 1000000000)
  (some (.next ((w64 (s2.1 + 1)), (s2.2 ++ ([x14])))))) (fun o => some (.done (.inr o))))))
    (some (.done (.inl s2.2)))
def m22o_l4 (y1 : (List (List Int)) × (GMap Bs Int)) (s1 : (List Int) × (List Bool)) (nn : Nat) (s2 : Int) : Option (LO Int Int) :=
  cond (decide (s2 < (y1.1.length : Int)))
    (Option.bind (idx y1.1 s2) fun (x37 : List Int) =>
  Option.bind (Option.bind (idx s1.2 s2) fun (x39 : Bool) =>
  guardO (Nat.beq s1.2.length (((nn : Nat) : Int).toNat))
  (cond (!x39)
    (Option.bind (m43f5 x37 (((nn : Nat) : Int).toNat) s1.2) fun (x42 : Bool) =>
  some (!x42))
    (some false))) (fun (v38 : Bool) => cond v38
    (some (.done s2))
    (some (.next (w64 (s2 + 1))))))
    (some (.done (-1)))
def m22o_l5 (nn : Nat) (y1 : (List (List Int)) × (GMap Bs Int)) (s1 : (List Int) × (List Bool)) : Option (LO ((List Int) × (List Bool)) (((List Int) × (List Bool)) ⊕ (((List Int) × Int)))) :=
  cond (decide ((s1.1.length : Int) < ((nn : Nat) : Int)))
    (Option.bind (loopN (m22o_l4 y1 s1 nn) FUEL 0) (fun (o35 : Int) => cond (decide (o35 < 0))
    (some (.done (.inr (([] : List Int), 22))))
    (Option.bind (idx s1.2 o35) fun (x37 : Bool) =>
  guardO (Nat.beq s1.2.length (((nn : Nat) : Int).toNat))
  (guardO (Nat.ble (s1.1.length + ([o35]).length) 1000000000)
  (some (.next ((s1.1 ++ ([o35])), (s1.2.set o35.toNat true))))))))
    (some (.done (.inl (s1.1, s1.2))))
def m22o (a0 : List Dcl) (nn : Nat) : Option ((List Int) × Int) :=
  Option.bind (Option.bind (loopN (m22o_l1 nn a0) FUEL (0, gmNil)) (Sum.elim (fun (o6 : (GMap Bs Int)) => Option.bind (loopN (m22o_l3 nn a0 o6) FUEL (0, ([] : List (List Int)))) (Sum.elim (fun (o7 : (List (List Int))) => some (.inl (o7, o6))) (fun o => some o))) (fun o => some o))) (Sum.elim (fun (y1 : (List (List Int)) × (GMap Bs Int)) => guardO (cond (decide (0 ≤ ((nn : Nat) : Int))) (Nat.ble (1 * ((nn : Nat) : Int).toNat) 281474976710656) false)
  (Option.bind (loopN (m22o_l5 nn y1) FUEL (([] : List Int), (List.replicate ((nn : Nat) : Int).toNat false))) (Sum.elim (fun (o33 : (List Int) × (List Bool)) => some (o33.1, 0)) (fun o => some o)))) (Sum.elim (fun (y2 : Unit) => some (([] : List Int), 8)) (fun (y3 : Unit) => some (([] : List Int), 9))))
set_option maxRecDepth 100000 in
set_option maxHeartbeats 2000000 in
theorem m22o_ok (a0 : List Dcl) (nn : Nat) (r : (List Int) × Int) (h0 : m22o a0 nn = some r) : CallM Try.prog 22 [.one (.osl 0 0 nn nn)] ⟨[(0, .cells 48 (flatE a0))], [], 1⟩ (resOf [.one (dS r.1), .one (dI r.2)]) ⟨[(0, .cells 48 (flatE a0))], [], 6⟩ := by
  unfold m22o at h0
  refine CallM.of_bodyD ⟨[(2, .v (.one (dS r.1))), (3, .v (.one (dI r.2)))], [(0, .cells 48 (flatE a0))], [], 6, 58, []⟩ rfl rfl en_22 (lb rfl) rfl (RAs.tmp rfl (RAs.tmp rfl .nil)) (fun w0 M V0 Q hv0 hQ0 => ?_)
  simp only [entry]
  refine XC.seq <| XC.region <| rA rfl rfl rfl <| rA rfl rfl rfl <| XL.nil <| XQ.seq <| XC.seq <| XC.region <| rM rfl rfl rfl ?_
  refine bindK h0 (fun y5 h1 h0 => ?_)
  have hc4 : CallM Try.prog 34 [.one (.osl 0 0 nn nn)] ⟨[(0, .cells 48 (flatE a0))], [], 1⟩ (resOf (((Sum.elim (fun (y1 : (List (List Int)) × (GMap Bs Int)) => ([.agg [dA 4 y1.1, .mp 2], .one (dI 0)] : List AV)) (Sum.elim (fun (y2 : Unit) => ([.agg [dN, .d (.v (.map none))], .one (dI 8)] : List AV)) (fun (y3 : Unit) => ([.agg [dN, .d (.v (.map none))], .one (dI 9)] : List AV))))) y5)) ⟨(((Sum.elim (fun (y1 : (List (List Int)) × (GMap Bs Int)) => (⟨[(2, .v (.one (.ptr 1 0))), (3, .v (.one (dI 0)))], [(0, .cells 48 (flatE a0)), (1, .cells 72 [dA 4 y1.1, .mp 2]), (2, .mp (gmE y1.2.1) y1.2.2)], [(4, some ⟨54, 1, (Enc.encL y1.1).length, []⟩)], 5, 88, []⟩ : St)) (Sum.elim (fun (y2 : Unit) => (⟨[(2, .v (.one (.ptr 1 0))), (3, .v (.one (dI 8)))], [(0, .cells 48 (flatE a0)), (1, .cells 72 [dN, .d (.v (.map none))])], [], 5, 88, []⟩ : St)) (fun (y3 : Unit) => (⟨[(2, .v (.one (.ptr 1 0))), (3, .v (.one (dI 9)))], [(0, .cells 48 (flatE a0)), (1, .cells 72 [dN, .d (.v (.map none))])], [], 7, 88, []⟩ : St))))) y5).hp, (((Sum.elim (fun (y1 : (List (List Int)) × (GMap Bs Int)) => (⟨[(2, .v (.one (.ptr 1 0))), (3, .v (.one (dI 0)))], [(0, .cells 48 (flatE a0)), (1, .cells 72 [dA 4 y1.1, .mp 2]), (2, .mp (gmE y1.2.1) y1.2.2)], [(4, some ⟨54, 1, (Enc.encL y1.1).length, []⟩)], 5, 88, []⟩ : St)) (Sum.elim (fun (y2 : Unit) => (⟨[(2, .v (.one (.ptr 1 0))), (3, .v (.one (dI 8)))], [(0, .cells 48 (flatE a0)), (1, .cells 72 [dN, .d (.v (.map none))])], [], 5, 88, []⟩ : St)) (fun (y3 : Unit) => (⟨[(2, .v (.one (.ptr 1 0))), (3, .v (.one (dI 9)))], [(0, .cells 48 (flatE a0)), (1, .cells 72 [dN, .d (.v (.map none))])], [], 7, 88, []⟩ : St))))) y5).tk, (((Sum.elim (fun (y1 : (List (List Int)) × (GMap Bs Int)) => (⟨[(2, .v (.one (.ptr 1 0))), (3, .v (.one (dI 0)))], [(0, .cells 48 (flatE a0)), (1, .cells 72 [dA 4 y1.1, .mp 2]), (2, .mp (gmE y1.2.1) y1.2.2)], [(4, some ⟨54, 1, (Enc.encL y1.1).length, []⟩)], 5, 88, []⟩ : St)) (Sum.elim (fun (y2 : Unit) => (⟨[(2, .v (.one (.ptr 1 0))), (3, .v (.one (dI 8)))], [(0, .cells 48 (flatE a0)), (1, .cells 72 [dN, .d (.v (.map none))])], [], 5, 88, []⟩ : St)) (fun (y3 : Unit) => (⟨[(2, .v (.one (.ptr 1 0))), (3, .v (.one (dI 9)))], [(0, .cells 48 (flatE a0)), (1, .cells 72 [dN, .d (.v (.map none))])], [], 7, 88, []⟩ : St))))) y5).nx⟩ := by
   refine CallM.of_bodyT y5 ((Sum.elim (fun (y1 : (List (List Int)) × (GMap Bs Int)) => (⟨[(2, .v (.one (.ptr 1 0))), (3, .v (.one (dI 0)))], [(0, .cells 48 (flatE a0)), (1, .cells 72 [dA 4 y1.1, .mp 2]), (2, .mp (gmE y1.2.1) y1.2.2)], [(4, some ⟨54, 1, (Enc.encL y1.1).length, []⟩)], 5, 88, []⟩ : St)) (Sum.elim (fun (y2 : Unit) => (⟨[(2, .v (.one (.ptr 1 0))), (3, .v (.one (dI 8)))], [(0, .cells 48 (flatE a0)), (1, .cells 72 [dN, .d (.v (.map none))])], [], 5, 88, []⟩ : St)) (fun (y3 : Unit) => (⟨[(2, .v (.one (.ptr 1 0))), (3, .v (.one (dI 9)))], [(0, .cells 48 (flatE a0)), (1, .cells 72 [dN, .d (.v (.map none))])], [], 7, 88, []⟩ : St))))) ((Sum.elim (fun (y1 : (List (List Int)) × (GMap Bs Int)) => ([.agg [dA 4 y1.1, .mp 2], .one (dI 0)] : List AV)) (Sum.elim (fun (y2 : Unit) => ([.agg [dN, .d (.v (.map none))], .one (dI 8)] : List AV)) (fun (y3 : Unit) => ([.agg [dN, .d (.v (.map none))], .one (dI 9)] : List AV))))) rfl rfl en_34 (lb rfl) (fun z_ => by cases z_ with
     | inl _ => rfl
     | inr z_ => exact (by cases z_ <;> rfl)) (fun z_ => by cases z_ with
     | inl _ => exact (RAs.agg ag_72 rfl rfl rfl rfl (RAs.tmp rfl .nil))
     | inr z_ => exact (by cases z_ with
     | inl _ => exact (RAs.agg ag_72 rfl rfl rfl rfl (RAs.tmp rfl .nil))
     | inr _ => exact (RAs.agg ag_72 rfl rfl rfl rfl (RAs.tmp rfl .nil)))) (fun w0 M V0 Q hv1 hQ1 => ?_)
   simp only [entry]
   refine XC.seq <| XC.region <| XL.put rfl rfl (lb rfl) (OpOK.alloc z_72 rfl) <| rA rfl rfl rfl <| XL.nil <| XQ.seq <| XC.seq <| XC.region <| XL.put rfl rfl (lb rfl) (OpOK.makeMapG Bs Int) <| rR rfl rfl rfl (RO.build1 bd_72 rfl rfl rfl) <| XL.put rfl rfl (lb rfl) (OpOK.alloc z_72 rfl) <| XL.eff rfl rfl (OpOK.store ag_72 rfl rfl rfl rfl (lb rfl) rfl) <| XL.nil <| XQ.seq ?_
   refine XC.seq <| XC.seq <| XC.region <| rM rfl rfl rfl <| rR rfl rfl rfl (RO.lenOsl sl_22 rfl) <| rM rfl rfl rfl <| XL.nil <| XQ.seq <| XC.block ?_
   refine XC.joinX 0 (fun (o6 : (GMap Bs Int)) => ⟨[(0, .v (.one (.osl 0 0 nn nn))), (2, .v (.one (.ptr 1 0))), (4, .v (.one (.ptr 3 0)))], [(0, .cells 48 (flatE a0)), (1, .cells 72 [dN, .d (.v (.map none))]), (2, .mp (gmE o6.1) o6.2), (3, .cells 72 [dN, .mp 2])], [], 4, 88, []⟩) (fun (o6 : (GMap Bs Int)) => (Option.bind (loopN (m22o_l3 nn a0 o6) FUEL (0, ([] : List (List Int)))) (Sum.elim (fun (o7 : (List (List Int))) => some (.inl (o7, o6))) (fun o => some o))) = some y5) ?_ ?_
   ·
    refine bindK h1 (fun o7 hl2 h1 => ?_)
    refine XC.loopM (m22o_l1 nn a0) (fun s2 => ⟨[(0, .v (.one (.osl 0 0 nn nn))), (2, .v (.one (.ptr 1 0))), (4, .v (.one (.ptr 3 0))), (20, .v (.one (.osl 0 0 nn nn))), (21, .v (.one (dI ((nn : Nat) : Int)))), (22, .v (.one (dI s2.1)))], [(0, .cells 48 (flatE a0)), (1, .cells 72 [dN, .d (.v (.map none))]), (2, .mp (gmE s2.2.1) s2.2.2), (3, .cells 72 [dN, .mp 2])], [], 4, 88, []⟩) (0, gmNil) o7 (stle (tR rfl (tR rfl (tR rfl (tR rfl (tR rfl (tR rfl tZ)))))) (hR rfl (hR rfl (hR rfl (hR rfl hZ)))) kZ rfl (Nat.le_trans hv1 (lb rfl)) rfl rfl rfl (bF rfl (bB rfl rfl (bG rfl (bB rfl rfl bZ)))) rfl rfl) hl2 (fun s2 n2 oo2 h2 ho2 => ?_)
    unfold m22o_l1 at h2
    refine XC.seq <| XC.region <| rR rfl rfl rfl (RO.binInt rfl rfl rfl) <| XL.nil <| XQ.seq <| XC.seq ?_
    refine XC.cond (b := (decide (s2.1 < ((nn : Nat) : Int)))) rfl (fun c8 => ?_) (fun c8 => ?_)
    ·
     replace h2 := condT c8 h2
     refine XC.skip <| XQ.seq <| XC.seq <| XC.block <| XC.seq <| XC.region <| rM rfl rfl rfl ?_
     refine bindK h2 (fun x9 hx9 h2 => ?_)
     refine guardK h2 (fun g10 h2 => ?_)
     refine rR rfl rfl rfl (RO.indexO (α := Dcl) sl_22 rfl rfl hx9 g10) <| rR rfl rfl rfl (RO.loadOE (α := Dcl) (ys := [dI x9.kind, dS8 x9.name, dI x9.params, dI x9.ty.kind, dI x9.ty.index, dS8 x9.ty.name, dS x9.ty.levels, dS x9.ty.kids, dI x9.value.kind, dI x9.value.index, dS8 x9.value.name, dS x9.value.levels, dS x9.value.kids, dI x9.fixed, dS x9.ctors, dI x9.rcr.params, dI x9.rcr.ty.kind, dI x9.rcr.ty.index, dS8 x9.rcr.ty.name, dS x9.rcr.ty.levels, dS x9.rcr.ty.kids, dS x9.rcr.rules, dS x9.funs]) ag_48 rfl rfl hx9 rfl) <| XL.put rfl rfl (lb rfl) (OpOK.alloc z_48 rfl) <| rA rfl rfl rfl <| XL.eff rfl rfl (OpOK.storeCE (x9 : Dcl) ag_48 rfl rfl rfl rfl rfl) <| XL.nil <| XQ.seq <| XC.seq <| XC.region <| rR rfl rfl rfl (RO.loadCE (x9 : Dcl) ag_48 rfl rfl) ?_
     refine bindK h2 (fun x11 hx11 h2 => ?_)
     refine XL.put rfl rfl (lb rfl) (OpOK.callFun (m37_ok x9 x11 hx11) rfl (.cons (.agg (.cons (.d _) (.cons (.d _) (.cons (.d _) (.cons (.d _) (.cons (.d _) (.cons (.d _) (.cons (.d _) (.cons (.d _) (.cons (.d _) (.cons (.d _) (.cons (.d _) (.cons (.d _) (.cons (.d _) (.cons (.d _) (.cons (.d _) (.cons (.d _) (.cons (.d _) (.cons (.d _) (.cons (.d _) (.cons (.d _) (.cons (.d _) (.cons (.d _) (.cons (.d _) .nil)))))))))))))))))))))))) .nil)) <| rR rfl rfl rfl (RO.lenE (α := Bs) sl_23 rfl (.d _)) <| rM rfl rfl rfl <| XL.nil <| XQ.seq <| XC.block ?_
     refine XC.joinX 2 (fun (o12 : (GMap Bs Int)) => ⟨[(0, .v (.one (.osl 0 0 nn nn))), (2, .v (.one (.ptr 1 0))), (4, .v (.one (.ptr 3 0))), (20, .v (.one (.osl 0 0 nn nn))), (21, .v (.one (dI ((nn : Nat) : Int)))), (22, .v (.one (dI s2.1)))], [(0, .cells 48 (flatE a0)), (1, .cells 72 [dN, .d (.v (.map none))]), (2, .mp (gmE o12.1) o12.2), (3, .cells 72 [dN, .mp 2]), (4, .cells 48 (cE x9))], [], 5, 88, []⟩) (fun (o12 : (GMap Bs Int)) => (some (.next ((w64 (s2.1 + 1)), o12))) = some oo2) ?_ ?_
     ·
      refine bindK h2 (fun o13 hl3 h2 => ?_)
      refine XC.loopM (m22o_l0 x11 s2) (fun s3 => ⟨[(0, .v (.one (.osl 0 0 nn nn))), (2, .v (.one (.ptr 1 0))), (4, .v (.one (.ptr 3 0))), (5, .v (.one (dI s2.1))), (20, .v (.one (.osl 0 0 nn nn))), (21, .v (.one (dI ((nn : Nat) : Int)))), (22, .v (.one (dI s2.1))), (28, .v (.one (dS x11))), (29, .v (.one (dI (x11.length : Int)))), (30, .v (.one (dI s3.1)))], [(0, .cells 48 (flatE a0)), (1, .cells 72 [dN, .d (.v (.map none))]), (2, .mp (gmE s3.2.1) s3.2.2), (3, .cells 72 [dN, .mp 2]), (4, .cells 48 (cE x9))], [], 5, 88, []⟩) (0, s2.2) o13 (stle (tR rfl (tR rfl (tR rfl (tR rfl (tR rfl (tR rfl (tR rfl (tR rfl (tR rfl (tR rfl tZ)))))))))) (hR rfl (hR rfl (hR rfl (hR rfl (hR rfl hZ))))) kZ rfl (Nat.le_trans hv1 (lb rfl)) rfl rfl rfl (bF rfl (bB rfl rfl (bG rfl (bB rfl rfl (bB rfl rfl bZ))))) rfl rfl) hl3 (fun s3 n3 oo3 h3 ho3 => ?_)
      unfold m22o_l0 at h3
      refine XC.seq <| XC.region <| rR rfl rfl rfl (RO.binInt rfl rfl rfl) <| XL.nil <| XQ.seq <| XC.seq ?_
      refine XC.cond (b := (decide (s3.1 < (x11.length : Int)))) rfl (fun c14 => ?_) (fun c14 => ?_)
      ·
       replace h3 := condT c14 h3
       refine XC.skip <| XQ.seq <| XC.seq <| XC.block <| XC.seq <| XC.region ?_
       refine bindK h3 (fun x15 hx15 h3 => ?_)
       refine rR rfl rfl rfl (RO.indexE (α := Bs) sl_23 rfl (.d _) rfl hx15) <| rR rfl rfl rfl (RO.loadPel ag_9 rfl rfl) <| rA rfl rfl rfl <| XL.nil <| XQ.seq <| XC.seq <| XC.seq <| XC.region <| rR rfl rfl rfl (RO.fieldOwn fo_72_1 rfl) <| rR rfl rfl rfl (RO.loadOwn ag_70 rfl rfl rfl) <| rM rfl rfl rfl <| rR rfl rfl rfl (RO.lookupGT (M := s3.2) (k := x15) mp_70 zok_int rfl rfl rfl) <| rM rfl rfl rfl <| rR rfl rfl rfl (RO.extract rfl rfl) ?_
       refine rR rfl rfl rfl (RO.extract rfl rfl) <| rA rfl rfl rfl <| rA rfl rfl rfl <| XL.nil <| XQ.seq <| XC.seq <| XC.region <| rM rfl rfl rfl <| XL.nil <| XQ.seq ?_
       refine XC.cond (b := (gmHas s3.2 x15)) rfl (fun c16 => ?_) (fun c16 => ?_)
       ·
        replace h3 := condT c16 h3
        refine XC.seq <| XC.region <| rR rfl rfl rfl (RO.build0 bd_72 rfl ) <| XL.eff rfl rfl (OpOK.store ag_72 rfl rfl rfl rfl (lb rfl) rfl) <| rA rfl rfl rfl <| XL.nil <| XQ.seq <| XC.ret ?_
        have e_ := Option.some.inj h3
        subst e_
        have e_ : _ = _ := ho3
        subst e_
        try dsimp only [Sum.elim_inl, Sum.elim_inr] at h2
        have e_ := Option.some.inj h2
        subst e_
        have e_ : _ = _ := ho2
        subst e_
        try dsimp only [Sum.elim_inl, Sum.elim_inr] at h1
        have e_ := Option.some.inj h1
        subst e_
        exact hQ1 _ _ _ (.inr rfl) rfl (show StLe _ _ ⟨[(2, .v (.one (.ptr 1 0))), (3, .v (.one (dI 8)))], [(0, .cells 48 (flatE a0)), (1, .cells 72 [dN, .d (.v (.map none))])], [], 5, 88, []⟩ from (stle (tR rfl (tR rfl tZ)) (hR rfl (hR rfl hZ)) kZ rfl (Nat.le_trans hv1 (lb rfl)) rfl rfl rfl (bF rfl (bB rfl rfl bZ)) rfl rfl))
       ·
        replace h3 := condF c16 h3
        refine XC.skip <| XQ.seq <| XC.region <| rR rfl rfl rfl (RO.fieldOwn fo_72_1 rfl) <| rR rfl rfl rfl (RO.loadOwn ag_70 rfl rfl rfl) <| rM rfl rfl rfl <| rM rfl rfl rfl <| XL.eff rfl rfl (OpOK.mapSetG (M := s3.2) (k := x15) (v := s2.1) mp_70 rfl rfl rfl rfl rfl) <| XL.nil <| XQ.inBlock <| XQ.seq <| XC.region <| rR rfl rfl rfl (RO.binInt rfl rfl rfl) <| rM rfl rfl rfl ?_
        refine XL.nil ?_
        have e_ := Option.some.inj h3
        subst e_
        refine XQ.nextM ((w64 (s3.1 + 1)), (gmSet s3.2 x15 s2.1)) (stle (tR rfl (tR rfl (tR rfl (tR rfl (tR rfl (tR rfl (tR rfl (tR rfl (tR rfl (tR rfl tZ)))))))))) (hR rfl (hR rfl (hR rfl (hR rfl (hR rfl hZ))))) kZ rfl (Nat.le_trans hv1 (lb rfl)) rfl rfl rfl (bF rfl (bB rfl rfl (bG rfl (bB rfl rfl (bB rfl rfl bZ))))) rfl rfl) ho3
      ·
       replace h3 := condF c14 h3
       refine XC.exit <| XQ.thenE <| XQ.thenE ?_
       have e_ := Option.some.inj h3
       subst e_
       have e_ : _ = _ := ho3
       subst e_
       exact XQ.joinX s3.2 (stle (tR rfl (tR rfl (tR rfl (tR rfl (tR rfl (tR rfl tZ)))))) (hR rfl (hR rfl (hR rfl (hR rfl (hR rfl hZ))))) kZ rfl (Nat.le_trans hv1 (lb rfl)) rfl rfl rfl (bF rfl (bB rfl rfl (bG rfl (bB rfl rfl (bB rfl rfl bZ))))) rfl rfl) h2
     ·
      intro o12 h2
      refine XQ.blockX <| XQ.inBlock <| XQ.seq <| XC.region <| rR rfl rfl rfl (RO.binInt rfl rfl rfl) <| rM rfl rfl rfl <| XL.nil ?_
      have e_ := Option.some.inj h2
      subst e_
      refine XQ.nextM ((w64 (s2.1 + 1)), o12) (stle (tR rfl (tR rfl (tR rfl (tR rfl (tR rfl (tR rfl tZ)))))) (hR rfl (hR rfl (hR rfl (hR rfl hZ)))) kZ rfl (Nat.le_trans hv1 (lb rfl)) rfl rfl rfl (bF rfl (bB rfl rfl (bG rfl (bB rfl rfl bZ)))) rfl rfl) ho2
    ·
     replace h2 := condF c8 h2
     refine XC.exit <| XQ.thenE <| XQ.thenE ?_
     have e_ := Option.some.inj h2
     subst e_
     have e_ : _ = _ := ho2
     subst e_
     exact XQ.joinX s2.2 (stle (tR rfl (tR rfl (tR rfl tZ))) (hR rfl (hR rfl (hR rfl (hR rfl hZ)))) kZ rfl (Nat.le_trans hv1 (lb rfl)) rfl rfl rfl (bF rfl (bB rfl rfl (bG rfl (bB rfl rfl bZ)))) rfl rfl) h1
   ·
    intro o6 h1
    refine XQ.blockX <| XQ.seq <| XC.seq <| XC.seq <| XC.region <| rM rfl rfl rfl <| rR rfl rfl rfl (RO.lenOsl sl_22 rfl) <| rM rfl rfl rfl <| XL.nil <| XQ.seq <| XC.block ?_
    refine XC.joinX 4 (fun (o17 : (List (List Int))) => ⟨[(2, .v (.one (.ptr 1 0))), (4, .v (.one (.ptr 3 0)))], [(0, .cells 48 (flatE a0)), (1, .cells 72 [dN, .d (.v (.map none))]), (2, .mp (gmE o6.1) o6.2), (3, .cells 72 [dA 4 o17, .mp 2])], [(4, some ⟨54, 1, (Enc.encL o17).length, []⟩)], 5, 88, []⟩) (fun (o17 : (List (List Int))) => (some (.inl (o17, o6))) = some y5) ?_ ?_
    ·
     refine XC.adoptC (i := 3) (off := 0) 54 1 rfl rfl ?_
     refine bindK h1 (fun o18 hl2 h1 => ?_)
     refine XC.loopM (m22o_l3 nn a0 o6) (fun s2 => ⟨[(2, .v (.one (.ptr 1 0))), (4, .v (.one (.ptr 3 0))), (49, .v (.one (.osl 0 0 nn nn))), (50, .v (.one (dI ((nn : Nat) : Int)))), (51, .v (.one (dI s2.1)))], [(0, .cells 48 (flatE a0)), (1, .cells 72 [dN, .d (.v (.map none))]), (2, .mp (gmE o6.1) o6.2), (3, .cells 72 [dA 4 s2.2, .mp 2])], [(4, some ⟨54, 1, (Enc.encL s2.2).length, []⟩)], 5, 88, []⟩) (0, ([] : List (List Int))) o18 (stle (tR rfl (tR rfl (tR rfl (tR rfl (tR rfl tZ))))) (hR rfl (hR rfl (hR rfl (hR rfl hZ)))) (kR rfl kZ) rfl (Nat.le_trans hv1 (lb rfl)) rfl rfl rfl (bF rfl (bB rfl rfl (bG rfl (bB rfl rfl bZ)))) rfl rfl) hl2 (fun s2 n2 oo2 h2 ho2 => ?_)
     unfold m22o_l3 at h2
     refine XC.seq <| XC.region <| rR rfl rfl rfl (RO.binInt rfl rfl rfl) <| XL.nil <| XQ.seq <| XC.seq ?_
     refine XC.cond (b := (decide (s2.1 < ((nn : Nat) : Int)))) rfl (fun c19 => ?_) (fun c19 => ?_)
     ·
      replace h2 := condT c19 h2
      refine XC.skip <| XQ.seq <| XC.seq <| XC.block <| XC.seq <| XC.region ?_
      refine bindK h2 (fun x20 hx20 h2 => ?_)
      refine guardK h2 (fun g21 h2 => ?_)
      refine rR rfl rfl rfl (RO.indexO (α := Dcl) sl_22 rfl rfl hx20 g21) <| rR rfl rfl rfl (RO.loadOE (α := Dcl) (ys := [dI x20.kind, dS8 x20.name, dI x20.params, dI x20.ty.kind, dI x20.ty.index, dS8 x20.ty.name, dS x20.ty.levels, dS x20.ty.kids, dI x20.value.kind, dI x20.value.index, dS8 x20.value.name, dS x20.value.levels, dS x20.value.kids, dI x20.fixed, dS x20.ctors, dI x20.rcr.params, dI x20.rcr.ty.kind, dI x20.rcr.ty.index, dS8 x20.rcr.ty.name, dS x20.rcr.ty.levels, dS x20.rcr.ty.kids, dS x20.rcr.rules, dS x20.funs]) ag_48 rfl rfl hx20 rfl) <| XL.put rfl rfl (lb rfl) (OpOK.alloc z_48 rfl) <| XL.eff rfl rfl (OpOK.storeCE (x20 : Dcl) ag_48 rfl rfl rfl rfl rfl) <| XL.nil <| XQ.seq <| XC.seq <| XC.region <| rA rfl rfl rfl <| XL.nil <| XQ.seq <| XC.seq <| XC.seq <| XC.region ?_
      refine rR rfl rfl rfl (RO.loadCE (x20 : Dcl) ag_48 rfl rfl) ?_
      refine bindK h2 (fun x22 hx22 h2 => ?_)
      refine XL.put rfl rfl (lb rfl) (OpOK.callFun (m53_ok x20 x22 hx22) rfl (.cons (.agg (.cons (.d _) (.cons (.d _) (.cons (.d _) (.cons (.d _) (.cons (.d _) (.cons (.d _) (.cons (.d _) (.cons (.d _) (.cons (.d _) (.cons (.d _) (.cons (.d _) (.cons (.d _) (.cons (.d _) (.cons (.d _) (.cons (.d _) (.cons (.d _) (.cons (.d _) (.cons (.d _) (.cons (.d _) (.cons (.d _) (.cons (.d _) (.cons (.d _) (.cons (.d _) .nil)))))))))))))))))))))))) .nil)) <| rR rfl rfl rfl (RO.lenE (α := Bs) sl_23 rfl (.d _)) <| rM rfl rfl rfl <| XL.nil <| XQ.seq <| XC.block ?_
      refine XC.joinX 6 (fun (o23 : (List Int)) => ⟨[(2, .v (.one (.ptr 1 0))), (4, .v (.one (.ptr 3 0))), (13, .v (.one (.apv 6 1 ((Enc.encL o23).length) []))), (49, .v (.one (.osl 0 0 nn nn))), (50, .v (.one (dI ((nn : Nat) : Int)))), (51, .v (.one (dI s2.1)))], [(0, .cells 48 (flatE a0)), (1, .cells 72 [dN, .d (.v (.map none))]), (2, .mp (gmE o6.1) o6.2), (3, .cells 72 [dA 4 s2.2, .mp 2]), (5, .cells 48 (cE x20))], [(4, some ⟨54, 1, (Enc.encL s2.2).length, []⟩), (6, some ⟨3, 1, (Enc.encL o23).length, (Enc.encL o23).flatten⟩)], 7, 88, []⟩) (fun (o23 : (List Int)) => (Option.bind (sortF o23) fun (x24 : List Int) =>
        Option.bind (compactF x24 ((Enc.encL o23).length)) fun (x25 : List Int) =>
        guardO (Nat.ble (s2.2.length + ([x25]).length) 1000000000)
        (some (.next ((w64 (s2.1 + 1)), (s2.2 ++ ([x25])))))) = some oo2) ?_ ?_
      ·
       refine XC.adoptT (t := 13) 3 1 rfl <| XC.privT (α := Int) (t := 13) rfl rfl ?_
       refine bindK h2 (fun o24 hl3 h2 => ?_)
       refine XC.loopM (m22o_l2 x22 o6) (fun s3 => ⟨[(2, .v (.one (.ptr 1 0))), (4, .v (.one (.ptr 3 0))), (13, .v (.one (.apv 6 1 ((Enc.encL s3.1).length) []))), (49, .v (.one (.osl 0 0 nn nn))), (50, .v (.one (dI ((nn : Nat) : Int)))), (51, .v (.one (dI s2.1))), (56, .v (.one (dS x22))), (57, .v (.one (dI (x22.length : Int)))), (58, .v (.one (dI s3.2)))], [(0, .cells 48 (flatE a0)), (1, .cells 72 [dN, .d (.v (.map none))]), (2, .mp (gmE o6.1) o6.2), (3, .cells 72 [dA 4 s2.2, .mp 2]), (5, .cells 48 (cE x20))], [(4, some ⟨54, 1, (Enc.encL s2.2).length, []⟩), (6, some ⟨3, 1, (Enc.encL s3.1).length, (Enc.encL s3.1).flatten⟩)], 7, 88, []⟩) (([] : List Int), 0) o24 (stle (tR rfl (tR rfl (tR rfl (tR rfl (tR rfl (tR rfl (tR rfl (tR rfl (tR rfl tZ))))))))) (hR rfl (hR rfl (hR rfl (hR rfl (hR rfl hZ))))) (kR rfl (kR rfl kZ)) rfl (Nat.le_trans hv1 (lb rfl)) rfl rfl rfl (bF rfl (bB rfl rfl (bG rfl (bB rfl rfl (bB rfl rfl bZ))))) rfl rfl) hl3 (fun s3 n3 oo3 h3 ho3 => ?_)
       unfold m22o_l2 at h3
       refine XC.seq <| XC.region <| rR rfl rfl rfl (RO.binInt rfl rfl rfl) <| XL.nil <| XQ.seq <| XC.seq ?_
       refine XC.cond (b := (decide (s3.2 < (x22.length : Int)))) rfl (fun c25 => ?_) (fun c25 => ?_)
       ·
        replace h3 := condT c25 h3
        refine XC.skip <| XQ.seq <| XC.seq <| XC.block <| XC.seq <| XC.region ?_
        refine bindK h3 (fun x26 hx26 h3 => ?_)
        refine rR rfl rfl rfl (RO.indexE (α := Bs) sl_23 rfl (.d _) rfl hx26) <| rR rfl rfl rfl (RO.loadPel ag_9 rfl rfl) <| rA rfl rfl rfl <| XL.nil <| XQ.seq <| XC.seq <| XC.region <| rR rfl rfl rfl (RO.fieldOwn fo_72_1 rfl) <| rR rfl rfl rfl (RO.loadOwn ag_70 rfl rfl rfl) <| rM rfl rfl rfl <| rR rfl rfl rfl (RO.lookupGT (M := o6) (k := x26) mp_70 zok_int rfl rfl rfl) <| rM rfl rfl rfl <| rR rfl rfl rfl (RO.extract rfl rfl) <| rR rfl rfl rfl (RO.extract rfl rfl) ?_
        refine rA rfl rfl rfl <| rA rfl rfl rfl <| XL.nil <| XQ.seq <| XC.seq <| XC.seq <| XC.region <| rM rfl rfl rfl <| rR rfl rfl rfl (RO.not rfl) <| XL.nil <| XQ.seq ?_
        refine XC.cond (b := (!(gmHas o6 x26))) rfl (fun c27 => ?_) (fun c27 => ?_)
        ·
         replace h3 := condT c27 h3
         refine XC.seq <| XC.region <| rR rfl rfl rfl (RO.build0 bd_72 rfl ) <| XL.eff rfl rfl (OpOK.store ag_72 rfl rfl rfl rfl (lb rfl) rfl) <| rA rfl rfl rfl <| XL.nil <| XQ.seq <| XC.ret ?_
         have e_ := Option.some.inj h3
         subst e_
         have e_ : _ = _ := ho3
         subst e_
         try dsimp only [Sum.elim_inl, Sum.elim_inr] at h2
         have e_ := Option.some.inj h2
         subst e_
         have e_ : _ = _ := ho2
         subst e_
         try dsimp only [Sum.elim_inl, Sum.elim_inr] at h1
         have e_ := Option.some.inj h1
         subst e_
         exact hQ1 _ _ _ (.inr rfl) rfl (show StLe _ _ ⟨[(2, .v (.one (.ptr 1 0))), (3, .v (.one (dI 9)))], [(0, .cells 48 (flatE a0)), (1, .cells 72 [dN, .d (.v (.map none))])], [], 7, 88, []⟩ from (stle (tR rfl (tR rfl tZ)) (hR rfl (hR rfl hZ)) kZ rfl (Nat.le_trans hv1 (lb rfl)) rfl rfl rfl (bF rfl (bB rfl rfl bZ)) rfl rfl))
        ·
         replace h3 := condF c27 h3
         refine XC.skip <| XQ.seq <| XC.region <| rM rfl rfl rfl <| rM rfl rfl rfl <| XL.put rfl rfl (lb rfl) (OpOK.lit1E (α := Int) ((gmVal o6 x26)) sl_54 z_3 rfl rfl (lb rfl) (lb rfl) rfl rfl (.cons (.d _) .nil) rfl) ?_
         refine guardK h3 (fun g28 h3 => ?_)
         refine XL.put rfl rfl (lb rfl) (OpOK.appendPr (α := Int) (l := s3.1) (l2 := ([(gmVal o6 x26)] : List Int)) sl_54 el_3 rfl rfl rfl rfl (.app _ _) rfl g28) <| rA rfl rfl rfl <| XL.nil <| XQ.inBlock <| XQ.seq <| XC.region <| rR rfl rfl rfl (RO.binInt rfl rfl rfl) <| rM rfl rfl rfl <| XL.nil ?_
         have e_ := Option.some.inj h3
         subst e_
         refine XQ.nextM ((s3.1 ++ ([(gmVal o6 x26)])), (w64 (s3.2 + 1))) (stle (tR rfl (tR rfl (tR rfl (tR rfl (tR rfl (tR rfl (tR rfl (tR rfl (tR rfl tZ))))))))) (hR rfl (hR rfl (hR rfl (hR rfl (hR rfl hZ))))) (kR rfl (kR rfl kZ)) rfl (Nat.le_trans hv1 (lb rfl)) rfl rfl rfl (bF rfl (bB rfl rfl (bG rfl (bB rfl rfl (bB rfl rfl bZ))))) rfl rfl) ho3
       ·
        replace h3 := condF c25 h3
        refine XC.exit <| XQ.thenE <| XQ.thenE ?_
        have e_ := Option.some.inj h3
        subst e_
        have e_ : _ = _ := ho3
        subst e_
        exact XQ.joinX s3.1 (stle (tR rfl (tR rfl (tR rfl (tR rfl (tR rfl (tR rfl tZ)))))) (hR rfl (hR rfl (hR rfl (hR rfl (hR rfl hZ))))) (kR rfl (kR rfl kZ)) rfl (Nat.le_trans hv1 (lb rfl)) rfl rfl rfl (bF rfl (bB rfl rfl (bG rfl (bB rfl rfl (bB rfl rfl bZ))))) rfl rfl) h2
      ·
       intro o23 h2
       refine XQ.blockX <| XQ.seq <| XC.seq <| XC.region <| rM rfl rfl rfl ?_
       refine bindK h2 (fun x29 hx29 h2 => ?_)
       refine XL.put rfl rfl (lb rfl) (OpOK.callG (hp1' := []) (tk1' := [(6, some ⟨3, 1, (Enc.encL o23).length, (Enc.encL x29).flatten⟩)]) (hpF := [(0, .cells 48 (flatE a0)), (1, .cells 72 [dN, .d (.v (.map none))]), (2, .mp (gmE o6.1) o6.2), (3, .cells 72 [dA 4 s2.2, .mp 2]), (5, .cells 48 (cE x20))]) (tkF := [(4, some ⟨54, 1, (Enc.encL s2.2).length, []⟩)]) (res2 := resOf []) (nx2 := 7) [6] rfl rfl (sortF_ok o23 x29 hx29) rfl rfl qZ rfl rfl gZ (jR rfl jZ) (hR rfl (hR rfl (hR rfl (hR rfl (hR rfl hZ))))) (kR rfl kZ) rfl rfl rfl rfl rfl bZ rfl rfl rfl rfl) <| XL.nil <| XQ.seq ?_
       refine XC.anyRun [3, 5, 7] [(0, 1), (1, 1)] mixed (by kernel_rfl) (by kernel_rfl) (by kernel_rfl) ?_
       refine RunA.rd rfl rfl rfl (OpOK.of_ro (RO.fieldOwn fo_72_0 rfl)) rfl <| RunA.rd rfl rfl rfl (OpOK.of_ro (RO.loadOwn ag_57 rfl rfl rfl)) rfl <| RunA.rd rfl rfl rfl (OpOK.of_ro (RO.move rfl)) rfl ?_
       refine bindK h2 (fun x30 hx30 h2 => ?_)
       refine RunA.eff rfl rfl rfl (OpOK.callG (hp1' := []) (tk1' := [(7, some ⟨3, 1, (Enc.encL x30).length, []⟩)]) (hpF := [(0, .cells 48 (flatE a0)), (1, .cells 72 [dN, .d (.v (.map none))]), (2, .mp (gmE o6.1) o6.2), (3, .cells 72 [dA 4 s2.2, .mp 2]), (5, .cells 48 (cE x20))]) (tkF := [(4, some ⟨54, 1, (Enc.encL s2.2).length, []⟩)]) (res2 := resOf [.one (dA 7 x30)]) (nx2 := 8) [6] rfl rfl (compactF_ok x29 ((Enc.encL o23).length) x30 hx30) rfl rfl qZ rfl rfl gZ (jR rfl jZ) (hR rfl (hR rfl (hR rfl (hR rfl (hR rfl hZ))))) (kR rfl kZ) rfl rfl rfl rfl rfl bZ rfl rfl rfl rfl) rfl <| RunA.rd rfl rfl rfl (OpOK.data1E (α := List Int) (x30) sl_57 z_54 rfl rfl (lb rfl) rfl rfl (.cons (.app _ _ _) .nil) rfl) rfl ?_
       refine guardK h2 (fun g31 h2 => ?_)
       refine RunA.eff rfl rfl rfl (OpOK.appendE (α := List Int) sl_57 el_54 rfl rfl rfl rfl rfl (.d _) g31) rfl <| RunA.rd rfl rfl rfl (OpOK.of_ro (RO.fieldOwn fo_72_0 rfl)) rfl <| RunA.eff rfl rfl rfl (OpOK.store ag_57 rfl rfl rfl rfl (lb rfl) rfl) rfl ?_
       refine RunA.nil ⟨?ex, _, _, rfl, ?_⟩
       case ex => exact ⟨⟨_, rfl, _, _, rfl, rfl, rfl, .inl ⟨rfl, _, OpOK.of_ro (RO.fieldOwn fo_72_0 rfl), rfl⟩⟩, ⟨_, rfl, _, _, rfl, rfl, rfl, .inl ⟨rfl, _, OpOK.of_ro (RO.loadOwn ag_57 rfl rfl rfl), rfl⟩⟩, trivial⟩
       refine XQ.less (st' := ⟨[(2, .v (.one (.ptr 1 0))), (4, .v (.one (.ptr 3 0))), (49, .v (.one (.osl 0 0 nn nn))), (50, .v (.one (dI ((nn : Nat) : Int)))), (51, .v (.one (dI s2.1)))], [(0, .cells 48 (flatE a0)), (1, .cells 72 [dN, .d (.v (.map none))]), (2, .mp (gmE o6.1) o6.2), (3, .cells 72 [dA 4 ((s2.2 ++ ([x30])) : List (List Int)), .mp 2]), (5, .cells 48 (cE x20))], [(4, some ⟨54, 1, (Enc.encL ((s2.2 ++ ([x30])) : List (List Int))).length, []⟩), (7, some ⟨3, 1, (Enc.encL x30).length, []⟩)], 8, 88, []⟩) (stle (tR rfl (tR rfl (tR rfl (tR rfl (tR rfl tZ))))) (hR rfl (hR rfl (hR rfl (hR rfl (hR rfl hZ))))) (kR rfl (kR rfl kZ)) rfl (Nat.le_trans hv1 (lb rfl)) rfl rfl rfl (bF rfl (bB rfl rfl (bG rfl (bB rfl rfl (bB rfl rfl bZ))))) rfl rfl) <| XQ.inBlock <| XQ.seq <| XC.region <| rR rfl rfl rfl (RO.binInt rfl rfl rfl) <| rM rfl rfl rfl <| XL.nil ?_
       have e_ := Option.some.inj h2
       subst e_
       refine XQ.nextM ((w64 (s2.1 + 1)), (s2.2 ++ ([x30]))) (stle (tR rfl (tR rfl (tR rfl (tR rfl (tR rfl tZ))))) (hR rfl (hR rfl (hR rfl (hR rfl hZ)))) (kR rfl kZ) rfl (Nat.le_trans hv1 (lb rfl)) rfl rfl rfl (bF rfl (bB rfl rfl (bG rfl (bB rfl rfl bZ)))) rfl rfl) ho2
     ·
      replace h2 := condF c19 h2
      refine XC.exit <| XQ.thenE <| XQ.thenE ?_
      have e_ := Option.some.inj h2
      subst e_
      have e_ : _ = _ := ho2
      subst e_
      exact XQ.joinX s2.2 (stle (tR rfl (tR rfl tZ)) (hR rfl (hR rfl (hR rfl (hR rfl hZ)))) (kR rfl kZ) rfl (Nat.le_trans hv1 (lb rfl)) rfl rfl rfl (bF rfl (bB rfl rfl (bG rfl (bB rfl rfl bZ)))) rfl rfl) h1
    ·
     intro o17 h1
     refine XQ.blockX <| XQ.seq <| XC.seq <| XC.region <| rR rfl rfl rfl (RO.loadOwnAgg ag_72 rfl rfl rfl rfl) <| XL.eff rfl rfl (OpOK.store ag_72 rfl rfl rfl rfl (lb rfl) rfl) <| rA rfl rfl rfl <| XL.nil <| XQ.seq <| XC.ret ?_
     have e_ := Option.some.inj h1
     subst e_
     exact hQ1 _ _ _ (.inr rfl) rfl (show StLe _ _ ⟨[(2, .v (.one (.ptr 1 0))), (3, .v (.one (dI 0)))], [(0, .cells 48 (flatE a0)), (1, .cells 72 [dA 4 o17, .mp 2]), (2, .mp (gmE o6.1) o6.2)], [(4, some ⟨54, 1, (Enc.encL o17).length, []⟩)], 5, 88, []⟩ from (stle (tR rfl (tR rfl tZ)) (hR rfl (hR rfl (hR rfl hZ))) (kR rfl kZ) rfl (Nat.le_trans hv1 (lb rfl)) rfl rfl rfl (bF rfl (bB rfl rfl (bG rfl bZ))) rfl rfl))
  refine sumK (C := fun q_ => CallM Try.prog 34 [.one (.osl 0 0 nn nn)] ⟨[(0, .cells 48 (flatE a0))], [], 1⟩ (resOf (((Sum.elim (fun (y1 : (List (List Int)) × (GMap Bs Int)) => ([.agg [dA 4 y1.1, .mp 2], .one (dI 0)] : List AV)) (Sum.elim (fun (y2 : Unit) => ([.agg [dN, .d (.v (.map none))], .one (dI 8)] : List AV)) (fun (y3 : Unit) => ([.agg [dN, .d (.v (.map none))], .one (dI 9)] : List AV))))) q_)) ⟨(((Sum.elim (fun (y1 : (List (List Int)) × (GMap Bs Int)) => (⟨[(2, .v (.one (.ptr 1 0))), (3, .v (.one (dI 0)))], [(0, .cells 48 (flatE a0)), (1, .cells 72 [dA 4 y1.1, .mp 2]), (2, .mp (gmE y1.2.1) y1.2.2)], [(4, some ⟨54, 1, (Enc.encL y1.1).length, []⟩)], 5, 88, []⟩ : St)) (Sum.elim (fun (y2 : Unit) => (⟨[(2, .v (.one (.ptr 1 0))), (3, .v (.one (dI 8)))], [(0, .cells 48 (flatE a0)), (1, .cells 72 [dN, .d (.v (.map none))])], [], 5, 88, []⟩ : St)) (fun (y3 : Unit) => (⟨[(2, .v (.one (.ptr 1 0))), (3, .v (.one (dI 9)))], [(0, .cells 48 (flatE a0)), (1, .cells 72 [dN, .d (.v (.map none))])], [], 7, 88, []⟩ : St))))) q_).hp, (((Sum.elim (fun (y1 : (List (List Int)) × (GMap Bs Int)) => (⟨[(2, .v (.one (.ptr 1 0))), (3, .v (.one (dI 0)))], [(0, .cells 48 (flatE a0)), (1, .cells 72 [dA 4 y1.1, .mp 2]), (2, .mp (gmE y1.2.1) y1.2.2)], [(4, some ⟨54, 1, (Enc.encL y1.1).length, []⟩)], 5, 88, []⟩ : St)) (Sum.elim (fun (y2 : Unit) => (⟨[(2, .v (.one (.ptr 1 0))), (3, .v (.one (dI 8)))], [(0, .cells 48 (flatE a0)), (1, .cells 72 [dN, .d (.v (.map none))])], [], 5, 88, []⟩ : St)) (fun (y3 : Unit) => (⟨[(2, .v (.one (.ptr 1 0))), (3, .v (.one (dI 9)))], [(0, .cells 48 (flatE a0)), (1, .cells 72 [dN, .d (.v (.map none))])], [], 7, 88, []⟩ : St))))) q_).tk, (((Sum.elim (fun (y1 : (List (List Int)) × (GMap Bs Int)) => (⟨[(2, .v (.one (.ptr 1 0))), (3, .v (.one (dI 0)))], [(0, .cells 48 (flatE a0)), (1, .cells 72 [dA 4 y1.1, .mp 2]), (2, .mp (gmE y1.2.1) y1.2.2)], [(4, some ⟨54, 1, (Enc.encL y1.1).length, []⟩)], 5, 88, []⟩ : St)) (Sum.elim (fun (y2 : Unit) => (⟨[(2, .v (.one (.ptr 1 0))), (3, .v (.one (dI 8)))], [(0, .cells 48 (flatE a0)), (1, .cells 72 [dN, .d (.v (.map none))])], [], 5, 88, []⟩ : St)) (fun (y3 : Unit) => (⟨[(2, .v (.one (.ptr 1 0))), (3, .v (.one (dI 9)))], [(0, .cells 48 (flatE a0)), (1, .cells 72 [dN, .d (.v (.map none))])], [], 7, 88, []⟩ : St))))) q_).nx⟩) hc4 h0 (fun y1 hc4 h0 => ?_) (fun z_ hc4 h0 => sumK (C := fun q_ => CallM Try.prog 34 [.one (.osl 0 0 nn nn)] ⟨[(0, .cells 48 (flatE a0))], [], 1⟩ (resOf (((Sum.elim (fun (y1 : (List (List Int)) × (GMap Bs Int)) => ([.agg [dA 4 y1.1, .mp 2], .one (dI 0)] : List AV)) (Sum.elim (fun (y2 : Unit) => ([.agg [dN, .d (.v (.map none))], .one (dI 8)] : List AV)) (fun (y3 : Unit) => ([.agg [dN, .d (.v (.map none))], .one (dI 9)] : List AV))))) (.inr q_))) ⟨(((Sum.elim (fun (y1 : (List (List Int)) × (GMap Bs Int)) => (⟨[(2, .v (.one (.ptr 1 0))), (3, .v (.one (dI 0)))], [(0, .cells 48 (flatE a0)), (1, .cells 72 [dA 4 y1.1, .mp 2]), (2, .mp (gmE y1.2.1) y1.2.2)], [(4, some ⟨54, 1, (Enc.encL y1.1).length, []⟩)], 5, 88, []⟩ : St)) (Sum.elim (fun (y2 : Unit) => (⟨[(2, .v (.one (.ptr 1 0))), (3, .v (.one (dI 8)))], [(0, .cells 48 (flatE a0)), (1, .cells 72 [dN, .d (.v (.map none))])], [], 5, 88, []⟩ : St)) (fun (y3 : Unit) => (⟨[(2, .v (.one (.ptr 1 0))), (3, .v (.one (dI 9)))], [(0, .cells 48 (flatE a0)), (1, .cells 72 [dN, .d (.v (.map none))])], [], 7, 88, []⟩ : St))))) (.inr q_)).hp, (((Sum.elim (fun (y1 : (List (List Int)) × (GMap Bs Int)) => (⟨[(2, .v (.one (.ptr 1 0))), (3, .v (.one (dI 0)))], [(0, .cells 48 (flatE a0)), (1, .cells 72 [dA 4 y1.1, .mp 2]), (2, .mp (gmE y1.2.1) y1.2.2)], [(4, some ⟨54, 1, (Enc.encL y1.1).length, []⟩)], 5, 88, []⟩ : St)) (Sum.elim (fun (y2 : Unit) => (⟨[(2, .v (.one (.ptr 1 0))), (3, .v (.one (dI 8)))], [(0, .cells 48 (flatE a0)), (1, .cells 72 [dN, .d (.v (.map none))])], [], 5, 88, []⟩ : St)) (fun (y3 : Unit) => (⟨[(2, .v (.one (.ptr 1 0))), (3, .v (.one (dI 9)))], [(0, .cells 48 (flatE a0)), (1, .cells 72 [dN, .d (.v (.map none))])], [], 7, 88, []⟩ : St))))) (.inr q_)).tk, (((Sum.elim (fun (y1 : (List (List Int)) × (GMap Bs Int)) => (⟨[(2, .v (.one (.ptr 1 0))), (3, .v (.one (dI 0)))], [(0, .cells 48 (flatE a0)), (1, .cells 72 [dA 4 y1.1, .mp 2]), (2, .mp (gmE y1.2.1) y1.2.2)], [(4, some ⟨54, 1, (Enc.encL y1.1).length, []⟩)], 5, 88, []⟩ : St)) (Sum.elim (fun (y2 : Unit) => (⟨[(2, .v (.one (.ptr 1 0))), (3, .v (.one (dI 8)))], [(0, .cells 48 (flatE a0)), (1, .cells 72 [dN, .d (.v (.map none))])], [], 5, 88, []⟩ : St)) (fun (y3 : Unit) => (⟨[(2, .v (.one (.ptr 1 0))), (3, .v (.one (dI 9)))], [(0, .cells 48 (flatE a0)), (1, .cells 72 [dN, .d (.v (.map none))])], [], 7, 88, []⟩ : St))))) (.inr q_)).nx⟩) hc4 h0 (fun y2 hc4 h0 => ?_) (fun y3 hc4 h0 => ?_))
  ·
   replace hc4 : CallM Try.prog 34 [.one (.osl 0 0 nn nn)] ⟨[(0, .cells 48 (flatE a0))], [], 1⟩ (resOf [.agg [dA 4 y1.1, .mp 2], .one (dI 0)]) ⟨[(0, .cells 48 (flatE a0)), (1, .cells 72 [dA 4 y1.1, .mp 2]), (2, .mp (gmE y1.2.1) y1.2.2)], [(4, some ⟨54, 1, (Enc.encL y1.1).length, []⟩)], 5⟩ := hc4
   refine XL.put rfl rfl (lb rfl) (OpOK.callW rfl rfl rfl hc4 rfl (hR rfl hZ) kZ) <| rM rfl rfl rfl <| rR rfl rfl rfl (RO.extract rfl rfl) <| rR rfl rfl rfl (RO.extract rfl rfl) <| XL.put rfl rfl (lb rfl) (OpOK.alloc z_72 rfl) <| XL.eff rfl rfl (OpOK.store ag_72 rfl rfl rfl rfl (lb rfl) rfl) <| rA rfl rfl rfl <| XL.nil <| XQ.seq <| XC.seq <| XC.seq <| XC.region <| rM rfl rfl rfl <| rR rfl rfl rfl (RO.binInt rfl rfl rfl) ?_
   refine XL.nil <| XQ.seq ?_
   refine XC.cond rfl (fun h => nomatch h) (fun _ => ?_)
   refine XC.skip <| XQ.seq <| XC.seq <| XC.region <| rA rfl rfl rfl <| XL.nil <| XQ.seq <| XC.seq <| XC.region <| rM rfl rfl rfl <| rR rfl rfl rfl (RO.lenOsl sl_22 rfl) ?_
   refine guardK h0 (fun g32 h0 => ?_)
   refine XL.put rfl rfl (lb rfl) (OpOK.makeO (α := Bool) (z := false) sl_75 z_4 rfl rfl el_4 rfl rfl g32 rfl (by repeat (first | exact CLs.nil | refine CLs.cons (by first | exact .refl _ | exact .sub (.app _ _ _) | exact .sub (.nil _)) ?_))) ?_
   refine XL.put rfl rfl (lb rfl) (OpOK.alloc z_75 rfl) <| XL.eff rfl rfl (OpOK.store ag_75 rfl rfl rfl rfl (lb rfl) rfl) <| XL.nil <| XQ.seq <| XC.seq <| XC.block ?_
   refine XC.joinX 0 (fun (o33 : (List Int) × (List Bool)) => ⟨[(6, .v (.one (dA 8 o33.1)))], [(0, .cells 48 (flatE a0)), (1, .cells 72 [dA 4 y1.1, .mp 2]), (2, .mp (gmE y1.2.1) y1.2.2), (5, .cells 72 [dA 4 y1.1, .mp 2]), (6, .cells 4 (flatE o33.2)), (7, .cells 75 [.osl 6 0 (((nn : Nat) : Int).toNat) (((nn : Nat) : Int).toNat)])], [(4, some ⟨54, 1, (Enc.encL y1.1).length, []⟩), (8, some ⟨3, 1, (Enc.encL o33.1).length, []⟩)], 9, 58, []⟩) (fun (o33 : (List Int) × (List Bool)) => (some (o33.1, 0)) = some r) ?_ ?_
   ·
    refine XC.adoptT (t := 6) 3 1 rfl ?_
    refine bindK h0 (fun o34 hl1 h0 => ?_)
    refine XC.loopM (m22o_l5 nn y1) (fun s1 => ⟨[(0, .v (.one (.osl 0 0 nn nn))), (4, .v (.one (.ptr 5 0))), (6, .v (.one (dA 8 s1.1))), (7, .v (.one (.ptr 7 0)))], [(0, .cells 48 (flatE a0)), (1, .cells 72 [dA 4 y1.1, .mp 2]), (2, .mp (gmE y1.2.1) y1.2.2), (5, .cells 72 [dA 4 y1.1, .mp 2]), (6, .cells 4 (flatE s1.2)), (7, .cells 75 [.osl 6 0 (((nn : Nat) : Int).toNat) (((nn : Nat) : Int).toNat)])], [(4, some ⟨54, 1, (Enc.encL y1.1).length, []⟩), (8, some ⟨3, 1, (Enc.encL s1.1).length, []⟩)], 9, 58, []⟩) (([] : List Int), (List.replicate ((nn : Nat) : Int).toNat false)) o34 (stle (tR rfl (tR rfl (tR rfl (tR rfl tZ)))) (hR rfl (hR rfl (hR rfl (hR rfl (hR rfl (hR rfl hZ)))))) (kR rfl (kR rfl kZ)) rfl (Nat.le_trans hv0 (lb rfl)) rfl rfl rfl (bF rfl (bB rfl rfl (bG rfl (bB rfl rfl (bF rfl (bB rfl rfl bZ)))))) rfl rfl) hl1 (fun s1 n1 oo1 h1 ho1 => ?_)
    unfold m22o_l5 at h1
    refine XC.seq <| XC.seq <| XC.region <| rM rfl rfl rfl <| rR rfl rfl rfl (RO.lenE (α := Int) sl_54 rfl (.app _ _)) <| rM rfl rfl rfl <| rR rfl rfl rfl (RO.lenOsl sl_22 rfl) <| rR rfl rfl rfl (RO.binInt rfl rfl rfl) <| XL.nil <| XQ.seq ?_
    refine XC.cond (b := (decide ((s1.1.length : Int) < ((nn : Nat) : Int)))) rfl (fun c35 => ?_) (fun c35 => ?_)
    ·
     replace h1 := condT c35 h1
     refine XC.skip <| XQ.seq <| XC.block <| XC.seq <| XC.region <| rA rfl rfl rfl <| XL.nil <| XQ.seq <| XC.seq <| XC.seq <| XC.region <| rR rfl rfl rfl (RO.fieldOwn fo_72_0 rfl) <| rR rfl rfl rfl (RO.loadOwn ag_57 rfl rfl rfl) <| rR rfl rfl rfl (RO.lenE (α := List Int) sl_57 rfl (.app _ _)) ?_
     refine rM rfl rfl rfl <| XL.nil <| XQ.seq <| XC.block ?_
     refine XC.joinX 2 (fun (o36 : Int) => ⟨[(0, .v (.one (.osl 0 0 nn nn))), (4, .v (.one (.ptr 5 0))), (6, .v (.one (dA 8 s1.1))), (7, .v (.one (.ptr 7 0))), (8, .v (.one (dI o36)))], [(0, .cells 48 (flatE a0)), (1, .cells 72 [dA 4 y1.1, .mp 2]), (2, .mp (gmE y1.2.1) y1.2.2), (5, .cells 72 [dA 4 y1.1, .mp 2]), (6, .cells 4 (flatE s1.2)), (7, .cells 75 [.osl 6 0 (((nn : Nat) : Int).toNat) (((nn : Nat) : Int).toNat)])], [(4, some ⟨54, 1, (Enc.encL y1.1).length, []⟩), (8, some ⟨3, 1, (Enc.encL s1.1).length, []⟩)], 9, 58, []⟩) (fun (o36 : Int) => (cond (decide (o36 < 0))
         (some (.done (.inr (([] : List Int), 22))))
         (Option.bind (idx s1.2 o36) fun (x38 : Bool) =>
       guardO (Nat.beq s1.2.length (((nn : Nat) : Int).toNat))
       (guardO (Nat.ble (s1.1.length + ([o36]).length) 1000000000)
       (some (.next ((s1.1 ++ ([o36])), (s1.2.set o36.toNat true))))))) = some oo1) ?_ ?_
     ·
      refine bindK h1 (fun o37 hl2 h1 => ?_)
      refine XC.loopM (m22o_l4 y1 s1 nn) (fun s2 => ⟨[(0, .v (.one (.osl 0 0 nn nn))), (4, .v (.one (.ptr 5 0))), (6, .v (.one (dA 8 s1.1))), (7, .v (.one (.ptr 7 0))), (8, .v (.one (dI (-1)))), (28, .v (.one (dA 4 y1.1))), (29, .v (.one (dI (y1.1.length : Int)))), (30, .v (.one (dI s2)))], [(0, .cells 48 (flatE a0)), (1, .cells 72 [dA 4 y1.1, .mp 2]), (2, .mp (gmE y1.2.1) y1.2.2), (5, .cells 72 [dA 4 y1.1, .mp 2]), (6, .cells 4 (flatE s1.2)), (7, .cells 75 [.osl 6 0 (((nn : Nat) : Int).toNat) (((nn : Nat) : Int).toNat)])], [(4, some ⟨54, 1, (Enc.encL y1.1).length, []⟩), (8, some ⟨3, 1, (Enc.encL s1.1).length, []⟩)], 9, 58, []⟩) 0 o37 (stle (tR rfl (tR rfl (tR rfl (tR rfl (tR rfl (tR rfl (tR rfl (tR rfl tZ)))))))) (hR rfl (hR rfl (hR rfl (hR rfl (hR rfl (hR rfl hZ)))))) (kR rfl (kR rfl kZ)) rfl (Nat.le_trans hv0 (lb rfl)) rfl rfl rfl (bF rfl (bB rfl rfl (bG rfl (bB rfl rfl (bF rfl (bB rfl rfl bZ)))))) rfl rfl) hl2 (fun s2 n2 oo2 h2 ho2 => ?_)
      unfold m22o_l4 at h2
      refine XC.seq <| XC.region <| rR rfl rfl rfl (RO.binInt rfl rfl rfl) <| XL.nil <| XQ.seq <| XC.seq ?_
      refine XC.cond (b := (decide (s2 < (y1.1.length : Int)))) rfl (fun c38 => ?_) (fun c38 => ?_)
      ·
       replace h2 := condT c38 h2
       refine XC.skip <| XQ.seq <| XC.seq <| XC.block <| XC.seq <| XC.region <| rM rfl rfl rfl ?_
       refine bindK h2 (fun x39 hx39 h2 => ?_)
       refine rR rfl rfl rfl (RO.indexE (α := List Int) sl_57 rfl (.app _ _) rfl hx39) <| rR rfl rfl rfl (RO.loadPel ag_54 rfl rfl) <| rA rfl rfl rfl <| rA rfl rfl rfl <| XL.nil <| XQ.seq <| XC.seq ?_
       refine XC.joinR (fun (v40 : Bool) => ⟨[(0, .v (.one (.osl 0 0 nn nn))), (4, .v (.one (.ptr 5 0))), (6, .v (.one (dA 8 s1.1))), (7, .v (.one (.ptr 7 0))), (8, .v (.one (dI (-1)))), (9, .v (.one (dI s2))), (28, .v (.one (dA 4 y1.1))), (29, .v (.one (dI (y1.1.length : Int)))), (30, .v (.one (dI s2))), (45, .v (.one (dB v40)))], [(0, .cells 48 (flatE a0)), (1, .cells 72 [dA 4 y1.1, .mp 2]), (2, .mp (gmE y1.2.1) y1.2.2), (5, .cells 72 [dA 4 y1.1, .mp 2]), (6, .cells 4 (flatE s1.2)), (7, .cells 75 [.osl 6 0 (((nn : Nat) : Int).toNat) (((nn : Nat) : Int).toNat)])], [(4, some ⟨54, 1, (Enc.encL y1.1).length, []⟩), (8, some ⟨3, 1, (Enc.encL s1.1).length, []⟩)], 9, 58, []⟩) (fun (v40 : Bool) => (cond v40
           (some (.done s2))
           (some (.next (w64 (s2 + 1))))) = some oo2) ?_ ?_
       ·
        refine bindK h2 (fun w3_ h3 h2 => ?_)
        refine XC.region <| rR rfl rfl rfl (RO.loadOwn ag_75 rfl rfl rfl) <| rM rfl rfl rfl ?_
        refine bindK h3 (fun x41 hx41 h3 => ?_)
        refine guardK h3 (fun g42 h3 => ?_)
        refine rR rfl rfl rfl (RO.indexO (α := Bool) sl_75 rfl rfl hx41 g42) <| rR rfl rfl rfl (RO.loadOF (α := Bool) (m := s2) (f := 0) ag_4 rfl rfl hx41 rfl) <| rR rfl rfl rfl (RO.not rfl) <| rM rfl rfl rfl ?_
        refine XL.case (d := 40) (c := (!x41)) rfl (fun c43 => ?_) (fun c43 => ?_)
        ·
         replace h3 := condT c43 h3
         refine rM rfl rfl rfl <| rR rfl rfl rfl (RO.makeFunc1 rfl) ?_
         refine bindK h3 (fun x44 hx44 h3 => ?_)
         refine XL.put rfl rfl (lb rfl) (OpOK.callG (hp1' := [(7, .cells 75 [.osl 6 0 (((nn : Nat) : Int).toNat) (((nn : Nat) : Int).toNat)]), (6, .cells 4 (flatE s1.2))]) (tk1' := []) (hpF := [(0, .cells 48 (flatE a0)), (1, .cells 72 [dA 4 y1.1, .mp 2]), (2, .mp (gmE y1.2.1) y1.2.2), (5, .cells 72 [dA 4 y1.1, .mp 2])]) (tkF := [(4, some ⟨54, 1, (Enc.encL y1.1).length, []⟩), (8, some ⟨3, 1, (Enc.encL s1.1).length, []⟩)]) (res2 := resOf [.one (dB x44)]) (nx2 := 9) [7, 6] rfl rfl (m43f5_ok x39 (((nn : Nat) : Int).toNat) s1.2 x44 hx44) rfl rfl (qB rfl rfl (qF rfl qZ)) rfl rfl (gR rfl (gF rfl gZ)) jZ (hR rfl (hR rfl (hR rfl (hR rfl hZ)))) (kR rfl (kR rfl kZ)) rfl rfl rfl rfl rfl (bB rfl rfl (bF rfl bZ)) rfl rfl rfl rfl) <| rR rfl rfl rfl (RO.not rfl) <| rR rfl rfl rfl (RO.pickT rfl rfl) <| XL.nil ?_
         have e_ := Option.some.inj h3
         subst e_
         exact XQ.joinR (!x44) (stle (tR rfl (tR rfl (tR rfl (tR rfl (tR rfl (tR rfl (tR rfl (tR rfl (tR rfl (tR rfl tZ)))))))))) (hR rfl (hR rfl (hR rfl (hR rfl (hR rfl (hR rfl hZ)))))) (kR rfl (kR rfl kZ)) rfl (Nat.le_trans hv0 (lb rfl)) rfl rfl rfl (bF rfl (bB rfl rfl (bG rfl (bB rfl rfl (bF rfl (bB rfl rfl bZ)))))) rfl rfl) h2
        ·
         replace h3 := condF c43 h3
         refine XL.no rfl rfl <| XL.no rfl rfl <| XL.no rfl rfl <| XL.no rfl rfl <| rR rfl rfl rfl (RO.pickF rfl rfl) <| XL.nil ?_
         have e_ := Option.some.inj h3
         subst e_
         exact XQ.joinR false (stle (tR rfl (tR rfl (tR rfl (tR rfl (tR rfl (tR rfl (tR rfl (tR rfl (tR rfl (tR rfl tZ)))))))))) (hR rfl (hR rfl (hR rfl (hR rfl (hR rfl (hR rfl hZ)))))) (kR rfl (kR rfl kZ)) rfl (Nat.le_trans hv0 (lb rfl)) rfl rfl rfl (bF rfl (bB rfl rfl (bG rfl (bB rfl rfl (bF rfl (bB rfl rfl bZ)))))) rfl rfl) h2
       ·
        intro v40 h2
        refine XQ.seq ?_
        refine XC.cond (b := v40) rfl (fun c45 => ?_) (fun c45 => ?_)
        ·
         replace h2 := condT c45 h2
         refine XC.seq <| XC.region <| rM rfl rfl rfl <| rA rfl rfl rfl <| XL.nil <| XQ.seq <| XC.exit ?_
         refine XQ.blockE (by decide) ?_
         refine XQ.thenE <| XQ.thenE ?_
         have e_ := Option.some.inj h2
         subst e_
         have e_ : _ = _ := ho2
         subst e_
         exact XQ.joinX s2 (stle (tR rfl (tR rfl (tR rfl (tR rfl (tR rfl tZ))))) (hR rfl (hR rfl (hR rfl (hR rfl (hR rfl (hR rfl hZ)))))) (kR rfl (kR rfl kZ)) rfl (Nat.le_trans hv0 (lb rfl)) rfl rfl rfl (bF rfl (bB rfl rfl (bG rfl (bB rfl rfl (bF rfl (bB rfl rfl bZ)))))) rfl rfl) h1
        ·
         replace h2 := condF c45 h2
         refine XC.skip <| XQ.inBlock <| XQ.seq <| XC.region <| rR rfl rfl rfl (RO.binInt rfl rfl rfl) <| rM rfl rfl rfl <| XL.nil ?_
         have e_ := Option.some.inj h2
         subst e_
         refine XQ.nextM (w64 (s2 + 1)) (stle (tR rfl (tR rfl (tR rfl (tR rfl (tR rfl (tR rfl (tR rfl (tR rfl tZ)))))))) (hR rfl (hR rfl (hR rfl (hR rfl (hR rfl (hR rfl hZ)))))) (kR rfl (kR rfl kZ)) rfl (Nat.le_trans hv0 (lb rfl)) rfl rfl rfl (bF rfl (bB rfl rfl (bG rfl (bB rfl rfl (bF rfl (bB rfl rfl bZ)))))) rfl rfl) ho2
      ·
       replace h2 := condF c38 h2
       refine XC.exit <| XQ.thenE <| XQ.thenE ?_
       have e_ := Option.some.inj h2
       subst e_
       have e_ : _ = _ := ho2
       subst e_
       exact XQ.joinX (-1) (stle (tR rfl (tR rfl (tR rfl (tR rfl (tR rfl tZ))))) (hR rfl (hR rfl (hR rfl (hR rfl (hR rfl (hR rfl hZ)))))) (kR rfl (kR rfl kZ)) rfl (Nat.le_trans hv0 (lb rfl)) rfl rfl rfl (bF rfl (bB rfl rfl (bG rfl (bB rfl rfl (bF rfl (bB rfl rfl bZ)))))) rfl rfl) h1
     ·
      intro o36 h1
      refine XQ.blockX <| XQ.seq <| XC.seq <| XC.seq <| XC.region <| rM rfl rfl rfl <| rR rfl rfl rfl (RO.binInt rfl rfl rfl) <| XL.nil <| XQ.seq ?_
      refine XC.cond (b := (decide (o36 < 0))) rfl (fun c46 => ?_) (fun c46 => ?_)
      ·
       replace h1 := condT c46 h1
       refine XC.seq <| XC.region <| rA rfl rfl rfl <| rA rfl rfl rfl <| XL.nil <| XQ.seq <| XC.ret ?_
       have e_ := Option.some.inj h1
       subst e_
       have e_ : _ = _ := ho1
       subst e_
       try dsimp only [Sum.elim_inl, Sum.elim_inr] at h0
       have e_ := Option.some.inj h0
       subst e_
       exact hQ0 _ _ _ (.inr rfl) rfl (stle (tC rfl (.sub (.nil _)) (tR rfl tZ)) (hR rfl hZ) kZ rfl (Nat.le_trans hv0 (lb rfl)) rfl rfl rfl (bF rfl bZ) rfl rfl)
      ·
       replace h1 := condF c46 h1
       refine XC.skip <| XQ.seq <| XC.seq <| XC.region <| rR rfl rfl rfl (RO.loadOwn ag_75 rfl rfl rfl) <| rM rfl rfl rfl ?_
       refine bindK h1 (fun x47 hx47 h1 => ?_)
       refine guardK h1 (fun g48 h1 => ?_)
       refine rR rfl rfl rfl (RO.indexO (α := Bool) sl_75 rfl rfl hx47 g48) <| XL.eff rfl rfl (OpOK.storeOE (α := Bool) (y' := .one (dB true)) (v := true) ag_4 rfl rfl (.one (.d _)) rfl rfl hx47 rfl) <| XL.nil <| XQ.seq <| XC.region <| rM rfl rfl rfl <| rM rfl rfl rfl <| XL.put rfl rfl (lb rfl) (OpOK.lit1E (α := Int) (o36) sl_54 z_3 rfl rfl (lb rfl) (lb rfl) rfl rfl (.cons (.d _) .nil) rfl) ?_
       refine guardK h1 (fun g49 h1 => ?_)
       refine XL.put rfl rfl (lb rfl) (OpOK.appendE (α := Int) sl_54 el_3 rfl rfl rfl rfl rfl (.app _ _) g49) <| rA rfl rfl rfl <| XL.nil <| XQ.inBlock ?_
       have e_ := Option.some.inj h1
       subst e_
       refine XQ.nextM ((s1.1 ++ ([o36])), (s1.2.set o36.toNat true)) (stle (tR rfl (tR rfl (tR rfl (tR rfl tZ)))) (hR rfl (hR rfl (hR rfl (hR rfl (hR rfl (hR rfl hZ)))))) (kR rfl (kR rfl kZ)) rfl (Nat.le_trans hv0 (lb rfl)) rfl rfl rfl (bF rfl (bB rfl rfl (bG rfl (bB rfl rfl (bF rfl (bB rfl rfl bZ)))))) rfl rfl) ho1
    ·
     replace h1 := condF c35 h1
     refine XC.exit <| XQ.thenE <| XQ.thenE ?_
     have e_ := Option.some.inj h1
     subst e_
     have e_ : _ = _ := ho1
     subst e_
     exact XQ.joinX (s1.1, s1.2) (stle (tR rfl tZ) (hR rfl (hR rfl (hR rfl (hR rfl (hR rfl (hR rfl hZ)))))) (kR rfl (kR rfl kZ)) rfl (Nat.le_trans hv0 (lb rfl)) rfl rfl rfl (bF rfl (bB rfl rfl (bG rfl (bB rfl rfl (bF rfl (bB rfl rfl bZ)))))) rfl rfl) h0
   ·
    intro o33 h0
    refine XQ.blockX <| XQ.seq <| XC.seq <| XC.region <| rM rfl rfl rfl <| rA rfl rfl rfl <| rA rfl rfl rfl <| XL.nil <| XQ.seq <| XC.ret ?_
    have e_ := Option.some.inj h0
    subst e_
    exact hQ0 _ _ _ (.inr rfl) rfl (stle (tC rfl (.sub (.app _ _ _)) (tR rfl tZ)) (hR rfl hZ) kZ rfl (Nat.le_trans hv0 (lb rfl)) rfl rfl rfl (bF rfl bZ) rfl rfl)
  ·
   replace hc4 : CallM Try.prog 34 [.one (.osl 0 0 nn nn)] ⟨[(0, .cells 48 (flatE a0))], [], 1⟩ (resOf [.agg [dN, .d (.v (.map none))], .one (dI 8)]) ⟨[(0, .cells 48 (flatE a0)), (1, .cells 72 [dN, .d (.v (.map none))])], [], 5⟩ := hc4
   refine XL.put rfl rfl (lb rfl) (OpOK.callW rfl rfl rfl hc4 rfl (hR rfl hZ) kZ) <| rM rfl rfl rfl <| rR rfl rfl rfl (RO.extract rfl rfl) <| rR rfl rfl rfl (RO.extract rfl rfl) <| XL.put rfl rfl (lb rfl) (OpOK.alloc z_72 rfl) <| XL.eff rfl rfl (OpOK.store ag_72 rfl rfl rfl rfl (lb rfl) rfl) <| rA rfl rfl rfl <| XL.nil <| XQ.seq <| XC.seq <| XC.seq <| XC.region <| rM rfl rfl rfl <| rR rfl rfl rfl (RO.binInt rfl rfl rfl) ?_
   refine XL.nil <| XQ.seq ?_
   refine XC.cond rfl (fun _ => ?_) (fun h => nomatch h)
   refine XC.seq <| XC.region <| rM rfl rfl rfl <| rA rfl rfl rfl <| rA rfl rfl rfl <| XL.nil <| XQ.seq <| XC.ret ?_
   have e_ := Option.some.inj h0
   subst e_
   exact hQ0 _ _ _ (.inr rfl) rfl (stle (tC rfl (.sub (.nil _)) (tR rfl tZ)) (hR rfl hZ) kZ rfl (Nat.le_trans hv0 (lb rfl)) rfl rfl rfl (bF rfl bZ) rfl rfl)
  ·
   replace hc4 : CallM Try.prog 34 [.one (.osl 0 0 nn nn)] ⟨[(0, .cells 48 (flatE a0))], [], 1⟩ (resOf [.agg [dN, .d (.v (.map none))], .one (dI 9)]) ⟨[(0, .cells 48 (flatE a0)), (1, .cells 72 [dN, .d (.v (.map none))])], [], 7⟩ := hc4
   refine XL.put rfl rfl (lb rfl) (OpOK.callW rfl rfl rfl hc4 rfl (hR rfl hZ) kZ) <| rM rfl rfl rfl <| rR rfl rfl rfl (RO.extract rfl rfl) <| rR rfl rfl rfl (RO.extract rfl rfl) <| XL.put rfl rfl (lb rfl) (OpOK.alloc z_72 rfl) <| XL.eff rfl rfl (OpOK.store ag_72 rfl rfl rfl rfl (lb rfl) rfl) <| rA rfl rfl rfl <| XL.nil <| XQ.seq <| XC.seq <| XC.seq <| XC.region <| rM rfl rfl rfl <| rR rfl rfl rfl (RO.binInt rfl rfl rfl) ?_
   refine XL.nil <| XQ.seq ?_
   refine XC.cond rfl (fun _ => ?_) (fun h => nomatch h)
   refine XC.seq <| XC.region <| rM rfl rfl rfl <| rA rfl rfl rfl <| rA rfl rfl rfl <| XL.nil <| XQ.seq <| XC.ret ?_
   have e_ := Option.some.inj h0
   subst e_
   exact hQ0 _ _ _ (.inr rfl) rfl (stle (tC rfl (.sub (.nil _)) (tR rfl tZ)) (hR rfl hZ) kZ rfl (Nat.le_trans hv0 (lb rfl)) rfl rfl rfl (bF rfl bZ) rfl rfl)
end Go.Proofs.Ytijcchddnnnmdaa
namespace Go.Proofs.Ytijcchddnnnmdaa
open Go.RowKit Go.Shelf
set_option linter.unusedSimpArgs false
set_option linter.unusedVariables false
theorem ag_106 : tyAgg Try.prog 106 = some (false, 1) := by kernel_rfl
theorem z_106 : tyZero Try.prog 106 = some [.nilFunc] := by kernel_rfl
theorem el_48 : tyElem Try.prog 48 = some (23, 360) := by kernel_rfl
theorem en_15 : Enters Try.prog 15 := enters_of Try.func15 (by kernel_rfl) rfl
theorem en_35 : Enters Try.prog 35 := enters_of Try.func35 (by kernel_rfl) rfl
theorem en_56 : Enters Try.prog 56 := enters_of Try.func56 (by kernel_rfl) rfl
def m56f11_l0 (x6 : List Int) (rc : Int × Nat × (List Bool) × (List (List Int)) → Option ((List Bool))) (a1 : Nat) (a3 : List (List Int)) (s1 : Int × (List Bool)) : Option (LO (Int × (List Bool)) (((List Bool)))) :=
  cond (decide (s1.1 < (x6.length : Int)))
    (Option.bind (idx x6 s1.1) fun (x9 : Int) =>
  Option.bind (rc (x9, a1, s1.2, a3)) fun (x10 : (List Bool)) =>
  some (.next ((w64 (s1.1 + 1)), x10)))
    (some (.done s1.2))
def m56f11s (rc : Int × Nat × (List Bool) × (List (List Int)) → Option ((List Bool))) (a0 : Int) (a1 : Nat) (a2 : List Bool) (a3 : List (List Int)) : Option ((List Bool)) :=
  Option.bind (idx a2 a0) fun (x1 : Bool) =>
  guardO (Nat.beq a2.length a1)
  (cond x1
    (some a2)
    (Option.bind (idx a2 a0) fun (x4 : Bool) =>
  guardO (Nat.beq a2.length a1)
  (Option.bind (idx a3 a0) fun (x6 : List Int) =>
  Option.bind (loopN (m56f11_l0 x6 rc a1 a3) FUEL (0, (a2.set a0.toNat true))) (fun (o7 : (List Bool)) => some o7))))
def m56f11F (rc : Int × Nat × (List Bool) × (List (List Int)) → Option ((List Bool))) (u : Int × Nat × (List Bool) × (List (List Int))) : Option ((List Bool)) := m56f11s rc u.1 u.2.1 u.2.2.1 u.2.2.2
def m56f11 (a0 : Int) (a1 : Nat) (a2 : List Bool) (a3 : List (List Int)) : Option ((List Bool)) := recO m56f11F FUEL (a0, a1, a2, a3)
set_option maxRecDepth 100000 in
set_option maxHeartbeats 2000000 in
theorem m56f11s_ok (rc : Int × Nat × (List Bool) × (List (List Int)) → Option ((List Bool))) (H : ∀ (a0 : Int) (a1 : Nat) (a2 : List Bool) (a3 : List (List Int)) (r : (List Bool)), rc (a0, a1, a2, a3) = some r → CallM Try.prog 56 [.one (dI a0), .one (.ptr 0 0), .one (.ptr 2 0), .one (.ptr 4 0)] ⟨[(0, .cells 75 [.osl 1 0 a1 a1]), (1, .cells 4 (flatE a2)), (2, .cells 57 [dA 3 a3]), (4, .cells 106 [.fn 56 [(0, 0), (2, 0), (4, 0)]])], [(3, some ⟨54, 1, (Enc.encL a3).length, []⟩)], 5⟩ (resOf []) ⟨[(0, .cells 75 [.osl 1 0 a1 a1]), (1, .cells 4 (flatE r)), (2, .cells 57 [dA 3 a3]), (4, .cells 106 [.fn 56 [(0, 0), (2, 0), (4, 0)]])], [(3, some ⟨54, 1, (Enc.encL a3).length, []⟩)], 5⟩) (a0 : Int) (a1 : Nat) (a2 : List Bool) (a3 : List (List Int)) (r : (List Bool)) (h0 : m56f11s rc a0 a1 a2 a3 = some r) : CallM Try.prog 56 [.one (dI a0), .one (.ptr 0 0), .one (.ptr 2 0), .one (.ptr 4 0)] ⟨[(0, .cells 75 [.osl 1 0 a1 a1]), (1, .cells 4 (flatE a2)), (2, .cells 57 [dA 3 a3]), (4, .cells 106 [.fn 56 [(0, 0), (2, 0), (4, 0)]])], [(3, some ⟨54, 1, (Enc.encL a3).length, []⟩)], 5⟩ (resOf []) ⟨[(0, .cells 75 [.osl 1 0 a1 a1]), (1, .cells 4 (flatE r)), (2, .cells 57 [dA 3 a3]), (4, .cells 106 [.fn 56 [(0, 0), (2, 0), (4, 0)]])], [(3, some ⟨54, 1, (Enc.encL a3).length, []⟩)], 5⟩ := by
  unfold m56f11s at h0
  refine CallM.of_bodyD ⟨[], [(0, .cells 75 [.osl 1 0 a1 a1]), (1, .cells 4 (flatE r)), (2, .cells 57 [dA 3 a3]), (4, .cells 106 [.fn 56 [(0, 0), (2, 0), (4, 0)]])], [(3, some ⟨54, 1, (Enc.encL a3).length, []⟩)], 5, 27, []⟩ rfl rfl en_56 (lb rfl) rfl .nil (fun w0 M V0 Q hv0 hQ0 => ?_)
  simp only [entry]
  refine XC.seq <| XC.seq <| XC.region <| rR rfl rfl rfl (RO.loadOwn ag_75 rfl rfl rfl) <| rM rfl rfl rfl ?_
  refine bindK h0 (fun x1 hx1 h0 => ?_)
  refine guardK h0 (fun g2 h0 => ?_)
  refine rR rfl rfl rfl (RO.indexO (α := Bool) sl_75 rfl rfl hx1 g2) <| rR rfl rfl rfl (RO.loadOF (α := Bool) (m := a0) (f := 0) ag_4 rfl rfl hx1 rfl) <| XL.nil <| XQ.seq ?_
  refine XC.cond (b := x1) rfl (fun c3 => ?_) (fun c3 => ?_)
  ·
   replace h0 := condT c3 h0
   refine XC.ret ?_
   have e_ := Option.some.inj h0
   subst e_
   exact hQ0 _ _ _ (.inr rfl) rfl (stle tZ (hR rfl (hR rfl (hR rfl (hR rfl hZ)))) (kR rfl kZ) rfl (Nat.le_trans hv0 (lb rfl)) rfl rfl rfl (bB rfl rfl (bF rfl (bB rfl rfl (bB rfl rfl bZ)))) rfl rfl)
  ·
   replace h0 := condF c3 h0
   refine XC.skip <| XQ.seq <| XC.seq <| XC.region <| rR rfl rfl rfl (RO.loadOwn ag_75 rfl rfl rfl) <| rM rfl rfl rfl ?_
   refine bindK h0 (fun x4 hx4 h0 => ?_)
   refine guardK h0 (fun g5 h0 => ?_)
   refine rR rfl rfl rfl (RO.indexO (α := Bool) sl_75 rfl rfl hx4 g5) <| XL.eff rfl rfl (OpOK.storeOE (α := Bool) (y' := .one (dB true)) (v := true) ag_4 rfl rfl (.one (.d _)) rfl rfl hx4 rfl) <| XL.nil <| XQ.seq <| XC.seq <| XC.region <| rR rfl rfl rfl (RO.loadOwn ag_57 rfl rfl rfl) <| rM rfl rfl rfl ?_
   refine bindK h0 (fun x6 hx6 h0 => ?_)
   refine rR rfl rfl rfl (RO.indexE (α := List Int) sl_57 rfl (.app _ _) rfl hx6) <| rR rfl rfl rfl (RO.loadPel ag_54 rfl rfl) <| rR rfl rfl rfl (RO.lenE (α := Int) sl_54 rfl (.d _)) <| rM rfl rfl rfl <| XL.nil <| XQ.seq <| XC.block ?_
   refine XC.joinX 0 (fun (o7 : (List Bool)) => ⟨[], [(0, .cells 75 [.osl 1 0 a1 a1]), (1, .cells 4 (flatE o7)), (2, .cells 57 [dA 3 a3]), (4, .cells 106 [.fn 56 [(0, 0), (2, 0), (4, 0)]])], [(3, some ⟨54, 1, (Enc.encL a3).length, []⟩)], 5, 27, []⟩) (fun (o7 : (List Bool)) => (some o7) = some r) ?_ ?_
   ·
    refine bindK h0 (fun o8 hl1 h0 => ?_)
    refine XC.loopM (m56f11_l0 x6 rc a1 a3) (fun s1 => ⟨[(3, .v (.one (.ptr 4 0))), (17, .v (.one (dS x6))), (18, .v (.one (dI (x6.length : Int)))), (19, .v (.one (dI s1.1)))], [(0, .cells 75 [.osl 1 0 a1 a1]), (1, .cells 4 (flatE s1.2)), (2, .cells 57 [dA 3 a3]), (4, .cells 106 [.fn 56 [(0, 0), (2, 0), (4, 0)]])], [(3, some ⟨54, 1, (Enc.encL a3).length, []⟩)], 5, 27, []⟩) (0, (a2.set a0.toNat true)) o8 (stle (tR rfl (tR rfl (tR rfl (tR rfl tZ)))) (hR rfl (hR rfl (hR rfl (hR rfl hZ)))) (kR rfl kZ) rfl (Nat.le_trans hv0 (lb rfl)) rfl rfl rfl (bB rfl rfl (bF rfl (bB rfl rfl (bB rfl rfl bZ)))) rfl rfl) hl1 (fun s1 n1 oo1 h1 ho1 => ?_)
    unfold m56f11_l0 at h1
    refine XC.seq <| XC.region <| rR rfl rfl rfl (RO.binInt rfl rfl rfl) <| XL.nil <| XQ.seq <| XC.seq ?_
    refine XC.cond (b := (decide (s1.1 < (x6.length : Int)))) rfl (fun c9 => ?_) (fun c9 => ?_)
    ·
     replace h1 := condT c9 h1
     refine XC.skip <| XQ.seq <| XC.seq <| XC.block <| XC.seq <| XC.region ?_
     refine bindK h1 (fun x10 hx10 h1 => ?_)
     refine rR rfl rfl rfl (RO.indexE (α := Int) sl_54 rfl (.d _) rfl hx10) <| rR rfl rfl rfl (RO.loadPel ag_3 rfl rfl) <| rA rfl rfl rfl <| XL.nil <| XQ.seq <| XC.region <| rR rfl rfl rfl (RO.loadOwn ag_106 rfl rfl rfl) <| rM rfl rfl rfl ?_
     refine bindK h1 (fun x11 hx11 h1 => ?_)
     refine XL.put rfl rfl (lb rfl) (OpOK.callG (hp1' := [(0, .cells 75 [.osl 1 0 a1 a1]), (1, .cells 4 (flatE x11)), (2, .cells 57 [dA 3 a3]), (4, .cells 106 [.fn 56 [(0, 0), (2, 0), (4, 0)]])]) (tk1' := [(3, some ⟨54, 1, (Enc.encL a3).length, []⟩)]) (hpF := []) (tkF := []) (res2 := resOf []) (nx2 := 5) [0, 1, 2, 3, 4] rfl rfl (H x10 a1 s1.2 a3 x11 hx11) rfl rfl (qB rfl rfl (qF rfl (qB rfl rfl (qB rfl rfl qZ)))) rfl rfl (gR rfl (gF rfl (gR rfl (gR rfl gZ)))) (jR rfl jZ) hZ kZ rfl rfl rfl rfl rfl (bB rfl rfl (bF rfl (bB rfl rfl (bB rfl rfl bZ)))) rfl rfl rfl rfl) <| XL.nil <| XQ.inBlock <| XQ.seq <| XC.region <| rR rfl rfl rfl (RO.binInt rfl rfl rfl) <| rM rfl rfl rfl <| XL.nil ?_
     have e_ := Option.some.inj h1
     subst e_
     refine XQ.nextM ((w64 (s1.1 + 1)), x11) (stle (tR rfl (tR rfl (tR rfl (tR rfl tZ)))) (hR rfl (hR rfl (hR rfl (hR rfl hZ)))) (kR rfl kZ) rfl (Nat.le_trans hv0 (lb rfl)) rfl rfl rfl (bB rfl rfl (bF rfl (bB rfl rfl (bB rfl rfl bZ)))) rfl rfl) ho1
    ·
     replace h1 := condF c9 h1
     refine XC.exit <| XQ.thenE <| XQ.thenE ?_
     have e_ := Option.some.inj h1
     subst e_
     have e_ : _ = _ := ho1
     subst e_
     exact XQ.joinX s1.2 (stle tZ (hR rfl (hR rfl (hR rfl (hR rfl hZ)))) (kR rfl kZ) rfl (Nat.le_trans hv0 (lb rfl)) rfl rfl rfl (bB rfl rfl (bF rfl (bB rfl rfl (bB rfl rfl bZ)))) rfl rfl) h0
   ·
    intro o7 h0
    refine XQ.blockX ?_
    have e_ := Option.some.inj h0
    subst e_
    exact hQ0 _ _ _ (.inl rfl) rfl (stle tZ (hR rfl (hR rfl (hR rfl (hR rfl hZ)))) (kR rfl kZ) rfl (Nat.le_trans hv0 (lb rfl)) rfl rfl rfl (bB rfl rfl (bF rfl (bB rfl rfl (bB rfl rfl bZ)))) rfl rfl)
theorem m56f11_all (n : Nat) (u : Int × Nat × (List Bool) × (List (List Int))) (r : (List Bool)) (h0 : recO m56f11F n u = some r) : CallM Try.prog 56 [.one (dI u.1), .one (.ptr 0 0), .one (.ptr 2 0), .one (.ptr 4 0)] ⟨[(0, .cells 75 [.osl 1 0 u.2.1 u.2.1]), (1, .cells 4 (flatE u.2.2.1)), (2, .cells 57 [dA 3 u.2.2.2]), (4, .cells 106 [.fn 56 [(0, 0), (2, 0), (4, 0)]])], [(3, some ⟨54, 1, (Enc.encL u.2.2.2).length, []⟩)], 5⟩ (resOf []) ⟨[(0, .cells 75 [.osl 1 0 u.2.1 u.2.1]), (1, .cells 4 (flatE r)), (2, .cells 57 [dA 3 u.2.2.2]), (4, .cells 106 [.fn 56 [(0, 0), (2, 0), (4, 0)]])], [(3, some ⟨54, 1, (Enc.encL u.2.2.2).length, []⟩)], 5⟩ :=
  recO_ind (C := fun u r => CallM Try.prog 56 [.one (dI u.1), .one (.ptr 0 0), .one (.ptr 2 0), .one (.ptr 4 0)] ⟨[(0, .cells 75 [.osl 1 0 u.2.1 u.2.1]), (1, .cells 4 (flatE u.2.2.1)), (2, .cells 57 [dA 3 u.2.2.2]), (4, .cells 106 [.fn 56 [(0, 0), (2, 0), (4, 0)]])], [(3, some ⟨54, 1, (Enc.encL u.2.2.2).length, []⟩)], 5⟩ (resOf []) ⟨[(0, .cells 75 [.osl 1 0 u.2.1 u.2.1]), (1, .cells 4 (flatE r)), (2, .cells 57 [dA 3 u.2.2.2]), (4, .cells 106 [.fn 56 [(0, 0), (2, 0), (4, 0)]])], [(3, some ⟨54, 1, (Enc.encL u.2.2.2).length, []⟩)], 5⟩) (fun rc H u r h => m56f11s_ok rc (fun a0 a1 a2 a3 r h => H (a0, a1, a2, a3) r h) u.1 u.2.1 u.2.2.1 u.2.2.2 r h) n u r h0
theorem m56f11_ok (a0 : Int) (a1 : Nat) (a2 : List Bool) (a3 : List (List Int)) (r : (List Bool)) (h0 : m56f11 a0 a1 a2 a3 = some r) : CallM Try.prog 56 [.one (dI a0), .one (.ptr 0 0), .one (.ptr 2 0), .one (.ptr 4 0)] ⟨[(0, .cells 75 [.osl 1 0 a1 a1]), (1, .cells 4 (flatE a2)), (2, .cells 57 [dA 3 a3]), (4, .cells 106 [.fn 56 [(0, 0), (2, 0), (4, 0)]])], [(3, some ⟨54, 1, (Enc.encL a3).length, []⟩)], 5⟩ (resOf []) ⟨[(0, .cells 75 [.osl 1 0 a1 a1]), (1, .cells 4 (flatE r)), (2, .cells 57 [dA 3 a3]), (4, .cells 106 [.fn 56 [(0, 0), (2, 0), (4, 0)]])], [(3, some ⟨54, 1, (Enc.encL a3).length, []⟩)], 5⟩ := m56f11_all FUEL (a0, a1, a2, a3) r h0
end Go.Proofs.Ytijcchddnnnmdaa
namespace Go.Proofs.Ytijcchddnnnmdaa
open Go.RowKit Go.Shelf
set_option linter.unusedSimpArgs false
set_option linter.unusedVariables false
def m15o_l0 (x10 : (List Bs)) (s2 : Int × (GMap Bs Int)) (s3 : Int × (GMap Bs Int)) : Option (LO (Int × (GMap Bs Int)) (((GMap Bs Int)) ⊕ (((List (List Int)) × (GMap Bs Int)) ⊕ Unit ⊕ Unit))) :=
  cond (decide (s3.1 < (x10.length : Int)))
    (Option.bind (idx x10 s3.1) fun (x13 : Bs) =>
  cond (gmHas s3.2 x13)
    (some (.done (.inr (.inr (.inl ())))))
    (some (.next ((w64 (s3.1 + 1)), (gmSet s3.2 x13 s2.1)))))
    (some (.done (.inl s3.2)))
def m15o_l1 (nn : Nat) (a0 : List Dcl) (s2 : Int × (GMap Bs Int)) : Option (LO (Int × (GMap Bs Int)) (((GMap Bs Int)) ⊕ (((List (List Int)) × (GMap Bs Int)) ⊕ Unit ⊕ Unit))) :=
  cond (decide (s2.1 < ((nn : Nat) : Int)))
    (Option.bind (idx a0 s2.1) fun (x8 : Dcl) =>
  guardO (Nat.beq a0.length nn)
  (Option.bind (m37 x8) fun (x10 : (List Bs)) =>
  Option.bind (loopN (m15o_l0 x10 s2) FUEL (0, s2.2)) (Sum.elim (fun (o11 : (GMap Bs Int)) => some (.next ((w64 (s2.1 + 1)), o11))) (fun o => some (.done (.inr o))))))
    (some (.done (.inl s2.2)))
def m15o_l2 (x11 : (List Bs)) (o6 : (GMap Bs Int)) (s3 : (List Int) × Int) : Option (LO ((List Int) × Int) (((List Int)) ⊕ (((List (List Int)) × (GMap Bs Int)) ⊕ Unit ⊕ Unit))) :=
  cond (decide (s3.2 < (x11.length : Int)))
    (Option.bind (idx x11 s3.2) fun (x14 : Bs) =>
  cond (!(gmHas o6 x14))
    (some (.done (.inr (.inr (.inr ())))))
    (guardO (Nat.ble (s3.1.length + ([(gmVal o6 x14)]).length) 1000000000)
  (some (.next ((s3.1 ++ ([(gmVal o6 x14)])), (w64 (s3.2 + 1)))))))
    (some (.done (.inl s3.1)))
def m15o_l3 (nn : Nat) (a0 : List Dcl) (o6 : (GMap Bs Int)) (s2 : Int × (List (List Int))) : Option (LO (Int × (List (List Int))) (((List (List Int))) ⊕ (((List (List Int)) × (GMap Bs Int)) ⊕ Unit ⊕ Unit))) :=
  cond (decide (s2.1 < ((nn : Nat) : Int)))
    (Option.bind (idx a0 s2.1) fun (x9 : Dcl) =>
  guardO (Nat.beq a0.length nn)
  (Option.bind (m53 x9) fun (x11 : (List Bs)) =>
  Option.bind (loopN (m15o_l2 x11 o6) FUEL (([] : List Int), 0)) (Sum.elim (fun (o12 : (List Int)) => Option.bind (sortF o12) fun (x13 : List Int) =>
  Option.bind (compactF x13 ((Enc.encL o12).length)) fun (x14 : List Int) =>
  guardO (Nat.ble (s2.2.length + ([x14]).length) 1000000000)
  (some (.next ((w64 (s2.1 + 1)), (s2.2 ++ ([x14])))))) (fun o => some (.done (.inr o))))))
    (some (.done (.inl s2.2)))
def m15o_l4 (a1 : List Bs) (y1 : (List (List Int)) × (GMap Bs Int)) (s2 : Int × (List Bool)) : Option (LO (Int × (List Bool)) (((List Bool)) ⊕ (Unit ⊕ ((List Bool))))) :=
  cond (decide (s2.1 < (a1.length : Int)))
    (Option.bind (idx a1 s2.1) fun (x39 : Bs) =>
  cond (!(gmHas y1.2 x39))
    (some (.done (.inr (.inl ()))))
    (Option.bind (m56f11 (gmVal y1.2 x39) ((y1.1.length : Int).toNat) s2.2 y1.1) fun (x41 : (List Bool)) =>
  some (.next ((w64 (s2.1 + 1)), x41))))
    (some (.done (.inl s2.2)))
def m15o_l5 (nn : Nat) (a0 : List Dcl) (y33 : (List Bool)) (y1 : (List (List Int)) × (GMap Bs Int)) (s1 : (List Dcl) × Int) : Option (LO ((List Dcl) × Int) (((List Dcl)))) :=
  cond (decide (s1.2 < ((nn : Nat) : Int)))
    (Option.bind (idx a0 s1.2) fun (x45 : Dcl) =>
  guardO (Nat.beq a0.length nn)
  (Option.bind (idx y33 s1.2) fun (x47 : Bool) =>
  guardO (Nat.beq y33.length ((y1.1.length : Int).toNat))
  (cond x47
    (guardO (Nat.ble (s1.1.length + ([x45]).length) 1000000000)
  (some (.next ((s1.1 ++ ([x45])), (w64 (s1.2 + 1))))))
    (some (.next (s1.1, (w64 (s1.2 + 1))))))))
    (some (.done s1.1))
def m15o (a0 : List Dcl) (a1 : List Bs) (nn : Nat) : Option ((List Dcl) × Int) :=
  Option.bind (Option.bind (loopN (m15o_l1 nn a0) FUEL (0, gmNil)) (Sum.elim (fun (o6 : (GMap Bs Int)) => Option.bind (loopN (m15o_l3 nn a0 o6) FUEL (0, ([] : List (List Int)))) (Sum.elim (fun (o7 : (List (List Int))) => some (.inl (o7, o6))) (fun o => some o))) (fun o => some o))) (Sum.elim (fun (y1 : (List (List Int)) × (GMap Bs Int)) => Option.bind (guardO (cond (decide (0 ≤ (y1.1.length : Int))) (Nat.ble (1 * (y1.1.length : Int).toNat) 281474976710656) false)
  (Option.bind (loopN (m15o_l4 a1 y1) FUEL (0, (List.replicate (y1.1.length : Int).toNat false))) (Sum.elim (fun (o37 : (List Bool)) => some (.inr o37)) (fun o => some o)))) (Sum.elim (fun (y32 : Unit) => some (([] : List Dcl), 9)) (fun (y33 : (List Bool)) => Option.bind (loopN (m15o_l5 nn a0 y33 y1) FUEL (([] : List Dcl), 0)) (fun (o43 : (List Dcl)) => some (o43, 0))))) (Sum.elim (fun (y2 : Unit) => some (([] : List Dcl), 8)) (fun (y3 : Unit) => some (([] : List Dcl), 9))))
set_option maxRecDepth 100000 in
set_option maxHeartbeats 2000000 in
theorem m15o_ok (a0 : List Dcl) (a1 : List Bs) (nn : Nat) (r : (List Dcl) × Int) (h0 : m15o a0 a1 nn = some r) : CallM Try.prog 15 [.one (.osl 0 0 nn nn), .one (dS a1)] ⟨[(0, .cells 48 (flatE a0))], [], 1⟩ (resOf [.one (dS r.1), .one (dI r.2)]) ⟨[(0, .cells 48 (flatE a0))], [], 6⟩ := by
  unfold m15o at h0
  refine CallM.of_bodyD ⟨[(4, .v (.one (dS r.1))), (5, .v (.one (dI r.2)))], [(0, .cells 48 (flatE a0))], [], 6, 48, []⟩ rfl rfl en_15 (lb rfl) rfl (RAs.tmp rfl (RAs.tmp rfl .nil)) (fun w0 M V0 Q hv0 hQ0 => ?_)
  simp only [entry]
  refine XC.seq <| XC.region <| rA rfl rfl rfl <| rA rfl rfl rfl <| XL.nil <| XQ.seq <| XC.seq <| XC.region <| rM rfl rfl rfl ?_
  refine bindK h0 (fun y5 h1 h0 => ?_)
  have hc4 : CallM Try.prog 34 [.one (.osl 0 0 nn nn)] ⟨[(0, .cells 48 (flatE a0))], [], 1⟩ (resOf (((Sum.elim (fun (y1 : (List (List Int)) × (GMap Bs Int)) => ([.agg [dA 4 y1.1, .mp 2], .one (dI 0)] : List AV)) (Sum.elim (fun (y2 : Unit) => ([.agg [dN, .d (.v (.map none))], .one (dI 8)] : List AV)) (fun (y3 : Unit) => ([.agg [dN, .d (.v (.map none))], .one (dI 9)] : List AV))))) y5)) ⟨(((Sum.elim (fun (y1 : (List (List Int)) × (GMap Bs Int)) => (⟨[(2, .v (.one (.ptr 1 0))), (3, .v (.one (dI 0)))], [(0, .cells 48 (flatE a0)), (1, .cells 72 [dA 4 y1.1, .mp 2]), (2, .mp (gmE y1.2.1) y1.2.2)], [(4, some ⟨54, 1, (Enc.encL y1.1).length, []⟩)], 5, 88, []⟩ : St)) (Sum.elim (fun (y2 : Unit) => (⟨[(2, .v (.one (.ptr 1 0))), (3, .v (.one (dI 8)))], [(0, .cells 48 (flatE a0)), (1, .cells 72 [dN, .d (.v (.map none))])], [], 5, 88, []⟩ : St)) (fun (y3 : Unit) => (⟨[(2, .v (.one (.ptr 1 0))), (3, .v (.one (dI 9)))], [(0, .cells 48 (flatE a0)), (1, .cells 72 [dN, .d (.v (.map none))])], [], 7, 88, []⟩ : St))))) y5).hp, (((Sum.elim (fun (y1 : (List (List Int)) × (GMap Bs Int)) => (⟨[(2, .v (.one (.ptr 1 0))), (3, .v (.one (dI 0)))], [(0, .cells 48 (flatE a0)), (1, .cells 72 [dA 4 y1.1, .mp 2]), (2, .mp (gmE y1.2.1) y1.2.2)], [(4, some ⟨54, 1, (Enc.encL y1.1).length, []⟩)], 5, 88, []⟩ : St)) (Sum.elim (fun (y2 : Unit) => (⟨[(2, .v (.one (.ptr 1 0))), (3, .v (.one (dI 8)))], [(0, .cells 48 (flatE a0)), (1, .cells 72 [dN, .d (.v (.map none))])], [], 5, 88, []⟩ : St)) (fun (y3 : Unit) => (⟨[(2, .v (.one (.ptr 1 0))), (3, .v (.one (dI 9)))], [(0, .cells 48 (flatE a0)), (1, .cells 72 [dN, .d (.v (.map none))])], [], 7, 88, []⟩ : St))))) y5).tk, (((Sum.elim (fun (y1 : (List (List Int)) × (GMap Bs Int)) => (⟨[(2, .v (.one (.ptr 1 0))), (3, .v (.one (dI 0)))], [(0, .cells 48 (flatE a0)), (1, .cells 72 [dA 4 y1.1, .mp 2]), (2, .mp (gmE y1.2.1) y1.2.2)], [(4, some ⟨54, 1, (Enc.encL y1.1).length, []⟩)], 5, 88, []⟩ : St)) (Sum.elim (fun (y2 : Unit) => (⟨[(2, .v (.one (.ptr 1 0))), (3, .v (.one (dI 8)))], [(0, .cells 48 (flatE a0)), (1, .cells 72 [dN, .d (.v (.map none))])], [], 5, 88, []⟩ : St)) (fun (y3 : Unit) => (⟨[(2, .v (.one (.ptr 1 0))), (3, .v (.one (dI 9)))], [(0, .cells 48 (flatE a0)), (1, .cells 72 [dN, .d (.v (.map none))])], [], 7, 88, []⟩ : St))))) y5).nx⟩ := by
   refine CallM.of_bodyT y5 ((Sum.elim (fun (y1 : (List (List Int)) × (GMap Bs Int)) => (⟨[(2, .v (.one (.ptr 1 0))), (3, .v (.one (dI 0)))], [(0, .cells 48 (flatE a0)), (1, .cells 72 [dA 4 y1.1, .mp 2]), (2, .mp (gmE y1.2.1) y1.2.2)], [(4, some ⟨54, 1, (Enc.encL y1.1).length, []⟩)], 5, 88, []⟩ : St)) (Sum.elim (fun (y2 : Unit) => (⟨[(2, .v (.one (.ptr 1 0))), (3, .v (.one (dI 8)))], [(0, .cells 48 (flatE a0)), (1, .cells 72 [dN, .d (.v (.map none))])], [], 5, 88, []⟩ : St)) (fun (y3 : Unit) => (⟨[(2, .v (.one (.ptr 1 0))), (3, .v (.one (dI 9)))], [(0, .cells 48 (flatE a0)), (1, .cells 72 [dN, .d (.v (.map none))])], [], 7, 88, []⟩ : St))))) ((Sum.elim (fun (y1 : (List (List Int)) × (GMap Bs Int)) => ([.agg [dA 4 y1.1, .mp 2], .one (dI 0)] : List AV)) (Sum.elim (fun (y2 : Unit) => ([.agg [dN, .d (.v (.map none))], .one (dI 8)] : List AV)) (fun (y3 : Unit) => ([.agg [dN, .d (.v (.map none))], .one (dI 9)] : List AV))))) rfl rfl en_34 (lb rfl) (fun z_ => by cases z_ with
     | inl _ => rfl
     | inr z_ => exact (by cases z_ <;> rfl)) (fun z_ => by cases z_ with
     | inl _ => exact (RAs.agg ag_72 rfl rfl rfl rfl (RAs.tmp rfl .nil))
     | inr z_ => exact (by cases z_ with
     | inl _ => exact (RAs.agg ag_72 rfl rfl rfl rfl (RAs.tmp rfl .nil))
     | inr _ => exact (RAs.agg ag_72 rfl rfl rfl rfl (RAs.tmp rfl .nil)))) (fun w0 M V0 Q hv1 hQ1 => ?_)
   simp only [entry]
   refine XC.seq <| XC.region <| XL.put rfl rfl (lb rfl) (OpOK.alloc z_72 rfl) <| rA rfl rfl rfl <| XL.nil <| XQ.seq <| XC.seq <| XC.region <| XL.put rfl rfl (lb rfl) (OpOK.makeMapG Bs Int) <| rR rfl rfl rfl (RO.build1 bd_72 rfl rfl rfl) <| XL.put rfl rfl (lb rfl) (OpOK.alloc z_72 rfl) <| XL.eff rfl rfl (OpOK.store ag_72 rfl rfl rfl rfl (lb rfl) rfl) <| XL.nil <| XQ.seq ?_
   refine XC.seq <| XC.seq <| XC.region <| rM rfl rfl rfl <| rR rfl rfl rfl (RO.lenOsl sl_22 rfl) <| rM rfl rfl rfl <| XL.nil <| XQ.seq <| XC.block ?_
   refine XC.joinX 0 (fun (o6 : (GMap Bs Int)) => ⟨[(0, .v (.one (.osl 0 0 nn nn))), (2, .v (.one (.ptr 1 0))), (4, .v (.one (.ptr 3 0)))], [(0, .cells 48 (flatE a0)), (1, .cells 72 [dN, .d (.v (.map none))]), (2, .mp (gmE o6.1) o6.2), (3, .cells 72 [dN, .mp 2])], [], 4, 88, []⟩) (fun (o6 : (GMap Bs Int)) => (Option.bind (loopN (m15o_l3 nn a0 o6) FUEL (0, ([] : List (List Int)))) (Sum.elim (fun (o7 : (List (List Int))) => some (.inl (o7, o6))) (fun o => some o))) = some y5) ?_ ?_
   ·
    refine bindK h1 (fun o7 hl2 h1 => ?_)
    refine XC.loopM (m15o_l1 nn a0) (fun s2 => ⟨[(0, .v (.one (.osl 0 0 nn nn))), (2, .v (.one (.ptr 1 0))), (4, .v (.one (.ptr 3 0))), (20, .v (.one (.osl 0 0 nn nn))), (21, .v (.one (dI ((nn : Nat) : Int)))), (22, .v (.one (dI s2.1)))], [(0, .cells 48 (flatE a0)), (1, .cells 72 [dN, .d (.v (.map none))]), (2, .mp (gmE s2.2.1) s2.2.2), (3, .cells 72 [dN, .mp 2])], [], 4, 88, []⟩) (0, gmNil) o7 (stle (tR rfl (tR rfl (tR rfl (tR rfl (tR rfl (tR rfl tZ)))))) (hR rfl (hR rfl (hR rfl (hR rfl hZ)))) kZ rfl (Nat.le_trans hv1 (lb rfl)) rfl rfl rfl (bF rfl (bB rfl rfl (bG rfl (bB rfl rfl bZ)))) rfl rfl) hl2 (fun s2 n2 oo2 h2 ho2 => ?_)
    unfold m15o_l1 at h2
    refine XC.seq <| XC.region <| rR rfl rfl rfl (RO.binInt rfl rfl rfl) <| XL.nil <| XQ.seq <| XC.seq ?_
    refine XC.cond (b := (decide (s2.1 < ((nn : Nat) : Int)))) rfl (fun c8 => ?_) (fun c8 => ?_)
    ·
     replace h2 := condT c8 h2
     refine XC.skip <| XQ.seq <| XC.seq <| XC.block <| XC.seq <| XC.region <| rM rfl rfl rfl ?_
     refine bindK h2 (fun x9 hx9 h2 => ?_)
     refine guardK h2 (fun g10 h2 => ?_)
     refine rR rfl rfl rfl (RO.indexO (α := Dcl) sl_22 rfl rfl hx9 g10) <| rR rfl rfl rfl (RO.loadOE (α := Dcl) (ys := [dI x9.kind, dS8 x9.name, dI x9.params, dI x9.ty.kind, dI x9.ty.index, dS8 x9.ty.name, dS x9.ty.levels, dS x9.ty.kids, dI x9.value.kind, dI x9.value.index, dS8 x9.value.name, dS x9.value.levels, dS x9.value.kids, dI x9.fixed, dS x9.ctors, dI x9.rcr.params, dI x9.rcr.ty.kind, dI x9.rcr.ty.index, dS8 x9.rcr.ty.name, dS x9.rcr.ty.levels, dS x9.rcr.ty.kids, dS x9.rcr.rules, dS x9.funs]) ag_48 rfl rfl hx9 rfl) <| XL.put rfl rfl (lb rfl) (OpOK.alloc z_48 rfl) <| rA rfl rfl rfl <| XL.eff rfl rfl (OpOK.storeCE (x9 : Dcl) ag_48 rfl rfl rfl rfl rfl) <| XL.nil <| XQ.seq <| XC.seq <| XC.region <| rR rfl rfl rfl (RO.loadCE (x9 : Dcl) ag_48 rfl rfl) ?_
     refine bindK h2 (fun x11 hx11 h2 => ?_)
     refine XL.put rfl rfl (lb rfl) (OpOK.callFun (m37_ok x9 x11 hx11) rfl (.cons (.agg (.cons (.d _) (.cons (.d _) (.cons (.d _) (.cons (.d _) (.cons (.d _) (.cons (.d _) (.cons (.d _) (.cons (.d _) (.cons (.d _) (.cons (.d _) (.cons (.d _) (.cons (.d _) (.cons (.d _) (.cons (.d _) (.cons (.d _) (.cons (.d _) (.cons (.d _) (.cons (.d _) (.cons (.d _) (.cons (.d _) (.cons (.d _) (.cons (.d _) (.cons (.d _) .nil)))))))))))))))))))))))) .nil)) <| rR rfl rfl rfl (RO.lenE (α := Bs) sl_23 rfl (.d _)) <| rM rfl rfl rfl <| XL.nil <| XQ.seq <| XC.block ?_
     refine XC.joinX 2 (fun (o12 : (GMap Bs Int)) => ⟨[(0, .v (.one (.osl 0 0 nn nn))), (2, .v (.one (.ptr 1 0))), (4, .v (.one (.ptr 3 0))), (20, .v (.one (.osl 0 0 nn nn))), (21, .v (.one (dI ((nn : Nat) : Int)))), (22, .v (.one (dI s2.1)))], [(0, .cells 48 (flatE a0)), (1, .cells 72 [dN, .d (.v (.map none))]), (2, .mp (gmE o12.1) o12.2), (3, .cells 72 [dN, .mp 2]), (4, .cells 48 (cE x9))], [], 5, 88, []⟩) (fun (o12 : (GMap Bs Int)) => (some (.next ((w64 (s2.1 + 1)), o12))) = some oo2) ?_ ?_
     ·
      refine bindK h2 (fun o13 hl3 h2 => ?_)
      refine XC.loopM (m15o_l0 x11 s2) (fun s3 => ⟨[(0, .v (.one (.osl 0 0 nn nn))), (2, .v (.one (.ptr 1 0))), (4, .v (.one (.ptr 3 0))), (5, .v (.one (dI s2.1))), (20, .v (.one (.osl 0 0 nn nn))), (21, .v (.one (dI ((nn : Nat) : Int)))), (22, .v (.one (dI s2.1))), (28, .v (.one (dS x11))), (29, .v (.one (dI (x11.length : Int)))), (30, .v (.one (dI s3.1)))], [(0, .cells 48 (flatE a0)), (1, .cells 72 [dN, .d (.v (.map none))]), (2, .mp (gmE s3.2.1) s3.2.2), (3, .cells 72 [dN, .mp 2]), (4, .cells 48 (cE x9))], [], 5, 88, []⟩) (0, s2.2) o13 (stle (tR rfl (tR rfl (tR rfl (tR rfl (tR rfl (tR rfl (tR rfl (tR rfl (tR rfl (tR rfl tZ)))))))))) (hR rfl (hR rfl (hR rfl (hR rfl (hR rfl hZ))))) kZ rfl (Nat.le_trans hv1 (lb rfl)) rfl rfl rfl (bF rfl (bB rfl rfl (bG rfl (bB rfl rfl (bB rfl rfl bZ))))) rfl rfl) hl3 (fun s3 n3 oo3 h3 ho3 => ?_)
      unfold m15o_l0 at h3
      refine XC.seq <| XC.region <| rR rfl rfl rfl (RO.binInt rfl rfl rfl) <| XL.nil <| XQ.seq <| XC.seq ?_
      refine XC.cond (b := (decide (s3.1 < (x11.length : Int)))) rfl (fun c14 => ?_) (fun c14 => ?_)
      ·
       replace h3 := condT c14 h3
       refine XC.skip <| XQ.seq <| XC.seq <| XC.block <| XC.seq <| XC.region ?_
       refine bindK h3 (fun x15 hx15 h3 => ?_)
       refine rR rfl rfl rfl (RO.indexE (α := Bs) sl_23 rfl (.d _) rfl hx15) <| rR rfl rfl rfl (RO.loadPel ag_9 rfl rfl) <| rA rfl rfl rfl <| XL.nil <| XQ.seq <| XC.seq <| XC.seq <| XC.region <| rR rfl rfl rfl (RO.fieldOwn fo_72_1 rfl) <| rR rfl rfl rfl (RO.loadOwn ag_70 rfl rfl rfl) <| rM rfl rfl rfl <| rR rfl rfl rfl (RO.lookupGT (M := s3.2) (k := x15) mp_70 zok_int rfl rfl rfl) <| rM rfl rfl rfl <| rR rfl rfl rfl (RO.extract rfl rfl) ?_
       refine rR rfl rfl rfl (RO.extract rfl rfl) <| rA rfl rfl rfl <| rA rfl rfl rfl <| XL.nil <| XQ.seq <| XC.seq <| XC.region <| rM rfl rfl rfl <| XL.nil <| XQ.seq ?_
       refine XC.cond (b := (gmHas s3.2 x15)) rfl (fun c16 => ?_) (fun c16 => ?_)
       ·
        replace h3 := condT c16 h3
        refine XC.seq <| XC.region <| rR rfl rfl rfl (RO.build0 bd_72 rfl ) <| XL.eff rfl rfl (OpOK.store ag_72 rfl rfl rfl rfl (lb rfl) rfl) <| rA rfl rfl rfl <| XL.nil <| XQ.seq <| XC.ret ?_
        have e_ := Option.some.inj h3
        subst e_
        have e_ : _ = _ := ho3
        subst e_
        try dsimp only [Sum.elim_inl, Sum.elim_inr] at h2
        have e_ := Option.some.inj h2
        subst e_
        have e_ : _ = _ := ho2
        subst e_
        try dsimp only [Sum.elim_inl, Sum.elim_inr] at h1
        have e_ := Option.some.inj h1
        subst e_
        exact hQ1 _ _ _ (.inr rfl) rfl (show StLe _ _ ⟨[(2, .v (.one (.ptr 1 0))), (3, .v (.one (dI 8)))], [(0, .cells 48 (flatE a0)), (1, .cells 72 [dN, .d (.v (.map none))])], [], 5, 88, []⟩ from (stle (tR rfl (tR rfl tZ)) (hR rfl (hR rfl hZ)) kZ rfl (Nat.le_trans hv1 (lb rfl)) rfl rfl rfl (bF rfl (bB rfl rfl bZ)) rfl rfl))
       ·
        replace h3 := condF c16 h3
        refine XC.skip <| XQ.seq <| XC.region <| rR rfl rfl rfl (RO.fieldOwn fo_72_1 rfl) <| rR rfl rfl rfl (RO.loadOwn ag_70 rfl rfl rfl) <| rM rfl rfl rfl <| rM rfl rfl rfl <| XL.eff rfl rfl (OpOK.mapSetG (M := s3.2) (k := x15) (v := s2.1) mp_70 rfl rfl rfl rfl rfl) <| XL.nil <| XQ.inBlock <| XQ.seq <| XC.region <| rR rfl rfl rfl (RO.binInt rfl rfl rfl) <| rM rfl rfl rfl ?_
        refine XL.nil ?_
        have e_ := Option.some.inj h3
        subst e_
        refine XQ.nextM ((w64 (s3.1 + 1)), (gmSet s3.2 x15 s2.1)) (stle (tR rfl (tR rfl (tR rfl (tR rfl (tR rfl (tR rfl (tR rfl (tR rfl (tR rfl (tR rfl tZ)))))))))) (hR rfl (hR rfl (hR rfl (hR rfl (hR rfl hZ))))) kZ rfl (Nat.le_trans hv1 (lb rfl)) rfl rfl rfl (bF rfl (bB rfl rfl (bG rfl (bB rfl rfl (bB rfl rfl bZ))))) rfl rfl) ho3
      ·
       replace h3 := condF c14 h3
       refine XC.exit <| XQ.thenE <| XQ.thenE ?_
       have e_ := Option.some.inj h3
       subst e_
       have e_ : _ = _ := ho3
       subst e_
       exact XQ.joinX s3.2 (stle (tR rfl (tR rfl (tR rfl (tR rfl (tR rfl (tR rfl tZ)))))) (hR rfl (hR rfl (hR rfl (hR rfl (hR rfl hZ))))) kZ rfl (Nat.le_trans hv1 (lb rfl)) rfl rfl rfl (bF rfl (bB rfl rfl (bG rfl (bB rfl rfl (bB rfl rfl bZ))))) rfl rfl) h2
     ·
      intro o12 h2
      refine XQ.blockX <| XQ.inBlock <| XQ.seq <| XC.region <| rR rfl rfl rfl (RO.binInt rfl rfl rfl) <| rM rfl rfl rfl <| XL.nil ?_
      have e_ := Option.some.inj h2
      subst e_
      refine XQ.nextM ((w64 (s2.1 + 1)), o12) (stle (tR rfl (tR rfl (tR rfl (tR rfl (tR rfl (tR rfl tZ)))))) (hR rfl (hR rfl (hR rfl (hR rfl hZ)))) kZ rfl (Nat.le_trans hv1 (lb rfl)) rfl rfl rfl (bF rfl (bB rfl rfl (bG rfl (bB rfl rfl bZ)))) rfl rfl) ho2
    ·
     replace h2 := condF c8 h2
     refine XC.exit <| XQ.thenE <| XQ.thenE ?_
     have e_ := Option.some.inj h2
     subst e_
     have e_ : _ = _ := ho2
     subst e_
     exact XQ.joinX s2.2 (stle (tR rfl (tR rfl (tR rfl tZ))) (hR rfl (hR rfl (hR rfl (hR rfl hZ)))) kZ rfl (Nat.le_trans hv1 (lb rfl)) rfl rfl rfl (bF rfl (bB rfl rfl (bG rfl (bB rfl rfl bZ)))) rfl rfl) h1
   ·
    intro o6 h1
    refine XQ.blockX <| XQ.seq <| XC.seq <| XC.seq <| XC.region <| rM rfl rfl rfl <| rR rfl rfl rfl (RO.lenOsl sl_22 rfl) <| rM rfl rfl rfl <| XL.nil <| XQ.seq <| XC.block ?_
    refine XC.joinX 4 (fun (o17 : (List (List Int))) => ⟨[(2, .v (.one (.ptr 1 0))), (4, .v (.one (.ptr 3 0)))], [(0, .cells 48 (flatE a0)), (1, .cells 72 [dN, .d (.v (.map none))]), (2, .mp (gmE o6.1) o6.2), (3, .cells 72 [dA 4 o17, .mp 2])], [(4, some ⟨54, 1, (Enc.encL o17).length, []⟩)], 5, 88, []⟩) (fun (o17 : (List (List Int))) => (some (.inl (o17, o6))) = some y5) ?_ ?_
    ·
     refine XC.adoptC (i := 3) (off := 0) 54 1 rfl rfl ?_
     refine bindK h1 (fun o18 hl2 h1 => ?_)
     refine XC.loopM (m15o_l3 nn a0 o6) (fun s2 => ⟨[(2, .v (.one (.ptr 1 0))), (4, .v (.one (.ptr 3 0))), (49, .v (.one (.osl 0 0 nn nn))), (50, .v (.one (dI ((nn : Nat) : Int)))), (51, .v (.one (dI s2.1)))], [(0, .cells 48 (flatE a0)), (1, .cells 72 [dN, .d (.v (.map none))]), (2, .mp (gmE o6.1) o6.2), (3, .cells 72 [dA 4 s2.2, .mp 2])], [(4, some ⟨54, 1, (Enc.encL s2.2).length, []⟩)], 5, 88, []⟩) (0, ([] : List (List Int))) o18 (stle (tR rfl (tR rfl (tR rfl (tR rfl (tR rfl tZ))))) (hR rfl (hR rfl (hR rfl (hR rfl hZ)))) (kR rfl kZ) rfl (Nat.le_trans hv1 (lb rfl)) rfl rfl rfl (bF rfl (bB rfl rfl (bG rfl (bB rfl rfl bZ)))) rfl rfl) hl2 (fun s2 n2 oo2 h2 ho2 => ?_)
     unfold m15o_l3 at h2
     refine XC.seq <| XC.region <| rR rfl rfl rfl (RO.binInt rfl rfl rfl) <| XL.nil <| XQ.seq <| XC.seq ?_
     refine XC.cond (b := (decide (s2.1 < ((nn : Nat) : Int)))) rfl (fun c19 => ?_) (fun c19 => ?_)
     ·
      replace h2 := condT c19 h2
      refine XC.skip <| XQ.seq <| XC.seq <| XC.block <| XC.seq <| XC.region ?_
      refine bindK h2 (fun x20 hx20 h2 => ?_)
      refine guardK h2 (fun g21 h2 => ?_)
      refine rR rfl rfl rfl (RO.indexO (α := Dcl) sl_22 rfl rfl hx20 g21) <| rR rfl rfl rfl (RO.loadOE (α := Dcl) (ys := [dI x20.kind, dS8 x20.name, dI x20.params, dI x20.ty.kind, dI x20.ty.index, dS8 x20.ty.name, dS x20.ty.levels, dS x20.ty.kids, dI x20.value.kind, dI x20.value.index, dS8 x20.value.name, dS x20.value.levels, dS x20.value.kids, dI x20.fixed, dS x20.ctors, dI x20.rcr.params, dI x20.rcr.ty.kind, dI x20.rcr.ty.index, dS8 x20.rcr.ty.name, dS x20.rcr.ty.levels, dS x20.rcr.ty.kids, dS x20.rcr.rules, dS x20.funs]) ag_48 rfl rfl hx20 rfl) <| XL.put rfl rfl (lb rfl) (OpOK.alloc z_48 rfl) <| XL.eff rfl rfl (OpOK.storeCE (x20 : Dcl) ag_48 rfl rfl rfl rfl rfl) <| XL.nil <| XQ.seq <| XC.seq <| XC.region <| rA rfl rfl rfl <| XL.nil <| XQ.seq <| XC.seq <| XC.seq <| XC.region ?_
      refine rR rfl rfl rfl (RO.loadCE (x20 : Dcl) ag_48 rfl rfl) ?_
      refine bindK h2 (fun x22 hx22 h2 => ?_)
      refine XL.put rfl rfl (lb rfl) (OpOK.callFun (m53_ok x20 x22 hx22) rfl (.cons (.agg (.cons (.d _) (.cons (.d _) (.cons (.d _) (.cons (.d _) (.cons (.d _) (.cons (.d _) (.cons (.d _) (.cons (.d _) (.cons (.d _) (.cons (.d _) (.cons (.d _) (.cons (.d _) (.cons (.d _) (.cons (.d _) (.cons (.d _) (.cons (.d _) (.cons (.d _) (.cons (.d _) (.cons (.d _) (.cons (.d _) (.cons (.d _) (.cons (.d _) (.cons (.d _) .nil)))))))))))))))))))))))) .nil)) <| rR rfl rfl rfl (RO.lenE (α := Bs) sl_23 rfl (.d _)) <| rM rfl rfl rfl <| XL.nil <| XQ.seq <| XC.block ?_
      refine XC.joinX 6 (fun (o23 : (List Int)) => ⟨[(2, .v (.one (.ptr 1 0))), (4, .v (.one (.ptr 3 0))), (13, .v (.one (.apv 6 1 ((Enc.encL o23).length) []))), (49, .v (.one (.osl 0 0 nn nn))), (50, .v (.one (dI ((nn : Nat) : Int)))), (51, .v (.one (dI s2.1)))], [(0, .cells 48 (flatE a0)), (1, .cells 72 [dN, .d (.v (.map none))]), (2, .mp (gmE o6.1) o6.2), (3, .cells 72 [dA 4 s2.2, .mp 2]), (5, .cells 48 (cE x20))], [(4, some ⟨54, 1, (Enc.encL s2.2).length, []⟩), (6, some ⟨3, 1, (Enc.encL o23).length, (Enc.encL o23).flatten⟩)], 7, 88, []⟩) (fun (o23 : (List Int)) => (Option.bind (sortF o23) fun (x24 : List Int) =>
        Option.bind (compactF x24 ((Enc.encL o23).length)) fun (x25 : List Int) =>
        guardO (Nat.ble (s2.2.length + ([x25]).length) 1000000000)
        (some (.next ((w64 (s2.1 + 1)), (s2.2 ++ ([x25])))))) = some oo2) ?_ ?_
      ·
       refine XC.adoptT (t := 13) 3 1 rfl <| XC.privT (α := Int) (t := 13) rfl rfl ?_
       refine bindK h2 (fun o24 hl3 h2 => ?_)
       refine XC.loopM (m15o_l2 x22 o6) (fun s3 => ⟨[(2, .v (.one (.ptr 1 0))), (4, .v (.one (.ptr 3 0))), (13, .v (.one (.apv 6 1 ((Enc.encL s3.1).length) []))), (49, .v (.one (.osl 0 0 nn nn))), (50, .v (.one (dI ((nn : Nat) : Int)))), (51, .v (.one (dI s2.1))), (56, .v (.one (dS x22))), (57, .v (.one (dI (x22.length : Int)))), (58, .v (.one (dI s3.2)))], [(0, .cells 48 (flatE a0)), (1, .cells 72 [dN, .d (.v (.map none))]), (2, .mp (gmE o6.1) o6.2), (3, .cells 72 [dA 4 s2.2, .mp 2]), (5, .cells 48 (cE x20))], [(4, some ⟨54, 1, (Enc.encL s2.2).length, []⟩), (6, some ⟨3, 1, (Enc.encL s3.1).length, (Enc.encL s3.1).flatten⟩)], 7, 88, []⟩) (([] : List Int), 0) o24 (stle (tR rfl (tR rfl (tR rfl (tR rfl (tR rfl (tR rfl (tR rfl (tR rfl (tR rfl tZ))))))))) (hR rfl (hR rfl (hR rfl (hR rfl (hR rfl hZ))))) (kR rfl (kR rfl kZ)) rfl (Nat.le_trans hv1 (lb rfl)) rfl rfl rfl (bF rfl (bB rfl rfl (bG rfl (bB rfl rfl (bB rfl rfl bZ))))) rfl rfl) hl3 (fun s3 n3 oo3 h3 ho3 => ?_)
       unfold m15o_l2 at h3
       refine XC.seq <| XC.region <| rR rfl rfl rfl (RO.binInt rfl rfl rfl) <| XL.nil <| XQ.seq <| XC.seq ?_
       refine XC.cond (b := (decide (s3.2 < (x22.length : Int)))) rfl (fun c25 => ?_) (fun c25 => ?_)
       ·
        replace h3 := condT c25 h3
        refine XC.skip <| XQ.seq <| XC.seq <| XC.block <| XC.seq <| XC.region ?_
        refine bindK h3 (fun x26 hx26 h3 => ?_)
        refine rR rfl rfl rfl (RO.indexE (α := Bs) sl_23 rfl (.d _) rfl hx26) <| rR rfl rfl rfl (RO.loadPel ag_9 rfl rfl) <| rA rfl rfl rfl <| XL.nil <| XQ.seq <| XC.seq <| XC.region <| rR rfl rfl rfl (RO.fieldOwn fo_72_1 rfl) <| rR rfl rfl rfl (RO.loadOwn ag_70 rfl rfl rfl) <| rM rfl rfl rfl <| rR rfl rfl rfl (RO.lookupGT (M := o6) (k := x26) mp_70 zok_int rfl rfl rfl) <| rM rfl rfl rfl <| rR rfl rfl rfl (RO.extract rfl rfl) <| rR rfl rfl rfl (RO.extract rfl rfl) ?_
        refine rA rfl rfl rfl <| rA rfl rfl rfl <| XL.nil <| XQ.seq <| XC.seq <| XC.seq <| XC.region <| rM rfl rfl rfl <| rR rfl rfl rfl (RO.not rfl) <| XL.nil <| XQ.seq ?_
        refine XC.cond (b := (!(gmHas o6 x26))) rfl (fun c27 => ?_) (fun c27 => ?_)
        ·
         replace h3 := condT c27 h3
         refine XC.seq <| XC.region <| rR rfl rfl rfl (RO.build0 bd_72 rfl ) <| XL.eff rfl rfl (OpOK.store ag_72 rfl rfl rfl rfl (lb rfl) rfl) <| rA rfl rfl rfl <| XL.nil <| XQ.seq <| XC.ret ?_
         have e_ := Option.some.inj h3
         subst e_
         have e_ : _ = _ := ho3
         subst e_
         try dsimp only [Sum.elim_inl, Sum.elim_inr] at h2
         have e_ := Option.some.inj h2
         subst e_
         have e_ : _ = _ := ho2
         subst e_
         try dsimp only [Sum.elim_inl, Sum.elim_inr] at h1
         have e_ := Option.some.inj h1
         subst e_
         exact hQ1 _ _ _ (.inr rfl) rfl (show StLe _ _ ⟨[(2, .v (.one (.ptr 1 0))), (3, .v (.one (dI 9)))], [(0, .cells 48 (flatE a0)), (1, .cells 72 [dN, .d (.v (.map none))])], [], 7, 88, []⟩ from (stle (tR rfl (tR rfl tZ)) (hR rfl (hR rfl hZ)) kZ rfl (Nat.le_trans hv1 (lb rfl)) rfl rfl rfl (bF rfl (bB rfl rfl bZ)) rfl rfl))
        ·
         replace h3 := condF c27 h3
         refine XC.skip <| XQ.seq <| XC.region <| rM rfl rfl rfl <| rM rfl rfl rfl <| XL.put rfl rfl (lb rfl) (OpOK.lit1E (α := Int) ((gmVal o6 x26)) sl_54 z_3 rfl rfl (lb rfl) (lb rfl) rfl rfl (.cons (.d _) .nil) rfl) ?_
         refine guardK h3 (fun g28 h3 => ?_)
         refine XL.put rfl rfl (lb rfl) (OpOK.appendPr (α := Int) (l := s3.1) (l2 := ([(gmVal o6 x26)] : List Int)) sl_54 el_3 rfl rfl rfl rfl (.app _ _) rfl g28) <| rA rfl rfl rfl <| XL.nil <| XQ.inBlock <| XQ.seq <| XC.region <| rR rfl rfl rfl (RO.binInt rfl rfl rfl) <| rM rfl rfl rfl <| XL.nil ?_
         have e_ := Option.some.inj h3
         subst e_
         refine XQ.nextM ((s3.1 ++ ([(gmVal o6 x26)])), (w64 (s3.2 + 1))) (stle (tR rfl (tR rfl (tR rfl (tR rfl (tR rfl (tR rfl (tR rfl (tR rfl (tR rfl tZ))))))))) (hR rfl (hR rfl (hR rfl (hR rfl (hR rfl hZ))))) (kR rfl (kR rfl kZ)) rfl (Nat.le_trans hv1 (lb rfl)) rfl rfl rfl (bF rfl (bB rfl rfl (bG rfl (bB rfl rfl (bB rfl rfl bZ))))) rfl rfl) ho3
       ·
        replace h3 := condF c25 h3
        refine XC.exit <| XQ.thenE <| XQ.thenE ?_
        have e_ := Option.some.inj h3
        subst e_
        have e_ : _ = _ := ho3
        subst e_
        exact XQ.joinX s3.1 (stle (tR rfl (tR rfl (tR rfl (tR rfl (tR rfl (tR rfl tZ)))))) (hR rfl (hR rfl (hR rfl (hR rfl (hR rfl hZ))))) (kR rfl (kR rfl kZ)) rfl (Nat.le_trans hv1 (lb rfl)) rfl rfl rfl (bF rfl (bB rfl rfl (bG rfl (bB rfl rfl (bB rfl rfl bZ))))) rfl rfl) h2
      ·
       intro o23 h2
       refine XQ.blockX <| XQ.seq <| XC.seq <| XC.region <| rM rfl rfl rfl ?_
       refine bindK h2 (fun x29 hx29 h2 => ?_)
       refine XL.put rfl rfl (lb rfl) (OpOK.callG (hp1' := []) (tk1' := [(6, some ⟨3, 1, (Enc.encL o23).length, (Enc.encL x29).flatten⟩)]) (hpF := [(0, .cells 48 (flatE a0)), (1, .cells 72 [dN, .d (.v (.map none))]), (2, .mp (gmE o6.1) o6.2), (3, .cells 72 [dA 4 s2.2, .mp 2]), (5, .cells 48 (cE x20))]) (tkF := [(4, some ⟨54, 1, (Enc.encL s2.2).length, []⟩)]) (res2 := resOf []) (nx2 := 7) [6] rfl rfl (sortF_ok o23 x29 hx29) rfl rfl qZ rfl rfl gZ (jR rfl jZ) (hR rfl (hR rfl (hR rfl (hR rfl (hR rfl hZ))))) (kR rfl kZ) rfl rfl rfl rfl rfl bZ rfl rfl rfl rfl) <| XL.nil <| XQ.seq ?_
       refine XC.anyRun [3, 5, 7] [(0, 1), (1, 1)] mixed (by kernel_rfl) (by kernel_rfl) (by kernel_rfl) ?_
       refine RunA.rd rfl rfl rfl (OpOK.of_ro (RO.fieldOwn fo_72_0 rfl)) rfl <| RunA.rd rfl rfl rfl (OpOK.of_ro (RO.loadOwn ag_57 rfl rfl rfl)) rfl <| RunA.rd rfl rfl rfl (OpOK.of_ro (RO.move rfl)) rfl ?_
       refine bindK h2 (fun x30 hx30 h2 => ?_)
       refine RunA.eff rfl rfl rfl (OpOK.callG (hp1' := []) (tk1' := [(7, some ⟨3, 1, (Enc.encL x30).length, []⟩)]) (hpF := [(0, .cells 48 (flatE a0)), (1, .cells 72 [dN, .d (.v (.map none))]), (2, .mp (gmE o6.1) o6.2), (3, .cells 72 [dA 4 s2.2, .mp 2]), (5, .cells 48 (cE x20))]) (tkF := [(4, some ⟨54, 1, (Enc.encL s2.2).length, []⟩)]) (res2 := resOf [.one (dA 7 x30)]) (nx2 := 8) [6] rfl rfl (compactF_ok x29 ((Enc.encL o23).length) x30 hx30) rfl rfl qZ rfl rfl gZ (jR rfl jZ) (hR rfl (hR rfl (hR rfl (hR rfl (hR rfl hZ))))) (kR rfl kZ) rfl rfl rfl rfl rfl bZ rfl rfl rfl rfl) rfl <| RunA.rd rfl rfl rfl (OpOK.data1E (α := List Int) (x30) sl_57 z_54 rfl rfl (lb rfl) rfl rfl (.cons (.app _ _ _) .nil) rfl) rfl ?_
       refine guardK h2 (fun g31 h2 => ?_)
       refine RunA.eff rfl rfl rfl (OpOK.appendE (α := List Int) sl_57 el_54 rfl rfl rfl rfl rfl (.d _) g31) rfl <| RunA.rd rfl rfl rfl (OpOK.of_ro (RO.fieldOwn fo_72_0 rfl)) rfl <| RunA.eff rfl rfl rfl (OpOK.store ag_57 rfl rfl rfl rfl (lb rfl) rfl) rfl ?_
       refine RunA.nil ⟨?ex, _, _, rfl, ?_⟩
       case ex => exact ⟨⟨_, rfl, _, _, rfl, rfl, rfl, .inl ⟨rfl, _, OpOK.of_ro (RO.fieldOwn fo_72_0 rfl), rfl⟩⟩, ⟨_, rfl, _, _, rfl, rfl, rfl, .inl ⟨rfl, _, OpOK.of_ro (RO.loadOwn ag_57 rfl rfl rfl), rfl⟩⟩, trivial⟩
       refine XQ.less (st' := ⟨[(2, .v (.one (.ptr 1 0))), (4, .v (.one (.ptr 3 0))), (49, .v (.one (.osl 0 0 nn nn))), (50, .v (.one (dI ((nn : Nat) : Int)))), (51, .v (.one (dI s2.1)))], [(0, .cells 48 (flatE a0)), (1, .cells 72 [dN, .d (.v (.map none))]), (2, .mp (gmE o6.1) o6.2), (3, .cells 72 [dA 4 ((s2.2 ++ ([x30])) : List (List Int)), .mp 2]), (5, .cells 48 (cE x20))], [(4, some ⟨54, 1, (Enc.encL ((s2.2 ++ ([x30])) : List (List Int))).length, []⟩), (7, some ⟨3, 1, (Enc.encL x30).length, []⟩)], 8, 88, []⟩) (stle (tR rfl (tR rfl (tR rfl (tR rfl (tR rfl tZ))))) (hR rfl (hR rfl (hR rfl (hR rfl (hR rfl hZ))))) (kR rfl (kR rfl kZ)) rfl (Nat.le_trans hv1 (lb rfl)) rfl rfl rfl (bF rfl (bB rfl rfl (bG rfl (bB rfl rfl (bB rfl rfl bZ))))) rfl rfl) <| XQ.inBlock <| XQ.seq <| XC.region <| rR rfl rfl rfl (RO.binInt rfl rfl rfl) <| rM rfl rfl rfl <| XL.nil ?_
       have e_ := Option.some.inj h2
       subst e_
       refine XQ.nextM ((w64 (s2.1 + 1)), (s2.2 ++ ([x30]))) (stle (tR rfl (tR rfl (tR rfl (tR rfl (tR rfl tZ))))) (hR rfl (hR rfl (hR rfl (hR rfl hZ)))) (kR rfl kZ) rfl (Nat.le_trans hv1 (lb rfl)) rfl rfl rfl (bF rfl (bB rfl rfl (bG rfl (bB rfl rfl bZ)))) rfl rfl) ho2
     ·
      replace h2 := condF c19 h2
      refine XC.exit <| XQ.thenE <| XQ.thenE ?_
      have e_ := Option.some.inj h2
      subst e_
      have e_ : _ = _ := ho2
      subst e_
      exact XQ.joinX s2.2 (stle (tR rfl (tR rfl tZ)) (hR rfl (hR rfl (hR rfl (hR rfl hZ)))) (kR rfl kZ) rfl (Nat.le_trans hv1 (lb rfl)) rfl rfl rfl (bF rfl (bB rfl rfl (bG rfl (bB rfl rfl bZ)))) rfl rfl) h1
    ·
     intro o17 h1
     refine XQ.blockX <| XQ.seq <| XC.seq <| XC.region <| rR rfl rfl rfl (RO.loadOwnAgg ag_72 rfl rfl rfl rfl) <| XL.eff rfl rfl (OpOK.store ag_72 rfl rfl rfl rfl (lb rfl) rfl) <| rA rfl rfl rfl <| XL.nil <| XQ.seq <| XC.ret ?_
     have e_ := Option.some.inj h1
     subst e_
     exact hQ1 _ _ _ (.inr rfl) rfl (show StLe _ _ ⟨[(2, .v (.one (.ptr 1 0))), (3, .v (.one (dI 0)))], [(0, .cells 48 (flatE a0)), (1, .cells 72 [dA 4 o17, .mp 2]), (2, .mp (gmE o6.1) o6.2)], [(4, some ⟨54, 1, (Enc.encL o17).length, []⟩)], 5, 88, []⟩ from (stle (tR rfl (tR rfl tZ)) (hR rfl (hR rfl (hR rfl hZ))) (kR rfl kZ) rfl (Nat.le_trans hv1 (lb rfl)) rfl rfl rfl (bF rfl (bB rfl rfl (bG rfl bZ))) rfl rfl))
  refine sumK (C := fun q_ => CallM Try.prog 34 [.one (.osl 0 0 nn nn)] ⟨[(0, .cells 48 (flatE a0))], [], 1⟩ (resOf (((Sum.elim (fun (y1 : (List (List Int)) × (GMap Bs Int)) => ([.agg [dA 4 y1.1, .mp 2], .one (dI 0)] : List AV)) (Sum.elim (fun (y2 : Unit) => ([.agg [dN, .d (.v (.map none))], .one (dI 8)] : List AV)) (fun (y3 : Unit) => ([.agg [dN, .d (.v (.map none))], .one (dI 9)] : List AV))))) q_)) ⟨(((Sum.elim (fun (y1 : (List (List Int)) × (GMap Bs Int)) => (⟨[(2, .v (.one (.ptr 1 0))), (3, .v (.one (dI 0)))], [(0, .cells 48 (flatE a0)), (1, .cells 72 [dA 4 y1.1, .mp 2]), (2, .mp (gmE y1.2.1) y1.2.2)], [(4, some ⟨54, 1, (Enc.encL y1.1).length, []⟩)], 5, 88, []⟩ : St)) (Sum.elim (fun (y2 : Unit) => (⟨[(2, .v (.one (.ptr 1 0))), (3, .v (.one (dI 8)))], [(0, .cells 48 (flatE a0)), (1, .cells 72 [dN, .d (.v (.map none))])], [], 5, 88, []⟩ : St)) (fun (y3 : Unit) => (⟨[(2, .v (.one (.ptr 1 0))), (3, .v (.one (dI 9)))], [(0, .cells 48 (flatE a0)), (1, .cells 72 [dN, .d (.v (.map none))])], [], 7, 88, []⟩ : St))))) q_).hp, (((Sum.elim (fun (y1 : (List (List Int)) × (GMap Bs Int)) => (⟨[(2, .v (.one (.ptr 1 0))), (3, .v (.one (dI 0)))], [(0, .cells 48 (flatE a0)), (1, .cells 72 [dA 4 y1.1, .mp 2]), (2, .mp (gmE y1.2.1) y1.2.2)], [(4, some ⟨54, 1, (Enc.encL y1.1).length, []⟩)], 5, 88, []⟩ : St)) (Sum.elim (fun (y2 : Unit) => (⟨[(2, .v (.one (.ptr 1 0))), (3, .v (.one (dI 8)))], [(0, .cells 48 (flatE a0)), (1, .cells 72 [dN, .d (.v (.map none))])], [], 5, 88, []⟩ : St)) (fun (y3 : Unit) => (⟨[(2, .v (.one (.ptr 1 0))), (3, .v (.one (dI 9)))], [(0, .cells 48 (flatE a0)), (1, .cells 72 [dN, .d (.v (.map none))])], [], 7, 88, []⟩ : St))))) q_).tk, (((Sum.elim (fun (y1 : (List (List Int)) × (GMap Bs Int)) => (⟨[(2, .v (.one (.ptr 1 0))), (3, .v (.one (dI 0)))], [(0, .cells 48 (flatE a0)), (1, .cells 72 [dA 4 y1.1, .mp 2]), (2, .mp (gmE y1.2.1) y1.2.2)], [(4, some ⟨54, 1, (Enc.encL y1.1).length, []⟩)], 5, 88, []⟩ : St)) (Sum.elim (fun (y2 : Unit) => (⟨[(2, .v (.one (.ptr 1 0))), (3, .v (.one (dI 8)))], [(0, .cells 48 (flatE a0)), (1, .cells 72 [dN, .d (.v (.map none))])], [], 5, 88, []⟩ : St)) (fun (y3 : Unit) => (⟨[(2, .v (.one (.ptr 1 0))), (3, .v (.one (dI 9)))], [(0, .cells 48 (flatE a0)), (1, .cells 72 [dN, .d (.v (.map none))])], [], 7, 88, []⟩ : St))))) q_).nx⟩) hc4 h0 (fun y1 hc4 h0 => ?_) (fun z_ hc4 h0 => sumK (C := fun q_ => CallM Try.prog 34 [.one (.osl 0 0 nn nn)] ⟨[(0, .cells 48 (flatE a0))], [], 1⟩ (resOf (((Sum.elim (fun (y1 : (List (List Int)) × (GMap Bs Int)) => ([.agg [dA 4 y1.1, .mp 2], .one (dI 0)] : List AV)) (Sum.elim (fun (y2 : Unit) => ([.agg [dN, .d (.v (.map none))], .one (dI 8)] : List AV)) (fun (y3 : Unit) => ([.agg [dN, .d (.v (.map none))], .one (dI 9)] : List AV))))) (.inr q_))) ⟨(((Sum.elim (fun (y1 : (List (List Int)) × (GMap Bs Int)) => (⟨[(2, .v (.one (.ptr 1 0))), (3, .v (.one (dI 0)))], [(0, .cells 48 (flatE a0)), (1, .cells 72 [dA 4 y1.1, .mp 2]), (2, .mp (gmE y1.2.1) y1.2.2)], [(4, some ⟨54, 1, (Enc.encL y1.1).length, []⟩)], 5, 88, []⟩ : St)) (Sum.elim (fun (y2 : Unit) => (⟨[(2, .v (.one (.ptr 1 0))), (3, .v (.one (dI 8)))], [(0, .cells 48 (flatE a0)), (1, .cells 72 [dN, .d (.v (.map none))])], [], 5, 88, []⟩ : St)) (fun (y3 : Unit) => (⟨[(2, .v (.one (.ptr 1 0))), (3, .v (.one (dI 9)))], [(0, .cells 48 (flatE a0)), (1, .cells 72 [dN, .d (.v (.map none))])], [], 7, 88, []⟩ : St))))) (.inr q_)).hp, (((Sum.elim (fun (y1 : (List (List Int)) × (GMap Bs Int)) => (⟨[(2, .v (.one (.ptr 1 0))), (3, .v (.one (dI 0)))], [(0, .cells 48 (flatE a0)), (1, .cells 72 [dA 4 y1.1, .mp 2]), (2, .mp (gmE y1.2.1) y1.2.2)], [(4, some ⟨54, 1, (Enc.encL y1.1).length, []⟩)], 5, 88, []⟩ : St)) (Sum.elim (fun (y2 : Unit) => (⟨[(2, .v (.one (.ptr 1 0))), (3, .v (.one (dI 8)))], [(0, .cells 48 (flatE a0)), (1, .cells 72 [dN, .d (.v (.map none))])], [], 5, 88, []⟩ : St)) (fun (y3 : Unit) => (⟨[(2, .v (.one (.ptr 1 0))), (3, .v (.one (dI 9)))], [(0, .cells 48 (flatE a0)), (1, .cells 72 [dN, .d (.v (.map none))])], [], 7, 88, []⟩ : St))))) (.inr q_)).tk, (((Sum.elim (fun (y1 : (List (List Int)) × (GMap Bs Int)) => (⟨[(2, .v (.one (.ptr 1 0))), (3, .v (.one (dI 0)))], [(0, .cells 48 (flatE a0)), (1, .cells 72 [dA 4 y1.1, .mp 2]), (2, .mp (gmE y1.2.1) y1.2.2)], [(4, some ⟨54, 1, (Enc.encL y1.1).length, []⟩)], 5, 88, []⟩ : St)) (Sum.elim (fun (y2 : Unit) => (⟨[(2, .v (.one (.ptr 1 0))), (3, .v (.one (dI 8)))], [(0, .cells 48 (flatE a0)), (1, .cells 72 [dN, .d (.v (.map none))])], [], 5, 88, []⟩ : St)) (fun (y3 : Unit) => (⟨[(2, .v (.one (.ptr 1 0))), (3, .v (.one (dI 9)))], [(0, .cells 48 (flatE a0)), (1, .cells 72 [dN, .d (.v (.map none))])], [], 7, 88, []⟩ : St))))) (.inr q_)).nx⟩) hc4 h0 (fun y2 hc4 h0 => ?_) (fun y3 hc4 h0 => ?_))
  ·
   replace hc4 : CallM Try.prog 34 [.one (.osl 0 0 nn nn)] ⟨[(0, .cells 48 (flatE a0))], [], 1⟩ (resOf [.agg [dA 4 y1.1, .mp 2], .one (dI 0)]) ⟨[(0, .cells 48 (flatE a0)), (1, .cells 72 [dA 4 y1.1, .mp 2]), (2, .mp (gmE y1.2.1) y1.2.2)], [(4, some ⟨54, 1, (Enc.encL y1.1).length, []⟩)], 5⟩ := hc4
   refine XL.put rfl rfl (lb rfl) (OpOK.callW rfl rfl rfl hc4 rfl (hR rfl hZ) kZ) <| rM rfl rfl rfl <| rR rfl rfl rfl (RO.extract rfl rfl) <| rR rfl rfl rfl (RO.extract rfl rfl) <| XL.put rfl rfl (lb rfl) (OpOK.alloc z_72 rfl) <| XL.eff rfl rfl (OpOK.store ag_72 rfl rfl rfl rfl (lb rfl) rfl) <| rA rfl rfl rfl <| XL.nil <| XQ.seq <| XC.seq <| XC.seq <| XC.region <| rM rfl rfl rfl <| rR rfl rfl rfl (RO.binInt rfl rfl rfl) ?_
   refine XL.nil <| XQ.seq ?_
   refine XC.cond rfl (fun h => nomatch h) (fun _ => ?_)
   refine XC.skip <| XQ.seq <| XC.seq <| XC.region <| rR rfl rfl rfl (RO.loadOwnAgg ag_72 rfl rfl rfl rfl) <| rR rfl rfl rfl (RO.fieldOwn fo_72_0 rfl) <| rR rfl rfl rfl (RO.loadOwn ag_57 rfl rfl rfl) <| rM rfl rfl rfl ?_
   refine bindK h0 (fun y35 h1 h0 => ?_)
   have hc34 : CallM Try.prog 35 [.agg [dA 4 y1.1, .mp 2], .one (dA 4 y1.1), .one (dS a1)] ⟨[(0, .cells 48 (flatE a0)), (1, .cells 72 [dA 4 y1.1, .mp 2]), (2, .mp (gmE y1.2.1) y1.2.2), (5, .cells 72 [dA 4 y1.1, .mp 2])], [(4, some ⟨54, 1, (Enc.encL y1.1).length, []⟩)], 6⟩ (resOf (((Sum.elim (fun (y32 : Unit) => ([.one (dN), .one (dI 9)] : List AV)) (fun (y33 : (List Bool)) => ([.one (.osl 8 0 ((y1.1.length : Int).toNat) ((y1.1.length : Int).toNat)), .one (dI 0)] : List AV)))) y35)) ⟨(((Sum.elim (fun (y32 : Unit) => (⟨[(6, .v (.one (dN))), (7, .v (.one (dI 9)))], [(0, .cells 48 (flatE a0)), (1, .cells 72 [dA 4 y1.1, .mp 2]), (2, .mp (gmE y1.2.1) y1.2.2), (5, .cells 72 [dA 4 y1.1, .mp 2])], [(4, some ⟨54, 1, (Enc.encL y1.1).length, []⟩)], 11, 38, []⟩ : St)) (fun (y33 : (List Bool)) => (⟨[(6, .v (.one (.osl 8 0 ((y1.1.length : Int).toNat) ((y1.1.length : Int).toNat)))), (7, .v (.one (dI 0)))], [(0, .cells 48 (flatE a0)), (1, .cells 72 [dA 4 y1.1, .mp 2]), (2, .mp (gmE y1.2.1) y1.2.2), (5, .cells 72 [dA 4 y1.1, .mp 2]), (8, .cells 4 (flatE y33))], [(4, some ⟨54, 1, (Enc.encL y1.1).length, []⟩)], 11, 38, []⟩ : St)))) y35).hp, (((Sum.elim (fun (y32 : Unit) => (⟨[(6, .v (.one (dN))), (7, .v (.one (dI 9)))], [(0, .cells 48 (flatE a0)), (1, .cells 72 [dA 4 y1.1, .mp 2]), (2, .mp (gmE y1.2.1) y1.2.2), (5, .cells 72 [dA 4 y1.1, .mp 2])], [(4, some ⟨54, 1, (Enc.encL y1.1).length, []⟩)], 11, 38, []⟩ : St)) (fun (y33 : (List Bool)) => (⟨[(6, .v (.one (.osl 8 0 ((y1.1.length : Int).toNat) ((y1.1.length : Int).toNat)))), (7, .v (.one (dI 0)))], [(0, .cells 48 (flatE a0)), (1, .cells 72 [dA 4 y1.1, .mp 2]), (2, .mp (gmE y1.2.1) y1.2.2), (5, .cells 72 [dA 4 y1.1, .mp 2]), (8, .cells 4 (flatE y33))], [(4, some ⟨54, 1, (Enc.encL y1.1).length, []⟩)], 11, 38, []⟩ : St)))) y35).tk, (((Sum.elim (fun (y32 : Unit) => (⟨[(6, .v (.one (dN))), (7, .v (.one (dI 9)))], [(0, .cells 48 (flatE a0)), (1, .cells 72 [dA 4 y1.1, .mp 2]), (2, .mp (gmE y1.2.1) y1.2.2), (5, .cells 72 [dA 4 y1.1, .mp 2])], [(4, some ⟨54, 1, (Enc.encL y1.1).length, []⟩)], 11, 38, []⟩ : St)) (fun (y33 : (List Bool)) => (⟨[(6, .v (.one (.osl 8 0 ((y1.1.length : Int).toNat) ((y1.1.length : Int).toNat)))), (7, .v (.one (dI 0)))], [(0, .cells 48 (flatE a0)), (1, .cells 72 [dA 4 y1.1, .mp 2]), (2, .mp (gmE y1.2.1) y1.2.2), (5, .cells 72 [dA 4 y1.1, .mp 2]), (8, .cells 4 (flatE y33))], [(4, some ⟨54, 1, (Enc.encL y1.1).length, []⟩)], 11, 38, []⟩ : St)))) y35).nx⟩ := by
    refine CallM.of_bodyT y35 ((Sum.elim (fun (y32 : Unit) => (⟨[(6, .v (.one (dN))), (7, .v (.one (dI 9)))], [(0, .cells 48 (flatE a0)), (1, .cells 72 [dA 4 y1.1, .mp 2]), (2, .mp (gmE y1.2.1) y1.2.2), (5, .cells 72 [dA 4 y1.1, .mp 2])], [(4, some ⟨54, 1, (Enc.encL y1.1).length, []⟩)], 11, 38, []⟩ : St)) (fun (y33 : (List Bool)) => (⟨[(6, .v (.one (.osl 8 0 ((y1.1.length : Int).toNat) ((y1.1.length : Int).toNat)))), (7, .v (.one (dI 0)))], [(0, .cells 48 (flatE a0)), (1, .cells 72 [dA 4 y1.1, .mp 2]), (2, .mp (gmE y1.2.1) y1.2.2), (5, .cells 72 [dA 4 y1.1, .mp 2]), (8, .cells 4 (flatE y33))], [(4, some ⟨54, 1, (Enc.encL y1.1).length, []⟩)], 11, 38, []⟩ : St)))) ((Sum.elim (fun (y32 : Unit) => ([.one (dN), .one (dI 9)] : List AV)) (fun (y33 : (List Bool)) => ([.one (.osl 8 0 ((y1.1.length : Int).toNat) ((y1.1.length : Int).toNat)), .one (dI 0)] : List AV)))) rfl rfl en_35 (lb rfl) (fun z_ => by cases z_ <;> rfl) (fun z_ => by cases z_ with
      | inl _ => exact (RAs.tmp rfl (RAs.tmp rfl .nil))
      | inr _ => exact (RAs.tmp rfl (RAs.tmp rfl .nil))) (fun w0 M V0 Q hv1 hQ1 => ?_)
    simp only [entry]
    refine XC.seq <| XC.region <| XL.put rfl rfl (lb rfl) (OpOK.box rfl) <| XL.put rfl rfl (lb rfl) (OpOK.box rfl) <| rA rfl rfl rfl <| rA rfl rfl rfl <| XL.nil <| XQ.seq <| XC.seq <| XC.region <| rR rfl rfl rfl (RO.loadOwn ag_57 rfl rfl rfl) <| rR rfl rfl rfl (RO.lenE (α := List Int) sl_57 rfl (.app _ _)) ?_
    refine guardK h1 (fun g36 h1 => ?_)
    refine XL.put rfl rfl (lb rfl) (OpOK.makeO (α := Bool) (z := false) sl_75 z_4 rfl rfl el_4 rfl rfl g36 rfl (by repeat (first | exact CLs.nil | refine CLs.cons (by first | exact .refl _ | exact .sub (.app _ _ _) | exact .sub (.nil _)) ?_))) ?_
    refine XL.put rfl rfl (lb rfl) (OpOK.alloc z_75 rfl) <| XL.eff rfl rfl (OpOK.store ag_75 rfl rfl rfl rfl (lb rfl) rfl) <| XL.nil <| XQ.seq <| XC.seq <| XC.region <| XL.put rfl rfl (lb rfl) (OpOK.alloc z_106 rfl) <| XL.nil <| XQ.seq <| XC.seq <| XC.region <| rR rfl rfl rfl (RO.makeFunc3 rfl rfl rfl) <| XL.eff rfl rfl (OpOK.store ag_106 rfl rfl rfl rfl (lb rfl) rfl) <| XL.nil ?_
    refine XQ.seq <| XC.seq <| XC.seq <| XC.region <| rM rfl rfl rfl <| rR rfl rfl rfl (RO.lenE (α := Bs) sl_23 rfl (.d _)) <| rM rfl rfl rfl <| XL.nil <| XQ.seq <| XC.block ?_
    refine XC.joinX 0 (fun (o37 : (List Bool)) => ⟨[(8, .v (.one (.ptr 9 0)))], [(0, .cells 48 (flatE a0)), (1, .cells 72 [dA 4 y1.1, .mp 2]), (2, .mp (gmE y1.2.1) y1.2.2), (5, .cells 72 [dA 4 y1.1, .mp 2]), (6, .cells 72 [dA 4 y1.1, .mp 2]), (7, .cells 57 [dA 4 y1.1]), (8, .cells 4 (flatE o37)), (9, .cells 75 [.osl 8 0 ((y1.1.length : Int).toNat) ((y1.1.length : Int).toNat)]), (10, .cells 106 [.fn 56 [(9, 0), (7, 0), (10, 0)]])], [(4, some ⟨54, 1, (Enc.encL y1.1).length, []⟩)], 11, 38, []⟩) (fun (o37 : (List Bool)) => (some (.inr o37)) = some y35) ?_ ?_
    ·
     refine bindK h1 (fun o38 hl2 h1 => ?_)
     refine XC.loopM (m15o_l4 a1 y1) (fun s2 => ⟨[(3, .v (.one (.ptr 6 0))), (8, .v (.one (.ptr 9 0))), (9, .v (.one (.ptr 10 0))), (18, .v (.one (dS a1))), (19, .v (.one (dI (a1.length : Int)))), (20, .v (.one (dI s2.1)))], [(0, .cells 48 (flatE a0)), (1, .cells 72 [dA 4 y1.1, .mp 2]), (2, .mp (gmE y1.2.1) y1.2.2), (5, .cells 72 [dA 4 y1.1, .mp 2]), (6, .cells 72 [dA 4 y1.1, .mp 2]), (7, .cells 57 [dA 4 y1.1]), (8, .cells 4 (flatE s2.2)), (9, .cells 75 [.osl 8 0 ((y1.1.length : Int).toNat) ((y1.1.length : Int).toNat)]), (10, .cells 106 [.fn 56 [(9, 0), (7, 0), (10, 0)]])], [(4, some ⟨54, 1, (Enc.encL y1.1).length, []⟩)], 11, 38, []⟩) (0, (List.replicate (y1.1.length : Int).toNat false)) o38 (stle (tR rfl (tR rfl (tR rfl (tR rfl (tR rfl (tR rfl tZ)))))) (hR rfl (hR rfl (hR rfl (hR rfl (hR rfl (hR rfl (hR rfl (hR rfl (hR rfl hZ))))))))) (kR rfl kZ) rfl (Nat.le_trans hv1 (lb rfl)) rfl rfl rfl (bF rfl (bB rfl rfl (bG rfl (bB rfl rfl (bB rfl rfl (bB rfl rfl (bF rfl (bB rfl rfl (bB rfl rfl bZ))))))))) rfl rfl) hl2 (fun s2 n2 oo2 h2 ho2 => ?_)
     unfold m15o_l4 at h2
     refine XC.seq <| XC.region <| rR rfl rfl rfl (RO.binInt rfl rfl rfl) <| XL.nil <| XQ.seq <| XC.seq ?_
     refine XC.cond (b := (decide (s2.1 < (a1.length : Int)))) rfl (fun c39 => ?_) (fun c39 => ?_)
     ·
      replace h2 := condT c39 h2
      refine XC.skip <| XQ.seq <| XC.seq <| XC.block <| XC.seq <| XC.region ?_
      refine bindK h2 (fun x40 hx40 h2 => ?_)
      refine rR rfl rfl rfl (RO.indexE (α := Bs) sl_23 rfl (.d _) rfl hx40) <| rR rfl rfl rfl (RO.loadPel ag_9 rfl rfl) <| rA rfl rfl rfl <| XL.nil <| XQ.seq <| XC.seq <| XC.region <| rR rfl rfl rfl (RO.fieldOwn fo_72_1 rfl) <| rR rfl rfl rfl (RO.loadOwn ag_70 rfl rfl rfl) <| rM rfl rfl rfl <| rR rfl rfl rfl (RO.lookupGT (M := y1.2) (k := x40) mp_70 zok_int rfl rfl rfl) <| rM rfl rfl rfl <| rR rfl rfl rfl (RO.extract rfl rfl) <| rR rfl rfl rfl (RO.extract rfl rfl) ?_
      refine rA rfl rfl rfl <| rA rfl rfl rfl <| XL.nil <| XQ.seq <| XC.seq <| XC.seq <| XC.region <| rM rfl rfl rfl <| rR rfl rfl rfl (RO.not rfl) <| XL.nil <| XQ.seq ?_
      refine XC.cond (b := (!(gmHas y1.2 x40))) rfl (fun c41 => ?_) (fun c41 => ?_)
      ·
       replace h2 := condT c41 h2
       refine XC.seq <| XC.region <| rA rfl rfl rfl <| rA rfl rfl rfl <| XL.nil <| XQ.seq <| XC.ret ?_
       have e_ := Option.some.inj h2
       subst e_
       have e_ : _ = _ := ho2
       subst e_
       try dsimp only [Sum.elim_inl, Sum.elim_inr] at h1
       have e_ := Option.some.inj h1
       subst e_
       exact hQ1 _ _ _ (.inr rfl) rfl (show StLe _ _ ⟨[(6, .v (.one (dN))), (7, .v (.one (dI 9)))], [(0, .cells 48 (flatE a0)), (1, .cells 72 [dA 4 y1.1, .mp 2]), (2, .mp (gmE y1.2.1) y1.2.2), (5, .cells 72 [dA 4 y1.1, .mp 2])], [(4, some ⟨54, 1, (Enc.encL y1.1).length, []⟩)], 11, 38, []⟩ from (stle (tR rfl (tR rfl tZ)) (hR rfl (hR rfl (hR rfl (hR rfl hZ)))) (kR rfl kZ) rfl (Nat.le_trans hv1 (lb rfl)) rfl rfl rfl (bF rfl (bB rfl rfl (bG rfl (bB rfl rfl bZ)))) rfl rfl))
      ·
       replace h2 := condF c41 h2
       refine XC.skip <| XQ.seq <| XC.region <| rR rfl rfl rfl (RO.loadOwn ag_106 rfl rfl rfl) <| rM rfl rfl rfl ?_
       refine bindK h2 (fun x42 hx42 h2 => ?_)
       refine XL.put rfl rfl (lb rfl) (OpOK.callG (hp1' := [(9, .cells 75 [.osl 8 0 ((y1.1.length : Int).toNat) ((y1.1.length : Int).toNat)]), (8, .cells 4 (flatE x42)), (7, .cells 57 [dA 4 y1.1]), (10, .cells 106 [.fn 56 [(9, 0), (7, 0), (10, 0)]])]) (tk1' := [(4, some ⟨54, 1, (Enc.encL y1.1).length, []⟩)]) (hpF := [(0, .cells 48 (flatE a0)), (1, .cells 72 [dA 4 y1.1, .mp 2]), (2, .mp (gmE y1.2.1) y1.2.2), (5, .cells 72 [dA 4 y1.1, .mp 2]), (6, .cells 72 [dA 4 y1.1, .mp 2])]) (tkF := []) (res2 := resOf []) (nx2 := 11) [9, 8, 7, 4, 10] rfl rfl (m56f11_ok (gmVal y1.2 x40) ((y1.1.length : Int).toNat) s2.2 y1.1 x42 hx42) rfl rfl (qB rfl rfl (qF rfl (qB rfl rfl (qB rfl rfl qZ)))) rfl rfl (gR rfl (gF rfl (gR rfl (gR rfl gZ)))) (jR rfl jZ) (hR rfl (hR rfl (hR rfl (hR rfl (hR rfl hZ))))) kZ rfl rfl rfl rfl rfl (bB rfl rfl (bF rfl (bB rfl rfl (bB rfl rfl bZ)))) rfl rfl rfl rfl) <| XL.nil <| XQ.inBlock <| XQ.seq <| XC.region <| rR rfl rfl rfl (RO.binInt rfl rfl rfl) <| rM rfl rfl rfl <| XL.nil ?_
       have e_ := Option.some.inj h2
       subst e_
       refine XQ.nextM ((w64 (s2.1 + 1)), x42) (stle (tR rfl (tR rfl (tR rfl (tR rfl (tR rfl (tR rfl tZ)))))) (hR rfl (hR rfl (hR rfl (hR rfl (hR rfl (hR rfl (hR rfl (hR rfl (hR rfl hZ))))))))) (kR rfl kZ) rfl (Nat.le_trans hv1 (lb rfl)) rfl rfl rfl (bF rfl (bB rfl rfl (bG rfl (bB rfl rfl (bB rfl rfl (bB rfl rfl (bF rfl (bB rfl rfl (bB rfl rfl bZ))))))))) rfl rfl) ho2
     ·
      replace h2 := condF c39 h2
      refine XC.exit <| XQ.thenE <| XQ.thenE ?_
      have e_ := Option.some.inj h2
      subst e_
      have e_ : _ = _ := ho2
      subst e_
      exact XQ.joinX s2.2 (stle (tR rfl tZ) (hR rfl (hR rfl (hR rfl (hR rfl (hR rfl (hR rfl (hR rfl (hR rfl (hR rfl hZ))))))))) (kR rfl kZ) rfl (Nat.le_trans hv1 (lb rfl)) rfl rfl rfl (bF rfl (bB rfl rfl (bG rfl (bB rfl rfl (bB rfl rfl (bB rfl rfl (bF rfl (bB rfl rfl (bB rfl rfl bZ))))))))) rfl rfl) h1
    ·
     intro o37 h1
     refine XQ.blockX <| XQ.seq <| XC.seq <| XC.region <| rR rfl rfl rfl (RO.loadOwn ag_75 rfl rfl rfl) <| rA rfl rfl rfl <| rA rfl rfl rfl <| XL.nil <| XQ.seq <| XC.ret ?_
     have e_ := Option.some.inj h1
     subst e_
     exact hQ1 _ _ _ (.inr rfl) rfl (show StLe _ _ ⟨[(6, .v (.one (.osl 8 0 ((y1.1.length : Int).toNat) ((y1.1.length : Int).toNat)))), (7, .v (.one (dI 0)))], [(0, .cells 48 (flatE a0)), (1, .cells 72 [dA 4 y1.1, .mp 2]), (2, .mp (gmE y1.2.1) y1.2.2), (5, .cells 72 [dA 4 y1.1, .mp 2]), (8, .cells 4 (flatE o37))], [(4, some ⟨54, 1, (Enc.encL y1.1).length, []⟩)], 11, 38, []⟩ from (stle (tR rfl (tR rfl tZ)) (hR rfl (hR rfl (hR rfl (hR rfl (hR rfl hZ))))) (kR rfl kZ) rfl (Nat.le_trans hv1 (lb rfl)) rfl rfl rfl (bF rfl (bB rfl rfl (bG rfl (bB rfl rfl (bF rfl bZ))))) rfl rfl))
   refine sumK (C := fun q_ => CallM Try.prog 35 [.agg [dA 4 y1.1, .mp 2], .one (dA 4 y1.1), .one (dS a1)] ⟨[(0, .cells 48 (flatE a0)), (1, .cells 72 [dA 4 y1.1, .mp 2]), (2, .mp (gmE y1.2.1) y1.2.2), (5, .cells 72 [dA 4 y1.1, .mp 2])], [(4, some ⟨54, 1, (Enc.encL y1.1).length, []⟩)], 6⟩ (resOf (((Sum.elim (fun (y32 : Unit) => ([.one (dN), .one (dI 9)] : List AV)) (fun (y33 : (List Bool)) => ([.one (.osl 8 0 ((y1.1.length : Int).toNat) ((y1.1.length : Int).toNat)), .one (dI 0)] : List AV)))) q_)) ⟨(((Sum.elim (fun (y32 : Unit) => (⟨[(6, .v (.one (dN))), (7, .v (.one (dI 9)))], [(0, .cells 48 (flatE a0)), (1, .cells 72 [dA 4 y1.1, .mp 2]), (2, .mp (gmE y1.2.1) y1.2.2), (5, .cells 72 [dA 4 y1.1, .mp 2])], [(4, some ⟨54, 1, (Enc.encL y1.1).length, []⟩)], 11, 38, []⟩ : St)) (fun (y33 : (List Bool)) => (⟨[(6, .v (.one (.osl 8 0 ((y1.1.length : Int).toNat) ((y1.1.length : Int).toNat)))), (7, .v (.one (dI 0)))], [(0, .cells 48 (flatE a0)), (1, .cells 72 [dA 4 y1.1, .mp 2]), (2, .mp (gmE y1.2.1) y1.2.2), (5, .cells 72 [dA 4 y1.1, .mp 2]), (8, .cells 4 (flatE y33))], [(4, some ⟨54, 1, (Enc.encL y1.1).length, []⟩)], 11, 38, []⟩ : St)))) q_).hp, (((Sum.elim (fun (y32 : Unit) => (⟨[(6, .v (.one (dN))), (7, .v (.one (dI 9)))], [(0, .cells 48 (flatE a0)), (1, .cells 72 [dA 4 y1.1, .mp 2]), (2, .mp (gmE y1.2.1) y1.2.2), (5, .cells 72 [dA 4 y1.1, .mp 2])], [(4, some ⟨54, 1, (Enc.encL y1.1).length, []⟩)], 11, 38, []⟩ : St)) (fun (y33 : (List Bool)) => (⟨[(6, .v (.one (.osl 8 0 ((y1.1.length : Int).toNat) ((y1.1.length : Int).toNat)))), (7, .v (.one (dI 0)))], [(0, .cells 48 (flatE a0)), (1, .cells 72 [dA 4 y1.1, .mp 2]), (2, .mp (gmE y1.2.1) y1.2.2), (5, .cells 72 [dA 4 y1.1, .mp 2]), (8, .cells 4 (flatE y33))], [(4, some ⟨54, 1, (Enc.encL y1.1).length, []⟩)], 11, 38, []⟩ : St)))) q_).tk, (((Sum.elim (fun (y32 : Unit) => (⟨[(6, .v (.one (dN))), (7, .v (.one (dI 9)))], [(0, .cells 48 (flatE a0)), (1, .cells 72 [dA 4 y1.1, .mp 2]), (2, .mp (gmE y1.2.1) y1.2.2), (5, .cells 72 [dA 4 y1.1, .mp 2])], [(4, some ⟨54, 1, (Enc.encL y1.1).length, []⟩)], 11, 38, []⟩ : St)) (fun (y33 : (List Bool)) => (⟨[(6, .v (.one (.osl 8 0 ((y1.1.length : Int).toNat) ((y1.1.length : Int).toNat)))), (7, .v (.one (dI 0)))], [(0, .cells 48 (flatE a0)), (1, .cells 72 [dA 4 y1.1, .mp 2]), (2, .mp (gmE y1.2.1) y1.2.2), (5, .cells 72 [dA 4 y1.1, .mp 2]), (8, .cells 4 (flatE y33))], [(4, some ⟨54, 1, (Enc.encL y1.1).length, []⟩)], 11, 38, []⟩ : St)))) q_).nx⟩) hc34 h0 (fun y32 hc34 h0 => ?_) (fun y33 hc34 h0 => ?_)
   ·
    replace hc34 : CallM Try.prog 35 [.agg [dA 4 y1.1, .mp 2], .one (dA 4 y1.1), .one (dS a1)] ⟨[(0, .cells 48 (flatE a0)), (1, .cells 72 [dA 4 y1.1, .mp 2]), (2, .mp (gmE y1.2.1) y1.2.2), (5, .cells 72 [dA 4 y1.1, .mp 2])], [(4, some ⟨54, 1, (Enc.encL y1.1).length, []⟩)], 6⟩ (resOf [.one (dN), .one (dI 9)]) ⟨[(0, .cells 48 (flatE a0)), (1, .cells 72 [dA 4 y1.1, .mp 2]), (2, .mp (gmE y1.2.1) y1.2.2), (5, .cells 72 [dA 4 y1.1, .mp 2])], [(4, some ⟨54, 1, (Enc.encL y1.1).length, []⟩)], 11⟩ := hc34
    refine XL.put rfl rfl (lb rfl) (OpOK.callW rfl rfl rfl hc34 rfl (hR rfl (hR rfl (hR rfl (hR rfl hZ)))) (kR rfl kZ)) <| rM rfl rfl rfl <| rR rfl rfl rfl (RO.extract rfl rfl) <| rR rfl rfl rfl (RO.extract rfl rfl) <| rA rfl rfl rfl <| rA rfl rfl rfl <| XL.nil <| XQ.seq <| XC.seq <| XC.seq <| XC.region <| rM rfl rfl rfl <| rR rfl rfl rfl (RO.binInt rfl rfl rfl) <| XL.nil ?_
    refine XQ.seq ?_
    refine XC.cond rfl (fun _ => ?_) (fun h => nomatch h)
    refine XC.seq <| XC.region <| rM rfl rfl rfl <| rA rfl rfl rfl <| rA rfl rfl rfl <| XL.nil <| XQ.seq <| XC.ret ?_
    have e_ := Option.some.inj h0
    subst e_
    exact hQ0 _ _ _ (.inr rfl) rfl (stle (tC rfl (.sub (.nil _)) (tR rfl tZ)) (hR rfl hZ) kZ rfl (Nat.le_trans hv0 (lb rfl)) rfl rfl rfl (bF rfl bZ) rfl rfl)
   ·
    replace hc34 : CallM Try.prog 35 [.agg [dA 4 y1.1, .mp 2], .one (dA 4 y1.1), .one (dS a1)] ⟨[(0, .cells 48 (flatE a0)), (1, .cells 72 [dA 4 y1.1, .mp 2]), (2, .mp (gmE y1.2.1) y1.2.2), (5, .cells 72 [dA 4 y1.1, .mp 2])], [(4, some ⟨54, 1, (Enc.encL y1.1).length, []⟩)], 6⟩ (resOf [.one (.osl 8 0 ((y1.1.length : Int).toNat) ((y1.1.length : Int).toNat)), .one (dI 0)]) ⟨[(0, .cells 48 (flatE a0)), (1, .cells 72 [dA 4 y1.1, .mp 2]), (2, .mp (gmE y1.2.1) y1.2.2), (5, .cells 72 [dA 4 y1.1, .mp 2]), (8, .cells 4 (flatE y33))], [(4, some ⟨54, 1, (Enc.encL y1.1).length, []⟩)], 11⟩ := hc34
    refine XL.put rfl rfl (lb rfl) (OpOK.callW rfl rfl rfl hc34 rfl (hR rfl (hR rfl (hR rfl (hR rfl hZ)))) (kR rfl kZ)) <| rM rfl rfl rfl <| rR rfl rfl rfl (RO.extract rfl rfl) <| rR rfl rfl rfl (RO.extract rfl rfl) <| rA rfl rfl rfl <| rA rfl rfl rfl <| XL.nil <| XQ.seq <| XC.seq <| XC.seq <| XC.region <| rM rfl rfl rfl <| rR rfl rfl rfl (RO.binInt rfl rfl rfl) <| XL.nil ?_
    refine XQ.seq ?_
    refine XC.cond rfl (fun h => nomatch h) (fun _ => ?_)
    refine XC.skip <| XQ.seq <| XC.seq <| XC.region <| rA rfl rfl rfl <| XL.nil <| XQ.seq <| XC.seq <| XC.seq <| XC.region <| rM rfl rfl rfl <| rR rfl rfl rfl (RO.lenOsl sl_22 rfl) <| rM rfl rfl rfl <| XL.nil ?_
    refine XQ.seq <| XC.block ?_
    refine XC.joinX 0 (fun (o43 : (List Dcl)) => ⟨[(9, .v (.one (dA 11 o43)))], [(0, .cells 48 (flatE a0)), (1, .cells 72 [dA 4 y1.1, .mp 2]), (2, .mp (gmE y1.2.1) y1.2.2), (5, .cells 72 [dA 4 y1.1, .mp 2]), (8, .cells 4 (flatE y33))], [(4, some ⟨54, 1, (Enc.encL y1.1).length, []⟩), (11, some ⟨48, 23, (Enc.encL o43).length, []⟩)], 12, 48, []⟩) (fun (o43 : (List Dcl)) => (some (o43, 0)) = some r) ?_ ?_
    ·
     refine XC.adoptT (t := 9) 48 23 rfl ?_
     refine bindK h0 (fun o44 hl1 h0 => ?_)
     refine XC.loopM (m15o_l5 nn a0 y33 y1) (fun s1 => ⟨[(8, .v (.one (.osl 8 0 ((y1.1.length : Int).toNat) ((y1.1.length : Int).toNat)))), (9, .v (.one (dA 11 s1.1))), (31, .v (.one (.osl 0 0 nn nn))), (32, .v (.one (dI ((nn : Nat) : Int)))), (33, .v (.one (dI s1.2)))], [(0, .cells 48 (flatE a0)), (1, .cells 72 [dA 4 y1.1, .mp 2]), (2, .mp (gmE y1.2.1) y1.2.2), (5, .cells 72 [dA 4 y1.1, .mp 2]), (8, .cells 4 (flatE y33))], [(4, some ⟨54, 1, (Enc.encL y1.1).length, []⟩), (11, some ⟨48, 23, (Enc.encL s1.1).length, []⟩)], 12, 48, []⟩) (([] : List Dcl), 0) o44 (stle (tR rfl (tR rfl (tR rfl (tR rfl (tR rfl tZ))))) (hR rfl (hR rfl (hR rfl (hR rfl (hR rfl hZ))))) (kR rfl (kR rfl kZ)) rfl (Nat.le_trans hv0 (lb rfl)) rfl rfl rfl (bF rfl (bB rfl rfl (bG rfl (bB rfl rfl (bF rfl bZ))))) rfl rfl) hl1 (fun s1 n1 oo1 h1 ho1 => ?_)
     unfold m15o_l5 at h1
     refine XC.seq <| XC.region <| rR rfl rfl rfl (RO.binInt rfl rfl rfl) <| XL.nil <| XQ.seq <| XC.seq ?_
     refine XC.cond (b := (decide (s1.2 < ((nn : Nat) : Int)))) rfl (fun c45 => ?_) (fun c45 => ?_)
     ·
      replace h1 := condT c45 h1
      refine XC.skip <| XQ.seq <| XC.seq <| XC.block <| XC.seq <| XC.region <| rM rfl rfl rfl ?_
      refine bindK h1 (fun x46 hx46 h1 => ?_)
      refine guardK h1 (fun g47 h1 => ?_)
      refine rR rfl rfl rfl (RO.indexO (α := Dcl) sl_22 rfl rfl hx46 g47) <| rR rfl rfl rfl (RO.loadOE (α := Dcl) (ys := [dI x46.kind, dS8 x46.name, dI x46.params, dI x46.ty.kind, dI x46.ty.index, dS8 x46.ty.name, dS x46.ty.levels, dS x46.ty.kids, dI x46.value.kind, dI x46.value.index, dS8 x46.value.name, dS x46.value.levels, dS x46.value.kids, dI x46.fixed, dS x46.ctors, dI x46.rcr.params, dI x46.rcr.ty.kind, dI x46.rcr.ty.index, dS8 x46.rcr.ty.name, dS x46.rcr.ty.levels, dS x46.rcr.ty.kids, dS x46.rcr.rules, dS x46.funs]) ag_48 rfl rfl hx46 rfl) <| XL.put rfl rfl (lb rfl) (OpOK.alloc z_48 rfl) <| rA rfl rfl rfl <| XL.eff rfl rfl (OpOK.storeCE (x46 : Dcl) ag_48 rfl rfl rfl rfl rfl) <| XL.nil <| XQ.seq <| XC.seq <| XC.region <| rM rfl rfl rfl <| rM rfl rfl rfl ?_
      refine bindK h1 (fun x48 hx48 h1 => ?_)
      refine guardK h1 (fun g49 h1 => ?_)
      refine rR rfl rfl rfl (RO.indexO (α := Bool) sl_75 rfl rfl hx48 g49) <| rR rfl rfl rfl (RO.loadOF (α := Bool) (m := s1.2) (f := 0) ag_4 rfl rfl hx48 rfl) <| XL.nil <| XQ.seq ?_
      refine XC.cond (b := x48) rfl (fun c50 => ?_) (fun c50 => ?_)
      ·
       replace h1 := condT c50 h1
       refine XC.region <| rM rfl rfl rfl <| rR rfl rfl rfl (RO.loadCE (x46 : Dcl) ag_48 rfl rfl) <| XL.put rfl rfl (lb rfl) (OpOK.lit1CE (x46 : Dcl) sl_22 z_48 rfl rfl (lb rfl) rfl) ?_
       refine guardK h1 (fun g51 h1 => ?_)
       refine XL.put rfl rfl (lb rfl) (OpOK.appendE (α := Dcl) sl_22 el_48 rfl rfl rfl rfl rfl (.app _ _) g51) <| rA rfl rfl rfl <| XL.nil <| XQ.inBlock <| XQ.seq <| XC.region <| rR rfl rfl rfl (RO.binInt rfl rfl rfl) <| rM rfl rfl rfl <| XL.nil ?_
       have e_ := Option.some.inj h1
       subst e_
       refine XQ.nextM ((s1.1 ++ ([x46])), (w64 (s1.2 + 1))) (stle (tR rfl (tR rfl (tR rfl (tR rfl (tR rfl tZ))))) (hR rfl (hR rfl (hR rfl (hR rfl (hR rfl hZ))))) (kR rfl (kR rfl kZ)) rfl (Nat.le_trans hv0 (lb rfl)) rfl rfl rfl (bF rfl (bB rfl rfl (bG rfl (bB rfl rfl (bF rfl bZ))))) rfl rfl) ho1
      ·
       replace h1 := condF c50 h1
       refine XC.skip <| XQ.inBlock <| XQ.seq <| XC.region <| rR rfl rfl rfl (RO.binInt rfl rfl rfl) <| rM rfl rfl rfl <| XL.nil ?_
       have e_ := Option.some.inj h1
       subst e_
       refine XQ.nextM (s1.1, (w64 (s1.2 + 1))) (stle (tR rfl (tR rfl (tR rfl (tR rfl (tR rfl tZ))))) (hR rfl (hR rfl (hR rfl (hR rfl (hR rfl hZ))))) (kR rfl (kR rfl kZ)) rfl (Nat.le_trans hv0 (lb rfl)) rfl rfl rfl (bF rfl (bB rfl rfl (bG rfl (bB rfl rfl (bF rfl bZ))))) rfl rfl) ho1
     ·
      replace h1 := condF c45 h1
      refine XC.exit <| XQ.thenE <| XQ.thenE ?_
      have e_ := Option.some.inj h1
      subst e_
      have e_ : _ = _ := ho1
      subst e_
      exact XQ.joinX s1.1 (stle (tR rfl tZ) (hR rfl (hR rfl (hR rfl (hR rfl (hR rfl hZ))))) (kR rfl (kR rfl kZ)) rfl (Nat.le_trans hv0 (lb rfl)) rfl rfl rfl (bF rfl (bB rfl rfl (bG rfl (bB rfl rfl (bF rfl bZ))))) rfl rfl) h0
    ·
     intro o43 h0
     refine XQ.blockX <| XQ.seq <| XC.seq <| XC.region <| rM rfl rfl rfl <| rA rfl rfl rfl <| rA rfl rfl rfl <| XL.nil <| XQ.seq <| XC.ret ?_
     have e_ := Option.some.inj h0
     subst e_
     exact hQ0 _ _ _ (.inr rfl) rfl (stle (tC rfl (.sub (.app _ _ _)) (tR rfl tZ)) (hR rfl hZ) kZ rfl (Nat.le_trans hv0 (lb rfl)) rfl rfl rfl (bF rfl bZ) rfl rfl)
  ·
   replace hc4 : CallM Try.prog 34 [.one (.osl 0 0 nn nn)] ⟨[(0, .cells 48 (flatE a0))], [], 1⟩ (resOf [.agg [dN, .d (.v (.map none))], .one (dI 8)]) ⟨[(0, .cells 48 (flatE a0)), (1, .cells 72 [dN, .d (.v (.map none))])], [], 5⟩ := hc4
   refine XL.put rfl rfl (lb rfl) (OpOK.callW rfl rfl rfl hc4 rfl (hR rfl hZ) kZ) <| rM rfl rfl rfl <| rR rfl rfl rfl (RO.extract rfl rfl) <| rR rfl rfl rfl (RO.extract rfl rfl) <| XL.put rfl rfl (lb rfl) (OpOK.alloc z_72 rfl) <| XL.eff rfl rfl (OpOK.store ag_72 rfl rfl rfl rfl (lb rfl) rfl) <| rA rfl rfl rfl <| XL.nil <| XQ.seq <| XC.seq <| XC.seq <| XC.region <| rM rfl rfl rfl <| rR rfl rfl rfl (RO.binInt rfl rfl rfl) ?_
   refine XL.nil <| XQ.seq ?_
   refine XC.cond rfl (fun _ => ?_) (fun h => nomatch h)
   refine XC.seq <| XC.region <| rM rfl rfl rfl <| rA rfl rfl rfl <| rA rfl rfl rfl <| XL.nil <| XQ.seq <| XC.ret ?_
   have e_ := Option.some.inj h0
   subst e_
   exact hQ0 _ _ _ (.inr rfl) rfl (stle (tC rfl (.sub (.nil _)) (tR rfl tZ)) (hR rfl hZ) kZ rfl (Nat.le_trans hv0 (lb rfl)) rfl rfl rfl (bF rfl bZ) rfl rfl)
  ·
   replace hc4 : CallM Try.prog 34 [.one (.osl 0 0 nn nn)] ⟨[(0, .cells 48 (flatE a0))], [], 1⟩ (resOf [.agg [dN, .d (.v (.map none))], .one (dI 9)]) ⟨[(0, .cells 48 (flatE a0)), (1, .cells 72 [dN, .d (.v (.map none))])], [], 7⟩ := hc4
   refine XL.put rfl rfl (lb rfl) (OpOK.callW rfl rfl rfl hc4 rfl (hR rfl hZ) kZ) <| rM rfl rfl rfl <| rR rfl rfl rfl (RO.extract rfl rfl) <| rR rfl rfl rfl (RO.extract rfl rfl) <| XL.put rfl rfl (lb rfl) (OpOK.alloc z_72 rfl) <| XL.eff rfl rfl (OpOK.store ag_72 rfl rfl rfl rfl (lb rfl) rfl) <| rA rfl rfl rfl <| XL.nil <| XQ.seq <| XC.seq <| XC.seq <| XC.region <| rM rfl rfl rfl <| rR rfl rfl rfl (RO.binInt rfl rfl rfl) ?_
   refine XL.nil <| XQ.seq ?_
   refine XC.cond rfl (fun _ => ?_) (fun h => nomatch h)
   refine XC.seq <| XC.region <| rM rfl rfl rfl <| rA rfl rfl rfl <| rA rfl rfl rfl <| XL.nil <| XQ.seq <| XC.ret ?_
   have e_ := Option.some.inj h0
   subst e_
   exact hQ0 _ _ _ (.inr rfl) rfl (stle (tC rfl (.sub (.nil _)) (tR rfl tZ)) (hR rfl hZ) kZ rfl (Nat.le_trans hv0 (lb rfl)) rfl rfl rfl (bF rfl bZ) rfl rfl)
end Go.Proofs.Ytijcchddnnnmdaa
namespace Go.Proofs.Ytijcchddnnnmdaa
open Go.RowKit
set_option linter.unusedSimpArgs false
set_option linter.unusedVariables false
set_option linter.unusedSectionVars false
def rowCell (base : Nat) (es : List (List Int)) (k : Nat) : CA := .app (base + k % 1000) 1 (Enc.encL (es.getD k []))
def rowCells (base : Nat) (es : List (List Int)) : List CA := (List.range es.length).map (rowCell base es)
def rowToks (base : Nat) (es : List (List Int)) : List (Nat × Option Tok) := (List.range (min es.length 1000)).map fun k => (base + k % 1000, some ⟨3, 1, (Enc.encL (es.getD k [])).length, []⟩)
theorem rowCells_get {base : Nat} {es : List (List Int)} {k : Nat} {row : List Int} (h : es[k]? = some row) : (rowCells base es)[k]? = some (.app (base + k % 1000) 1 (Enc.encL row)) := by
  have hlt := (List.getElem?_eq_some_iff.1 h).1
  have e1 : es.getD k [] = row := by rw [List.getD_eq_getElem?_getD, h]; rfl
  simp only [rowCells, rowCell, List.getElem?_map, List.getElem?_range hlt, Option.map_some, e1]
theorem rowCells_len (base : Nat) (es : List (List Int)) : (rowCells base es).length = es.length := by simp [rowCells]
theorem rowCells_set {base : Nat} {es : List (List Int)} {k : Nat} {row : List Int} (hk : k < es.length) : (rowCells base es).set k (.app (base + k % 1000) 1 (Enc.encL row)) = rowCells base (es.set k row) := by
  apply List.ext_getElem?
  intro j
  rw [List.getElem?_set, rowCells_len]
  by_cases hj : k = j
  · subst hj
    rw [if_pos rfl, if_pos hk, rowCells_get (row := row) (by rw [List.getElem?_set, if_pos rfl, if_pos hk])]
  · rw [if_neg hj]
    cases h : es[j]? with
    | none =>
      have h1 : es.length ≤ j := List.getElem?_eq_none_iff.1 h
      rw [List.getElem?_eq_none (by rw [rowCells_len]; exact h1), List.getElem?_eq_none (by rw [rowCells_len, List.length_set]; exact h1)]
    | some r => rw [rowCells_get h, rowCells_get (row := r) (by rw [List.getElem?_set, if_neg hj]; exact h)]
theorem lk_rangeMap {α : Type} (f : Nat → Nat) (v : Nat → α) : ∀ (l : List Nat) (k : Nat), k ∈ l → (∀ a ∈ l, f a = f k → a = k) → lk (l.map fun a => (f a, v a)) (f k) = some (v k)
  | a :: l, k, hk, hi => by
    rw [List.map_cons, lk_cons]
    by_cases h : f a = f k
    · rw [if_pos h, hi a List.mem_cons_self h]
    · rw [if_neg h]
      have : k ∈ l := (List.mem_cons.1 hk).resolve_left fun e => h (by rw [e])
      exact lk_rangeMap f v l k this fun b hb => hi b (List.mem_cons_of_mem _ hb)
theorem rowToks_get {base : Nat} {es : List (List Int)} {k : Nat} {row : List Int} (h : es[k]? = some row) (hl : es.length ≤ 1000) : lk (rowToks base es) (base + k % 1000) = some (some ⟨3, 1, (Enc.encL row).length, []⟩) := by
  have hlt := (List.getElem?_eq_some_iff.1 h).1
  have e1 : es.getD k [] = row := by rw [List.getD_eq_getElem?_getD, h]; rfl
  have := lk_rangeMap (fun a => base + a % 1000) (fun a => (some ⟨3, 1, (Enc.encL (es.getD a [])).length, []⟩ : Option Tok)) (List.range (min es.length 1000)) k (List.mem_range.2 (by omega)) (fun a ha e => by
    have := List.mem_range.1 ha
    rw [Nat.mod_eq_of_lt (by omega), Nat.mod_eq_of_lt (by omega)] at e
    omega)
  rw [e1] at this
  exact this
theorem rowToks_all (base nx : Nat) (es : List (List Int)) (h : Nat.ble (base + 1000) nx = true) : ((rowToks base es).all fun p => Nat.blt p.1 nx) = true := by
  have h1 := Nat.le_of_ble_eq_true h
  refine List.all_eq_true.2 fun p hp => ?_
  obtain ⟨k, -, rfl⟩ := List.mem_map.1 hp
  have : k % 1000 < 1000 := Nat.mod_lt _ (by decide)
  exact Nat.ble_eq_true_of_le (by dsimp only; omega)
theorem rowCells_below (base nx : Nat) (es : List (List Int)) (h : Nat.ble (base + 1000) nx = true) : ∀ x ∈ rowCells base es, x.below nx := fun x hx => by
  have h1 := Nat.le_of_ble_eq_true h
  obtain ⟨k, -, rfl⟩ := List.mem_map.1 hx
  have : k % 1000 < 1000 := Nat.mod_lt _ (by decide)
  show base + k % 1000 < nx
  omega
abbrev nilC : CA := .d (.v (.slice none 0 0))
theorem getD_rep {α : Type} (n k : Nat) : (List.replicate n ([] : List α)).getD k [] = [] := by
  rw [List.getD_eq_getElem?_getD, List.getElem?_replicate]
  split <;> rfl
theorem rowCells_rep (base n : Nat) : rowCells base (List.replicate (n + 1) []) = rowCells base (List.replicate n []) ++ [.app (base + n % 1000) 1 []] := by
  unfold rowCells rowCell
  rw [List.length_replicate, List.length_replicate, List.range_succ, List.map_append]
  congr 1
  · exact List.map_congr_left fun k hk => by rw [getD_rep, getD_rep]
  · rw [List.map_singleton, getD_rep]; rfl
theorem rowToks_rep (base n : Nat) (hn : n < 1000) : rowToks base (List.replicate (n + 1) []) = rowToks base (List.replicate n []) ++ [(base + n % 1000, some ⟨3, 1, 0, []⟩)] := by
  unfold rowToks
  rw [List.length_replicate, List.length_replicate, Nat.min_eq_left (by omega), Nat.min_eq_left (by omega), List.range_succ, List.map_append]
  congr 1
  · exact List.map_congr_left fun k hk => by rw [getD_rep, getD_rep]
  · rw [List.map_singleton, getD_rep]; rfl
theorem HRel.adoptRows {E : Env} {V : Vu} {hp : List (Nat × HB)} {tk : List (Nat × Option Tok)} {w : World} (H : HRel E V hp tk w) {i : Nat} {T : TypeId} (n : Nat) (hn : n ≤ 1000) (hi : lk hp i = some (.cells T (List.replicate n nilC))) :
    ∀ k, k ≤ n → ∃ V', HRel E V' ((i, .cells T (rowCells V.nx (List.replicate k []) ++ List.replicate (n - k) nilC)) :: hp) (rowToks V.nx (List.replicate k [])) w ∧ V.Le V' w w ∧ V'.nx = V.nx + k := by
  intro k
  induction k with
  | zero =>
    intro _
    refine ⟨V, H.forget (fun j B hj => ?_) (fun j T hj => ?_), Vu.Le.refl V w, rfl⟩
    · rw [lk_cons] at hj
      split at hj
      · rename_i e1; subst e1; rw [hi]; rw [← hj]; rfl
      · exact hj
    · cases hj
  | succ k ih =>
    intro hk
    obtain ⟨V', H1, L1, hn1⟩ := ih (by omega)
    have hl : (rowCells V.nx (List.replicate k [])).length = k := by rw [rowCells_len, List.length_replicate]
    obtain ⟨H2, L2⟩ := H1.adoptC (i := i) (off := k) (T := T) 3 1 (by rw [lk_cons, if_pos rfl]) (by rw [List.getElem?_append_right (by omega), hl, Nat.sub_self, List.getElem?_replicate, if_pos (by omega)])
    refine ⟨_, H2.forget (fun j B hj => ?_) (fun j T' hj => ?_), L1.trans L2, ?_⟩
    · rw [lk_cons] at hj ⊢
      split at hj
      · rename_i e1
        rw [if_pos e1, ← hj]
        congr 2
        rw [rowCells_rep, List.set_append_right _ _ (by omega), hl, Nat.sub_self, show n - k = (n - (k + 1)) + 1 by omega, List.replicate_succ, List.set_cons_zero, hn1, Nat.mod_eq_of_lt (by omega)]
        simp
      · rename_i e1
        rw [if_neg e1, lk_cons, if_neg e1]; exact hj
    · rw [rowToks_rep _ _ (by omega), lk_app] at hj
      rw [lk_cons, hn1]
      split at hj
      · rename_i x hx
        have : j < V.nx + k := by
          obtain ⟨q, hq, e1⟩ := List.mem_map.1 (lk_memF hx)
          have hq2 := List.mem_range.1 hq
          rw [List.length_replicate, Nat.min_eq_left (by omega)] at hq2
          have e2 := (Prod.mk.inj e1).1
          rw [Nat.mod_eq_of_lt (by omega)] at e2
          omega
        rw [if_neg (by omega)]
        rw [← hj]; exact hx
      · rw [lk_cons] at hj
        split at hj
        · rename_i e1
          rw [Nat.mod_eq_of_lt (by omega)] at e1
          rw [if_pos e1]; exact hj
        · cases hj
    · show max V'.nx (V'.nx + 1) = _
      omega
section
variable {E : Env} {st : St} {dd : Option Tmp} {ty : TypeId} {pos : String} {af : Array Edge} {g : Option (Nat × Bool)}
theorem zeroRow_nil (n : Nat) : zeroRow [.slice none 0 0] n = List.replicate n nilC := by
  apply List.ext_getElem?
  intro k
  simp only [zeroRow, List.getElem?_map, List.getElem?_replicate, List.length_singleton, Nat.mul_one]
  by_cases hk : k < n
  · rw [List.getElem?_range hk, if_pos hk]
    simp [Nat.mod_one]
  · rw [List.getElem?_eq_none (by simpa using hk), if_neg hk]; rfl
theorem OpOK.makeRows {t e by_ : Nat} {o1 o2 : Operand} {m : Int} (ht : tySlice E.P t = some (e, 1)) (hze : tyZero E.P e = some [.slice none 0 0]) (hel : tyElem E.P e = some (1, by_)) (hb : Nat.ble by_ 1000000 = true)
    (h1 : ev st.tm o1 = some (TI m)) (h2 : ev st.tm o2 = some (TI m)) (hm : (cond (decide (0 ≤ m)) (Nat.ble m.toNat 1000) false) = true) :
    OpOK E ⟨dd, .makeSlice t o1 o2, ty, pos, af, g⟩ st (.v (.one (.osl st.nx 0 m.toNat m.toNat))) ⟨(st.nx, .cells e (rowCells (st.nx + 1) (List.replicate m.toNat []))) :: st.hp, rowToks (st.nx + 1) (List.replicate m.toNat []), st.nx + 1001⟩ := by
  have h0 : 0 ≤ m := of_decide_eq_true (cond_left hm)
  have hn : m.toNat ≤ 1000 := Nat.le_of_ble_eq_true (cond_right hm)
  have hb' := Nat.le_of_ble_eq_true hb
  have hmm : (m.toNat : Int) = m := Int.toNat_of_nonneg h0
  have hbb : by_ * m.toNat ≤ 1000000 * 1000 := Nat.mul_le_mul hb' hn
  have ok := OpOK.makeSlice (E := E) (st := st) (dd := dd) (ty := ty) (pos := pos) (af := af) (g := g) (l := m.toNat) (c := m.toNat) ht hze rfl rfl hel (by rw [hmm]; exact h1) (by rw [hmm]; exact h2) (Nat.le_refl _) (by omega) (by omega)
  rw [zeroRow_nil] at ok
  intro V a w hr ro n K Q hK
  refine ok V a w hr ro n K Q (fun V' w' v H hnx L hx => ?_)
  obtain ⟨V2, H2, L2, hn2⟩ := H.adoptRows (i := st.nx) (T := e) m.toNat hn (by rw [lk_cons, if_pos rfl]) m.toNat (Nat.le_refl _)
  rw [Nat.sub_self, List.replicate_zero, List.append_nil] at H2
  rw [hnx] at H2 hn2
  dsimp only at H2 hn2
  obtain ⟨H3, L3⟩ := H2.skip (st.nx + 1001) (by rw [hn2]; omega)
  refine hK _ w' v (H3.forget (fun j B hj => ?_) (fun j T hj => hj)) rfl (L.trans (L2.trans L3)) (hx.mono (L2.trans L3))
  rw [lk_cons] at hj ⊢
  split at hj
  · rename_i e1; rw [if_pos e1]; exact hj
  · rename_i e1; rw [if_neg e1, lk_cons, if_neg e1]; exact hj
end
theorem tkLe.of {tk : List (Nat × Option Tok)} : ∀ {r : List (Nat × Option Tok)}, (∀ p ∈ r, ∀ T, p.2 = some T → lk tk p.1 = some (some T)) → tkLe tk r
  | [], _ => trivial
  | (t, y) :: r, h => ⟨fun T e => h (t, y) List.mem_cons_self T e, tkLe.of fun p hp => h p (List.mem_cons_of_mem _ hp)⟩
theorem kRow {base : Nat} {es : List (List Int)} : tkLe (rowToks base es) (rowToks base es) := tkLe.of fun p hp T e => by
  obtain ⟨k, hk, rfl⟩ := List.mem_map.1 hp
  have hk' := List.mem_range.1 hk
  cases e
  refine lk_rangeMap (fun a => base + a % 1000) (fun a => (some ⟨3, 1, (Enc.encL (es.getD a [])).length, []⟩ : Option Tok)) (List.range (min es.length 1000)) k hk (fun a ha e => ?_)
  have := List.mem_range.1 ha
  rw [Nat.mod_eq_of_lt (by omega), Nat.mod_eq_of_lt (by omega)] at e
  omega
theorem bRw {m i : Nat} {T : TypeId} {base : Nat} {es : List (List Int)} {r : List (Nat × HB)} (h : Nat.blt i m = true) (hb : Nat.ble (base + 1000) m = true) (l : hpBelow m r) : hpBelow m ((i, .cells T (rowCells base es)) :: r) := ⟨blt_t h, rowCells_below base m es hb, l⟩
theorem rowsCLs (base : Nat) (es : List (List Int)) : CLs (rowCells base es) (flatE es) := by
  have : ∀ (l : List Nat), CLs (l.map (rowCell base es)) (l.map fun k => .d (.sl 1 (Enc.encL (es.getD k [])))) := by
    intro l
    induction l with
    | nil => exact .nil
    | cons x l ih => exact .cons (.sub (.app _ _ _)) ih
  have h1 := this (List.range es.length)
  have e : flatE es = (List.range es.length).map fun k => CA.d (.sl 1 (Enc.encL (es.getD k []))) := by
    apply List.ext_getElem?
    intro k
    unfold flatE
    rw [Enc.map]
    have hsz : ∀ l : List (List Int), (l.map Enc.enc).flatten = l.map fun r => C.sl 1 (Enc.encL r) := by
      intro l
      induction l with
      | nil => rfl
      | cons x l ih => rw [List.map_cons, List.flatten_cons, ih]; rfl
    rw [hsz, List.map_map, List.getElem?_map, List.getElem?_map]
    by_cases hk : k < es.length
    · rw [List.getElem?_range hk, List.getElem?_eq_getElem hk]
      simp [List.getD_eq_getElem?_getD, List.getElem?_eq_getElem hk]
    · rw [List.getElem?_eq_none (by omega), List.getElem?_eq_none (by simpa using hk)]; rfl
  rw [e]; exact h1
theorem XQ.rows {E : Env} {Q : Exit → Act → World → Prop} {st : St} {e : Exit} {i base : Nat} {T : TypeId} {es : List (List Int)} (hi : lk st.hp i = some (.cells T (rowCells base es)))
    (k : XQ E Q e ⟨st.tm, [(i, .cells T (flatE es))], [], st.nx, st.nt, st.df⟩) : XQ E Q e st := fun V a w hr =>
  k V a w ⟨hr.h.forgetLe (hC hi (rowsCLs base es) hZ) kZ, hr.nx, hr.nt, hr.df, hr.tm⟩
section
variable {E : Env} {st : St} {dd : Option Tmp} {ty : TypeId} {pos : String} {af : Array Edge} {g : Option (Nat × Bool)}
theorem RO.indexRow {t e i n base : Nat} {T : TypeId} {x y : Operand} {m : Int} {es : List (List Int)} {row : List Int} (ht : tySlice E.P t = some (e, 1)) (hx : ev st.tm x = some (.v (.one (.osl i 0 n n)))) (hy : ev st.tm y = some (TI m)) (hv : idx es m = some row) (hn : Nat.beq es.length n = true) :
    RO E ⟨dd, .indexAddr t x y, ty, pos, af, g⟩ st (.v (.one (.ptr i m.toNat))) := by
  obtain ⟨k, rfl, hk⟩ := idxS hv
  have hl : es.length = n := Nat.eq_of_beq_eq_true hn
  have := RO.indexOsl (E := E) (st := st) (d := dd) (ty := ty) (pos := pos) (af := af) (g := g) (k := k) ht hx hy rfl (by rw [← hl]; exact (List.getElem?_eq_some_iff.1 hk).1)
  rw [Nat.zero_add, Nat.mul_one] at this; exact this
theorem RO.loadRow {t i base : Nat} {T : TypeId} {x : Operand} {m : Int} {es : List (List Int)} {row : List Int} (ht : tyAgg E.P t = some (false, 1)) (hx : ev st.tm x = some (.v (.one (.ptr i m.toNat)))) (hi : lk st.hp i = some (.cells T (rowCells base es))) (hv : idx es m = some row) :
    RO E ⟨dd, .load t x, ty, pos, af, g⟩ st (.v (.one (.app (base + m.toNat % 1000) 1 (Enc.encL row)))) := by
  obtain ⟨k, rfl, hk⟩ := idxS hv
  exact RO.loadOwn ht hx hi (rowCells_get hk)
theorem rowTok {base : Nat} {es : List (List Int)} {m : Int} {row : List Int} (hv : idx es m = some row) (hl : Nat.ble es.length 1000 = true) : lk (rowToks base es) (base + m.toNat % 1000) = some (some ⟨3, 1, (Enc.encL row).length, []⟩) := by
  obtain ⟨k, rfl, hk⟩ := idxS hv
  exact rowToks_get hk (Nat.le_of_ble_eq_true hl)
theorem OpOK.storeRow {t i base : Nat} {T : TypeId} {o1 o2 : Operand} {m : Int} {es : List (List Int)} {row row2 : List Int} (ht : tyAgg E.P t = some (false, 1)) (h1 : ev st.tm o1 = some (.v (.one (.ptr i m.toNat)))) (h2 : ev st.tm o2 = some (.v (.one (.app (base + m.toNat % 1000) 1 (Enc.encL row2)))))
    (hi : lk st.hp i = some (.cells T (rowCells base es))) (hv : idx es m = some row) (hl : Nat.ble es.length 1000 = true) (htk : st.tk = (base + m.toNat % 1000, some ⟨3, 1, (Enc.encL row2).length, []⟩) :: dropK (base + m.toNat % 1000) (rowToks base es)) (hdd : dd = none) :
    OpOK E ⟨dd, .store t o1 o2, ty, pos, af, g⟩ st (.tup []) ⟨(i, .cells T (rowCells base (es.set m.toNat row2))) :: dropK i st.hp, rowToks base (es.set m.toNat row2), st.nx⟩ := by
  obtain ⟨k, rfl, hk⟩ := idxS hv
  have hlt := (List.getElem?_eq_some_iff.1 hk).1
  rw [Int.toNat_natCast] at h1 h2 htk
  rw [Int.toNat_natCast]
  have hl' := Nat.le_of_ble_eq_true hl
  have ok := OpOK.store (E := E) (st := st) (dd := dd) (ty := ty) (pos := pos) (af := af) (g := g) ht h1 h2 hi rfl (by rw [rowCells_len]; exact hlt) hdd
  intro V a w hr ro n K Q hK
  refine ok V a w hr ro n K Q (fun V' w' v H hnx L hx => ?_)
  refine hK V' w' v (H.forget (fun j B hj => ?_) (fun j T' hj => ?_)) hnx L hx
  · rw [lk_cons] at hj ⊢
    split at hj
    · rename_i e1
      rw [if_pos e1, ← hj]
      congr 2
      exact (rowCells_set hlt).symm ▸ rfl
    · rename_i e1; rw [if_neg e1]; exact hj
  · rw [htk, lk_put, lk_cons]
    have hlen : (es.set k row2).length = es.length := by simp
    obtain ⟨q, hq, e1⟩ := List.mem_map.1 (lk_memF hj)
    have hq2 := List.mem_range.1 hq
    rw [hlen] at hq2
    have e2 := (Prod.mk.inj e1).1
    have e3 := (Prod.mk.inj e1).2
    have hkm : k % 1000 = k := Nat.mod_eq_of_lt (by omega)
    rw [Nat.mod_eq_of_lt (by omega)] at e2
    rw [hkm]
    rw [← e3, ← e2]
    by_cases hqk : q = k
    · subst hqk
      rw [if_pos rfl]
      congr 2
      show _ = Tok.mk 3 1 (Enc.encL ((es.set q row2).getD q [])).length []
      rw [List.getD_eq_getElem?_getD, List.getElem?_set, if_pos rfl, if_pos hlt]; rfl
    · rw [if_neg (by omega)]
      have h5 : es[q]? = some (es.getD q []) := by
        rw [List.getD_eq_getElem?_getD, List.getElem?_eq_getElem (by omega)]; rfl
      have h6 := rowToks_get (base := base) h5 hl'
      rw [Nat.mod_eq_of_lt (by omega)] at h6
      rw [h6]
      congr 2
      show _ = Tok.mk 3 1 (Enc.encL ((es.set k row2).getD q [])).length []
      rw [List.getD_eq_getElem?_getD, List.getD_eq_getElem?_getD, List.getElem?_set, if_neg (fun e => hqk e.symm)]
end
end Go.Proofs.Ytijcchddnnnmdaa
namespace Go.Proofs.Ytijcchddnnnmdaa
open Go.RowKit Go.Shelf
set_option linter.unusedSimpArgs false
set_option linter.unusedVariables false
theorem en_36 : Enters Try.prog 36 := enters_of Try.func36 (by kernel_rfl) rfl
def m36_l0 (x4 : List Int) (a0 : List (List Int)) (s1 : Int × (List (List Int))) (s2 : Int × (List (List Int))) : Option (LO (Int × (List (List Int))) (((List (List Int))))) :=
  cond (decide (s2.1 < (x4.length : Int)))
    (Option.bind (idx x4 s2.1) fun (x7 : Int) =>
  Option.bind (idx s2.2 x7) fun (x8 : List Int) =>
  guardO (Nat.beq s2.2.length ((a0.length : Int).toNat))
  (guardO (Nat.ble s2.2.length 1000)
  (guardO (Nat.ble (x8.length + ([s1.1]).length) 1000000000)
  (Option.bind (idx s2.2 x7) fun (x12 : List Int) =>
  guardO (Nat.beq s2.2.length ((a0.length : Int).toNat))
  (guardO (Nat.ble s2.2.length 1000)
  (some (.next ((w64 (s2.1 + 1)), (s2.2.set x7.toNat (x8 ++ ([s1.1])))))))))))
    (some (.done s2.2))
def m36_l1 (a0 : List (List Int)) (s1 : Int × (List (List Int))) : Option (LO (Int × (List (List Int))) (((List (List Int))))) :=
  cond (decide (s1.1 < (a0.length : Int)))
    (Option.bind (idx a0 s1.1) fun (x4 : List Int) =>
  Option.bind (loopN (m36_l0 x4 a0 s1) FUEL (0, s1.2)) (fun (o5 : (List (List Int))) => some (.next ((w64 (s1.1 + 1)), o5))))
    (some (.done s1.2))
def m36 (a0 : List (List Int)) : Option ((List (List Int))) :=
  guardO (cond (decide (0 ≤ (a0.length : Int))) (Nat.ble (a0.length : Int).toNat 1000) false)
  (Option.bind (loopN (m36_l1 a0) FUEL (0, (List.replicate (a0.length : Int).toNat ([] : List Int)))) (fun (o2 : (List (List Int))) => guardO (Nat.beq o2.length ((a0.length : Int).toNat))
  (some o2)))
set_option maxRecDepth 100000 in
set_option maxHeartbeats 2000000 in
theorem m36_ok (a0 : List (List Int)) (r : (List (List Int))) (h0 : m36 a0 = some r) : Fun Try.prog 36 [.one (dS a0)] (resOf [.one (dS r)]) := by
  unfold m36 at h0
  refine Fun.of_bodyM 9 37 Try.func36 rfl en_36 rfl (lb rfl) (fun S w => ?_)
  simp only [entry]
  refine XC.seq <| XC.region <| rA rfl rfl rfl <| XL.nil <| XQ.seq <| XC.seq <| XC.region <| rM rfl rfl rfl <| rR rfl rfl rfl (RO.lenE (α := List Int) sl_57 rfl (.d _)) ?_
  refine guardK h0 (fun g1 h0 => ?_)
  refine XL.put rfl rfl (lb rfl) (OpOK.makeRows sl_57 z_54 el_54 rfl rfl rfl g1) <| rA rfl rfl rfl <| XL.nil <| XQ.seq <| XC.seq <| XC.seq <| XC.region <| rM rfl rfl rfl <| rR rfl rfl rfl (RO.lenE (α := List Int) sl_57 rfl (.d _)) <| rM rfl rfl rfl <| XL.nil <| XQ.seq <| XC.block ?_
  refine XC.joinX 0 (fun (o2 : (List (List Int))) => ⟨[(3, .v (.one (.osl 0 0 ((a0.length : Int).toNat) ((a0.length : Int).toNat))))], [(0, .cells 54 (rowCells 1 o2))], (rowToks 1 o2), 1001, 37, []⟩) (fun (o2 : (List (List Int))) => (guardO (Nat.beq o2.length ((a0.length : Int).toNat))
    (some o2)) = some r) ?_ ?_
  ·
   refine bindK h0 (fun o3 hl1 h0 => ?_)
   refine XC.loopM (m36_l1 a0) (fun s1 => ⟨[(3, .v (.one (.osl 0 0 ((a0.length : Int).toNat) ((a0.length : Int).toNat)))), (11, .v (.one (dS a0))), (12, .v (.one (dI (a0.length : Int)))), (13, .v (.one (dI s1.1)))], [(0, .cells 54 (rowCells 1 s1.2))], (rowToks 1 s1.2), 1001, 37, []⟩) (0, (List.replicate (a0.length : Int).toNat ([] : List Int))) o3 (stle (tR rfl (tR rfl (tR rfl (tR rfl tZ)))) (hR rfl hZ) kRow rfl (Nat.zero_le _) rfl rfl rfl (bRw rfl rfl bZ) (rowToks_all _ _ _ rfl) rfl) hl1 (fun s1 n1 oo1 h1 ho1 => ?_)
   unfold m36_l1 at h1
   refine XC.seq <| XC.region <| rR rfl rfl rfl (RO.binInt rfl rfl rfl) <| XL.nil <| XQ.seq <| XC.seq ?_
   refine XC.cond (b := (decide (s1.1 < (a0.length : Int)))) rfl (fun c4 => ?_) (fun c4 => ?_)
   ·
    replace h1 := condT c4 h1
    refine XC.skip <| XQ.seq <| XC.seq <| XC.block <| XC.seq <| XC.region <| rM rfl rfl rfl ?_
    refine bindK h1 (fun x5 hx5 h1 => ?_)
    refine rR rfl rfl rfl (RO.indexE (α := List Int) sl_57 rfl (.d _) rfl hx5) <| rR rfl rfl rfl (RO.loadPel ag_54 rfl rfl) <| rA rfl rfl rfl <| rA rfl rfl rfl <| XL.nil <| XQ.seq <| XC.seq <| XC.region <| rM rfl rfl rfl <| rR rfl rfl rfl (RO.lenE (α := Int) sl_54 rfl (.d _)) <| rM rfl rfl rfl <| XL.nil <| XQ.seq <| XC.block ?_
    refine XC.joinX 2 (fun (o6 : (List (List Int))) => ⟨[(3, .v (.one (.osl 0 0 ((a0.length : Int).toNat) ((a0.length : Int).toNat)))), (11, .v (.one (dS a0))), (12, .v (.one (dI (a0.length : Int)))), (13, .v (.one (dI s1.1)))], [(0, .cells 54 (rowCells 1 o6))], (rowToks 1 o6), 1001, 37, []⟩) (fun (o6 : (List (List Int))) => (some (.next ((w64 (s1.1 + 1)), o6))) = some oo1) ?_ ?_
    ·
     refine bindK h1 (fun o7 hl2 h1 => ?_)
     refine XC.loopM (m36_l0 x5 a0 s1) (fun s2 => ⟨[(3, .v (.one (.osl 0 0 ((a0.length : Int).toNat) ((a0.length : Int).toNat)))), (4, .v (.one (dI s1.1))), (11, .v (.one (dS a0))), (12, .v (.one (dI (a0.length : Int)))), (13, .v (.one (dI s1.1))), (18, .v (.one (dS x5))), (19, .v (.one (dI (x5.length : Int)))), (20, .v (.one (dI s2.1)))], [(0, .cells 54 (rowCells 1 s2.2))], (rowToks 1 s2.2), 1001, 37, []⟩) (0, s1.2) o7 (stle (tR rfl (tR rfl (tR rfl (tR rfl (tR rfl (tR rfl (tR rfl (tR rfl tZ)))))))) (hR rfl hZ) kRow rfl (Nat.zero_le _) rfl rfl rfl (bRw rfl rfl bZ) (rowToks_all _ _ _ rfl) rfl) hl2 (fun s2 n2 oo2 h2 ho2 => ?_)
     unfold m36_l0 at h2
     refine XC.seq <| XC.region <| rR rfl rfl rfl (RO.binInt rfl rfl rfl) <| XL.nil <| XQ.seq <| XC.seq ?_
     refine XC.cond (b := (decide (s2.1 < (x5.length : Int)))) rfl (fun c8 => ?_) (fun c8 => ?_)
     ·
      replace h2 := condT c8 h2
      refine XC.skip <| XQ.seq <| XC.seq <| XC.block <| XC.seq <| XC.region ?_
      refine bindK h2 (fun x9 hx9 h2 => ?_)
      refine rR rfl rfl rfl (RO.indexE (α := Int) sl_54 rfl (.d _) rfl hx9) <| rR rfl rfl rfl (RO.loadPel ag_3 rfl rfl) <| rA rfl rfl rfl <| XL.nil <| XQ.seq <| XC.region <| rM rfl rfl rfl <| rM rfl rfl rfl <| rM rfl rfl rfl <| rM rfl rfl rfl ?_
      refine bindK h2 (fun x10 hx10 h2 => ?_)
      refine guardK h2 (fun g11 h2 => ?_)
      refine rR rfl rfl rfl (RO.indexRow (base := 1) (T := 54) sl_57 rfl rfl hx10 g11) <| rR rfl rfl rfl (RO.loadRow ag_54 rfl rfl hx10) <| rM rfl rfl rfl <| XL.put rfl rfl (lb rfl) (OpOK.data1E (α := Int) (s1.1) sl_54 z_3 rfl rfl (lb rfl) rfl rfl (.cons (.d _) .nil) rfl) ?_
      refine guardK h2 (fun g12 h2 => ?_)
      refine guardK h2 (fun g13 h2 => ?_)
      refine XL.put rfl rfl (lb rfl) (OpOK.appendE (α := Int) sl_54 el_3 rfl rfl (rowTok hx10 g12) rfl rfl (.d _) g13) ?_
      refine bindK h2 (fun x14 hx14 h2 => ?_)
      refine guardK h2 (fun g15 h2 => ?_)
      refine rR rfl rfl rfl (RO.indexRow (base := 1) (T := 54) sl_57 rfl rfl hx14 g15) ?_
      refine guardK h2 (fun g16 h2 => ?_)
      refine XL.eff rfl rfl (OpOK.storeRow ag_54 rfl rfl rfl hx14 g16 rfl rfl) <| XL.nil <| XQ.inBlock <| XQ.seq <| XC.region <| rR rfl rfl rfl (RO.binInt rfl rfl rfl) <| rM rfl rfl rfl <| XL.nil ?_
      have e_ := Option.some.inj h2
      subst e_
      refine XQ.nextM ((w64 (s2.1 + 1)), (s2.2.set x9.toNat (x10 ++ ([s1.1])))) (stle (tR rfl (tR rfl (tR rfl (tR rfl (tR rfl (tR rfl (tR rfl (tR rfl tZ)))))))) (hR rfl hZ) kRow rfl (Nat.zero_le _) rfl rfl rfl (bRw rfl rfl bZ) (rowToks_all _ _ _ rfl) rfl) ho2
     ·
      replace h2 := condF c8 h2
      refine XC.exit <| XQ.thenE <| XQ.thenE ?_
      have e_ := Option.some.inj h2
      subst e_
      have e_ : _ = _ := ho2
      subst e_
      exact XQ.joinX s2.2 (stle (tR rfl (tR rfl (tR rfl (tR rfl tZ)))) (hR rfl hZ) kRow rfl (Nat.zero_le _) rfl rfl rfl (bRw rfl rfl bZ) (rowToks_all _ _ _ rfl) rfl) h1
    ·
     intro o6 h1
     refine XQ.blockX <| XQ.inBlock <| XQ.seq <| XC.region <| rR rfl rfl rfl (RO.binInt rfl rfl rfl) <| rM rfl rfl rfl <| XL.nil ?_
     have e_ := Option.some.inj h1
     subst e_
     refine XQ.nextM ((w64 (s1.1 + 1)), o6) (stle (tR rfl (tR rfl (tR rfl (tR rfl tZ)))) (hR rfl hZ) kRow rfl (Nat.zero_le _) rfl rfl rfl (bRw rfl rfl bZ) (rowToks_all _ _ _ rfl) rfl) ho1
   ·
    replace h1 := condF c4 h1
    refine XC.exit <| XQ.thenE <| XQ.thenE ?_
    have e_ := Option.some.inj h1
    subst e_
    have e_ : _ = _ := ho1
    subst e_
    exact XQ.joinX s1.2 (stle (tR rfl tZ) (hR rfl hZ) kRow rfl (Nat.zero_le _) rfl rfl rfl (bRw rfl rfl bZ) (rowToks_all _ _ _ rfl) rfl) h0
  ·
   intro o2 h0
   refine XQ.blockX <| XQ.seq <| XC.seq <| XC.region <| rM rfl rfl rfl <| rA rfl rfl rfl <| XL.nil <| XQ.seq <| XC.ret ?_
   refine guardK h0 (fun g17 h0 => ?_)
   have e_ := Option.some.inj h0
   subst e_
   refine XQ.rows (i := 0) rfl <| XQ.freezeT (α := List Int) (t := 2) rfl rfl g17 ?_
   exact XQ.retF (fun _ _ h => h) rfl (RAs.tmp rfl .nil) (.cons (.one (.d _)) .nil)
end Go.Proofs.Ytijcchddnnnmdaa
namespace Go.Proofs.Ytijcchddnnnmdaa
open Go.RowKit Go.Shelf
set_option linter.unusedSimpArgs false
set_option linter.unusedVariables false
theorem en_12 : Enters Try.prog 12 := enters_of Try.func12 (by kernel_rfl) rfl
def m56f12_l0 (x6 : List Int) (rc : Int × Nat × (List Bool) × (List (List Int)) → Option ((List Bool))) (a1 : Nat) (a3 : List (List Int)) (s1 : Int × (List Bool)) : Option (LO (Int × (List Bool)) (((List Bool)))) :=
  cond (decide (s1.1 < (x6.length : Int)))
    (Option.bind (idx x6 s1.1) fun (x9 : Int) =>
  Option.bind (rc (x9, a1, s1.2, a3)) fun (x10 : (List Bool)) =>
  some (.next ((w64 (s1.1 + 1)), x10)))
    (some (.done s1.2))
def m56f12s (rc : Int × Nat × (List Bool) × (List (List Int)) → Option ((List Bool))) (a0 : Int) (a1 : Nat) (a2 : List Bool) (a3 : List (List Int)) : Option ((List Bool)) :=
  Option.bind (idx a2 a0) fun (x1 : Bool) =>
  guardO (Nat.beq a2.length a1)
  (cond x1
    (some a2)
    (Option.bind (idx a2 a0) fun (x4 : Bool) =>
  guardO (Nat.beq a2.length a1)
  (Option.bind (idx a3 a0) fun (x6 : List Int) =>
  Option.bind (loopN (m56f12_l0 x6 rc a1 a3) FUEL (0, (a2.set a0.toNat true))) (fun (o7 : (List Bool)) => some o7))))
def m56f12F (rc : Int × Nat × (List Bool) × (List (List Int)) → Option ((List Bool))) (u : Int × Nat × (List Bool) × (List (List Int))) : Option ((List Bool)) := m56f12s rc u.1 u.2.1 u.2.2.1 u.2.2.2
def m56f12 (a0 : Int) (a1 : Nat) (a2 : List Bool) (a3 : List (List Int)) : Option ((List Bool)) := recO m56f12F FUEL (a0, a1, a2, a3)
set_option maxRecDepth 100000 in
set_option maxHeartbeats 2000000 in
theorem m56f12s_ok (rc : Int × Nat × (List Bool) × (List (List Int)) → Option ((List Bool))) (H : ∀ (a0 : Int) (a1 : Nat) (a2 : List Bool) (a3 : List (List Int)) (r : (List Bool)), rc (a0, a1, a2, a3) = some r → CallM Try.prog 56 [.one (dI a0), .one (.ptr 0 0), .one (.ptr 2 0), .one (.ptr 3 0)] ⟨[(0, .cells 75 [.osl 1 0 a1 a1]), (1, .cells 4 (flatE a2)), (2, .cells 57 [dS a3]), (3, .cells 106 [.fn 56 [(0, 0), (2, 0), (3, 0)]])], [], 4⟩ (resOf []) ⟨[(0, .cells 75 [.osl 1 0 a1 a1]), (1, .cells 4 (flatE r)), (2, .cells 57 [dS a3]), (3, .cells 106 [.fn 56 [(0, 0), (2, 0), (3, 0)]])], [], 4⟩) (a0 : Int) (a1 : Nat) (a2 : List Bool) (a3 : List (List Int)) (r : (List Bool)) (h0 : m56f12s rc a0 a1 a2 a3 = some r) : CallM Try.prog 56 [.one (dI a0), .one (.ptr 0 0), .one (.ptr 2 0), .one (.ptr 3 0)] ⟨[(0, .cells 75 [.osl 1 0 a1 a1]), (1, .cells 4 (flatE a2)), (2, .cells 57 [dS a3]), (3, .cells 106 [.fn 56 [(0, 0), (2, 0), (3, 0)]])], [], 4⟩ (resOf []) ⟨[(0, .cells 75 [.osl 1 0 a1 a1]), (1, .cells 4 (flatE r)), (2, .cells 57 [dS a3]), (3, .cells 106 [.fn 56 [(0, 0), (2, 0), (3, 0)]])], [], 4⟩ := by
  unfold m56f12s at h0
  refine CallM.of_bodyD ⟨[], [(0, .cells 75 [.osl 1 0 a1 a1]), (1, .cells 4 (flatE r)), (2, .cells 57 [dS a3]), (3, .cells 106 [.fn 56 [(0, 0), (2, 0), (3, 0)]])], [], 4, 27, []⟩ rfl rfl en_56 (lb rfl) rfl .nil (fun w0 M V0 Q hv0 hQ0 => ?_)
  simp only [entry]
  refine XC.seq <| XC.seq <| XC.region <| rR rfl rfl rfl (RO.loadOwn ag_75 rfl rfl rfl) <| rM rfl rfl rfl ?_
  refine bindK h0 (fun x1 hx1 h0 => ?_)
  refine guardK h0 (fun g2 h0 => ?_)
  refine rR rfl rfl rfl (RO.indexO (α := Bool) sl_75 rfl rfl hx1 g2) <| rR rfl rfl rfl (RO.loadOF (α := Bool) (m := a0) (f := 0) ag_4 rfl rfl hx1 rfl) <| XL.nil <| XQ.seq ?_
  refine XC.cond (b := x1) rfl (fun c3 => ?_) (fun c3 => ?_)
  ·
   replace h0 := condT c3 h0
   refine XC.ret ?_
   have e_ := Option.some.inj h0
   subst e_
   exact hQ0 _ _ _ (.inr rfl) rfl (stle tZ (hR rfl (hR rfl (hR rfl (hR rfl hZ)))) kZ rfl (Nat.le_trans hv0 (lb rfl)) rfl rfl rfl (bB rfl rfl (bF rfl (bB rfl rfl (bB rfl rfl bZ)))) rfl rfl)
  ·
   replace h0 := condF c3 h0
   refine XC.skip <| XQ.seq <| XC.seq <| XC.region <| rR rfl rfl rfl (RO.loadOwn ag_75 rfl rfl rfl) <| rM rfl rfl rfl ?_
   refine bindK h0 (fun x4 hx4 h0 => ?_)
   refine guardK h0 (fun g5 h0 => ?_)
   refine rR rfl rfl rfl (RO.indexO (α := Bool) sl_75 rfl rfl hx4 g5) <| XL.eff rfl rfl (OpOK.storeOE (α := Bool) (y' := .one (dB true)) (v := true) ag_4 rfl rfl (.one (.d _)) rfl rfl hx4 rfl) <| XL.nil <| XQ.seq <| XC.seq <| XC.region <| rR rfl rfl rfl (RO.loadOwn ag_57 rfl rfl rfl) <| rM rfl rfl rfl ?_
   refine bindK h0 (fun x6 hx6 h0 => ?_)
   refine rR rfl rfl rfl (RO.indexE (α := List Int) sl_57 rfl (.d _) rfl hx6) <| rR rfl rfl rfl (RO.loadPel ag_54 rfl rfl) <| rR rfl rfl rfl (RO.lenE (α := Int) sl_54 rfl (.d _)) <| rM rfl rfl rfl <| XL.nil <| XQ.seq <| XC.block ?_
   refine XC.joinX 0 (fun (o7 : (List Bool)) => ⟨[], [(0, .cells 75 [.osl 1 0 a1 a1]), (1, .cells 4 (flatE o7)), (2, .cells 57 [dS a3]), (3, .cells 106 [.fn 56 [(0, 0), (2, 0), (3, 0)]])], [], 4, 27, []⟩) (fun (o7 : (List Bool)) => (some o7) = some r) ?_ ?_
   ·
    refine bindK h0 (fun o8 hl1 h0 => ?_)
    refine XC.loopM (m56f12_l0 x6 rc a1 a3) (fun s1 => ⟨[(3, .v (.one (.ptr 3 0))), (17, .v (.one (dS x6))), (18, .v (.one (dI (x6.length : Int)))), (19, .v (.one (dI s1.1)))], [(0, .cells 75 [.osl 1 0 a1 a1]), (1, .cells 4 (flatE s1.2)), (2, .cells 57 [dS a3]), (3, .cells 106 [.fn 56 [(0, 0), (2, 0), (3, 0)]])], [], 4, 27, []⟩) (0, (a2.set a0.toNat true)) o8 (stle (tR rfl (tR rfl (tR rfl (tR rfl tZ)))) (hR rfl (hR rfl (hR rfl (hR rfl hZ)))) kZ rfl (Nat.le_trans hv0 (lb rfl)) rfl rfl rfl (bB rfl rfl (bF rfl (bB rfl rfl (bB rfl rfl bZ)))) rfl rfl) hl1 (fun s1 n1 oo1 h1 ho1 => ?_)
    unfold m56f12_l0 at h1
    refine XC.seq <| XC.region <| rR rfl rfl rfl (RO.binInt rfl rfl rfl) <| XL.nil <| XQ.seq <| XC.seq ?_
    refine XC.cond (b := (decide (s1.1 < (x6.length : Int)))) rfl (fun c9 => ?_) (fun c9 => ?_)
    ·
     replace h1 := condT c9 h1
     refine XC.skip <| XQ.seq <| XC.seq <| XC.block <| XC.seq <| XC.region ?_
     refine bindK h1 (fun x10 hx10 h1 => ?_)
     refine rR rfl rfl rfl (RO.indexE (α := Int) sl_54 rfl (.d _) rfl hx10) <| rR rfl rfl rfl (RO.loadPel ag_3 rfl rfl) <| rA rfl rfl rfl <| XL.nil <| XQ.seq <| XC.region <| rR rfl rfl rfl (RO.loadOwn ag_106 rfl rfl rfl) <| rM rfl rfl rfl ?_
     refine bindK h1 (fun x11 hx11 h1 => ?_)
     refine XL.put rfl rfl (lb rfl) (OpOK.callG (hp1' := [(0, .cells 75 [.osl 1 0 a1 a1]), (1, .cells 4 (flatE x11)), (2, .cells 57 [dS a3]), (3, .cells 106 [.fn 56 [(0, 0), (2, 0), (3, 0)]])]) (tk1' := []) (hpF := []) (tkF := []) (res2 := resOf []) (nx2 := 4) [0, 1, 2, 3] rfl rfl (H x10 a1 s1.2 a3 x11 hx11) rfl rfl (qB rfl rfl (qF rfl (qB rfl rfl (qB rfl rfl qZ)))) rfl rfl (gR rfl (gF rfl (gR rfl (gR rfl gZ)))) jZ hZ kZ rfl rfl rfl rfl rfl (bB rfl rfl (bF rfl (bB rfl rfl (bB rfl rfl bZ)))) rfl rfl rfl rfl) <| XL.nil <| XQ.inBlock <| XQ.seq <| XC.region <| rR rfl rfl rfl (RO.binInt rfl rfl rfl) <| rM rfl rfl rfl <| XL.nil ?_
     have e_ := Option.some.inj h1
     subst e_
     refine XQ.nextM ((w64 (s1.1 + 1)), x11) (stle (tR rfl (tR rfl (tR rfl (tR rfl tZ)))) (hR rfl (hR rfl (hR rfl (hR rfl hZ)))) kZ rfl (Nat.le_trans hv0 (lb rfl)) rfl rfl rfl (bB rfl rfl (bF rfl (bB rfl rfl (bB rfl rfl bZ)))) rfl rfl) ho1
    ·
     replace h1 := condF c9 h1
     refine XC.exit <| XQ.thenE <| XQ.thenE ?_
     have e_ := Option.some.inj h1
     subst e_
     have e_ : _ = _ := ho1
     subst e_
     exact XQ.joinX s1.2 (stle tZ (hR rfl (hR rfl (hR rfl (hR rfl hZ)))) kZ rfl (Nat.le_trans hv0 (lb rfl)) rfl rfl rfl (bB rfl rfl (bF rfl (bB rfl rfl (bB rfl rfl bZ)))) rfl rfl) h0
   ·
    intro o7 h0
    refine XQ.blockX ?_
    have e_ := Option.some.inj h0
    subst e_
    exact hQ0 _ _ _ (.inl rfl) rfl (stle tZ (hR rfl (hR rfl (hR rfl (hR rfl hZ)))) kZ rfl (Nat.le_trans hv0 (lb rfl)) rfl rfl rfl (bB rfl rfl (bF rfl (bB rfl rfl (bB rfl rfl bZ)))) rfl rfl)
theorem m56f12_all (n : Nat) (u : Int × Nat × (List Bool) × (List (List Int))) (r : (List Bool)) (h0 : recO m56f12F n u = some r) : CallM Try.prog 56 [.one (dI u.1), .one (.ptr 0 0), .one (.ptr 2 0), .one (.ptr 3 0)] ⟨[(0, .cells 75 [.osl 1 0 u.2.1 u.2.1]), (1, .cells 4 (flatE u.2.2.1)), (2, .cells 57 [dS u.2.2.2]), (3, .cells 106 [.fn 56 [(0, 0), (2, 0), (3, 0)]])], [], 4⟩ (resOf []) ⟨[(0, .cells 75 [.osl 1 0 u.2.1 u.2.1]), (1, .cells 4 (flatE r)), (2, .cells 57 [dS u.2.2.2]), (3, .cells 106 [.fn 56 [(0, 0), (2, 0), (3, 0)]])], [], 4⟩ :=
  recO_ind (C := fun u r => CallM Try.prog 56 [.one (dI u.1), .one (.ptr 0 0), .one (.ptr 2 0), .one (.ptr 3 0)] ⟨[(0, .cells 75 [.osl 1 0 u.2.1 u.2.1]), (1, .cells 4 (flatE u.2.2.1)), (2, .cells 57 [dS u.2.2.2]), (3, .cells 106 [.fn 56 [(0, 0), (2, 0), (3, 0)]])], [], 4⟩ (resOf []) ⟨[(0, .cells 75 [.osl 1 0 u.2.1 u.2.1]), (1, .cells 4 (flatE r)), (2, .cells 57 [dS u.2.2.2]), (3, .cells 106 [.fn 56 [(0, 0), (2, 0), (3, 0)]])], [], 4⟩) (fun rc H u r h => m56f12s_ok rc (fun a0 a1 a2 a3 r h => H (a0, a1, a2, a3) r h) u.1 u.2.1 u.2.2.1 u.2.2.2 r h) n u r h0
theorem m56f12_ok (a0 : Int) (a1 : Nat) (a2 : List Bool) (a3 : List (List Int)) (r : (List Bool)) (h0 : m56f12 a0 a1 a2 a3 = some r) : CallM Try.prog 56 [.one (dI a0), .one (.ptr 0 0), .one (.ptr 2 0), .one (.ptr 3 0)] ⟨[(0, .cells 75 [.osl 1 0 a1 a1]), (1, .cells 4 (flatE a2)), (2, .cells 57 [dS a3]), (3, .cells 106 [.fn 56 [(0, 0), (2, 0), (3, 0)]])], [], 4⟩ (resOf []) ⟨[(0, .cells 75 [.osl 1 0 a1 a1]), (1, .cells 4 (flatE r)), (2, .cells 57 [dS a3]), (3, .cells 106 [.fn 56 [(0, 0), (2, 0), (3, 0)]])], [], 4⟩ := m56f12_all FUEL (a0, a1, a2, a3) r h0
end Go.Proofs.Ytijcchddnnnmdaa
namespace Go.Proofs.Ytijcchddnnnmdaa
open Go.RowKit Go.Shelf
set_option linter.unusedSimpArgs false
set_option linter.unusedVariables false
def m12o_l0 (x10 : (List Bs)) (s2 : Int × (GMap Bs Int)) (s3 : Int × (GMap Bs Int)) : Option (LO (Int × (GMap Bs Int)) (((GMap Bs Int)) ⊕ (((List (List Int)) × (GMap Bs Int)) ⊕ Unit ⊕ Unit))) :=
  cond (decide (s3.1 < (x10.length : Int)))
    (Option.bind (idx x10 s3.1) fun (x13 : Bs) =>
  cond (gmHas s3.2 x13)
    (some (.done (.inr (.inr (.inl ())))))
    (some (.next ((w64 (s3.1 + 1)), (gmSet s3.2 x13 s2.1)))))
    (some (.done (.inl s3.2)))
def m12o_l1 (nn : Nat) (a0 : List Dcl) (s2 : Int × (GMap Bs Int)) : Option (LO (Int × (GMap Bs Int)) (((GMap Bs Int)) ⊕ (((List (List Int)) × (GMap Bs Int)) ⊕ Unit ⊕ Unit))) :=
  cond (decide (s2.1 < ((nn : Nat) : Int)))
    (Option.bind (idx a0 s2.1) fun (x8 : Dcl) =>
  guardO (Nat.beq a0.length nn)
  (Option.bind (m37 x8) fun (x10 : (List Bs)) =>
  Option.bind (loopN (m12o_l0 x10 s2) FUEL (0, s2.2)) (Sum.elim (fun (o11 : (GMap Bs Int)) => some (.next ((w64 (s2.1 + 1)), o11))) (fun o => some (.done (.inr o))))))
    (some (.done (.inl s2.2)))
def m12o_l2 (x11 : (List Bs)) (o6 : (GMap Bs Int)) (s3 : (List Int) × Int) : Option (LO ((List Int) × Int) (((List Int)) ⊕ (((List (List Int)) × (GMap Bs Int)) ⊕ Unit ⊕ Unit))) :=
  cond (decide (s3.2 < (x11.length : Int)))
    (Option.bind (idx x11 s3.2) fun (x14 : Bs) =>
  cond (!(gmHas o6 x14))
    (some (.done (.inr (.inr (.inr ())))))
    (guardO (Nat.ble (s3.1.length + ([(gmVal o6 x14)]).length) 1000000000)
  (some (.next ((s3.1 ++ ([(gmVal o6 x14)])), (w64 (s3.2 + 1)))))))
    (some (.done (.inl s3.1)))
def m12o_l3 (nn : Nat) (a0 : List Dcl) (o6 : (GMap Bs Int)) (s2 : Int × (List (List Int))) : Option (LO (Int × (List (List Int))) (((List (List Int))) ⊕ (((List (List Int)) × (GMap Bs Int)) ⊕ Unit ⊕ Unit))) :=
  cond (decide (s2.1 < ((nn : Nat) : Int)))
    (Option.bind (idx a0 s2.1) fun (x9 : Dcl) =>
  guardO (Nat.beq a0.length nn)
  (Option.bind (m53 x9) fun (x11 : (List Bs)) =>
  Option.bind (loopN (m12o_l2 x11 o6) FUEL (([] : List Int), 0)) (Sum.elim (fun (o12 : (List Int)) => Option.bind (sortF o12) fun (x13 : List Int) =>
  Option.bind (compactF x13 ((Enc.encL o12).length)) fun (x14 : List Int) =>
  guardO (Nat.ble (s2.2.length + ([x14]).length) 1000000000)
  (some (.next ((w64 (s2.1 + 1)), (s2.2 ++ ([x14])))))) (fun o => some (.done (.inr o))))))
    (some (.done (.inl s2.2)))
def m12o_l4 (a1 : List Bs) (y1 : (List (List Int)) × (GMap Bs Int)) (x32 : (List (List Int))) (s2 : Int × (List Bool)) : Option (LO (Int × (List Bool)) (((List Bool)) ⊕ (Unit ⊕ ((List Bool))))) :=
  cond (decide (s2.1 < (a1.length : Int)))
    (Option.bind (idx a1 s2.1) fun (x40 : Bs) =>
  cond (!(gmHas y1.2 x40))
    (some (.done (.inr (.inl ()))))
    (Option.bind (m56f12 (gmVal y1.2 x40) ((x32.length : Int).toNat) s2.2 x32) fun (x42 : (List Bool)) =>
  some (.next ((w64 (s2.1 + 1)), x42))))
    (some (.done (.inl s2.2)))
def m12o_l5 (nn : Nat) (a0 : List Dcl) (y34 : (List Bool)) (x32 : (List (List Int))) (s1 : (List Bs) × Int) : Option (LO ((List Bs) × Int) (((List Bs)))) :=
  cond (decide (s1.2 < ((nn : Nat) : Int)))
    (Option.bind (idx a0 s1.2) fun (x46 : Dcl) =>
  guardO (Nat.beq a0.length nn)
  (Option.bind (idx y34 s1.2) fun (x48 : Bool) =>
  guardO (Nat.beq y34.length ((x32.length : Int).toNat))
  (cond x48
    (Option.bind (m37 x46) fun (x51 : (List Bs)) =>
  guardO (Nat.ble (s1.1.length + x51.length) 1000000000)
  (some (.next ((s1.1 ++ x51), (w64 (s1.2 + 1))))))
    (some (.next (s1.1, (w64 (s1.2 + 1))))))))
    (some (.done s1.1))
def m12o (a0 : List Dcl) (a1 : List Bs) (nn : Nat) : Option ((List Bs) × Int) :=
  Option.bind (Option.bind (loopN (m12o_l1 nn a0) FUEL (0, gmNil)) (Sum.elim (fun (o6 : (GMap Bs Int)) => Option.bind (loopN (m12o_l3 nn a0 o6) FUEL (0, ([] : List (List Int)))) (Sum.elim (fun (o7 : (List (List Int))) => some (.inl (o7, o6))) (fun o => some o))) (fun o => some o))) (Sum.elim (fun (y1 : (List (List Int)) × (GMap Bs Int)) => Option.bind (m36 y1.1) fun (x32 : (List (List Int))) =>
  Option.bind (guardO (cond (decide (0 ≤ (x32.length : Int))) (Nat.ble (1 * (x32.length : Int).toNat) 281474976710656) false)
  (Option.bind (loopN (m12o_l4 a1 y1 x32) FUEL (0, (List.replicate (x32.length : Int).toNat false))) (Sum.elim (fun (o38 : (List Bool)) => some (.inr o38)) (fun o => some o)))) (Sum.elim (fun (y33 : Unit) => some (([] : List Bs), 9)) (fun (y34 : (List Bool)) => Option.bind (loopN (m12o_l5 nn a0 y34 x32) FUEL (([] : List Bs), 0)) (fun (o44 : (List Bs)) => some (o44, 0))))) (Sum.elim (fun (y2 : Unit) => some (([] : List Bs), 8)) (fun (y3 : Unit) => some (([] : List Bs), 9))))
set_option maxRecDepth 100000 in
set_option maxHeartbeats 2000000 in
theorem m12o_ok (a0 : List Dcl) (a1 : List Bs) (nn : Nat) (r : (List Bs) × Int) (h0 : m12o a0 a1 nn = some r) : CallM Try.prog 12 [.one (.osl 0 0 nn nn), .one (dS a1)] ⟨[(0, .cells 48 (flatE a0))], [], 1⟩ (resOf [.one (dS r.1), .one (dI r.2)]) ⟨[(0, .cells 48 (flatE a0))], [], 6⟩ := by
  unfold m12o at h0
  refine CallM.of_bodyD ⟨[(4, .v (.one (dS r.1))), (5, .v (.one (dI r.2)))], [(0, .cells 48 (flatE a0))], [], 6, 49, []⟩ rfl rfl en_12 (lb rfl) rfl (RAs.tmp rfl (RAs.tmp rfl .nil)) (fun w0 M V0 Q hv0 hQ0 => ?_)
  simp only [entry]
  refine XC.seq <| XC.region <| rA rfl rfl rfl <| rA rfl rfl rfl <| XL.nil <| XQ.seq <| XC.seq <| XC.region <| rM rfl rfl rfl ?_
  refine bindK h0 (fun y5 h1 h0 => ?_)
  have hc4 : CallM Try.prog 34 [.one (.osl 0 0 nn nn)] ⟨[(0, .cells 48 (flatE a0))], [], 1⟩ (resOf (((Sum.elim (fun (y1 : (List (List Int)) × (GMap Bs Int)) => ([.agg [dA 4 y1.1, .mp 2], .one (dI 0)] : List AV)) (Sum.elim (fun (y2 : Unit) => ([.agg [dN, .d (.v (.map none))], .one (dI 8)] : List AV)) (fun (y3 : Unit) => ([.agg [dN, .d (.v (.map none))], .one (dI 9)] : List AV))))) y5)) ⟨(((Sum.elim (fun (y1 : (List (List Int)) × (GMap Bs Int)) => (⟨[(2, .v (.one (.ptr 1 0))), (3, .v (.one (dI 0)))], [(0, .cells 48 (flatE a0)), (1, .cells 72 [dA 4 y1.1, .mp 2]), (2, .mp (gmE y1.2.1) y1.2.2)], [(4, some ⟨54, 1, (Enc.encL y1.1).length, []⟩)], 5, 88, []⟩ : St)) (Sum.elim (fun (y2 : Unit) => (⟨[(2, .v (.one (.ptr 1 0))), (3, .v (.one (dI 8)))], [(0, .cells 48 (flatE a0)), (1, .cells 72 [dN, .d (.v (.map none))])], [], 5, 88, []⟩ : St)) (fun (y3 : Unit) => (⟨[(2, .v (.one (.ptr 1 0))), (3, .v (.one (dI 9)))], [(0, .cells 48 (flatE a0)), (1, .cells 72 [dN, .d (.v (.map none))])], [], 7, 88, []⟩ : St))))) y5).hp, (((Sum.elim (fun (y1 : (List (List Int)) × (GMap Bs Int)) => (⟨[(2, .v (.one (.ptr 1 0))), (3, .v (.one (dI 0)))], [(0, .cells 48 (flatE a0)), (1, .cells 72 [dA 4 y1.1, .mp 2]), (2, .mp (gmE y1.2.1) y1.2.2)], [(4, some ⟨54, 1, (Enc.encL y1.1).length, []⟩)], 5, 88, []⟩ : St)) (Sum.elim (fun (y2 : Unit) => (⟨[(2, .v (.one (.ptr 1 0))), (3, .v (.one (dI 8)))], [(0, .cells 48 (flatE a0)), (1, .cells 72 [dN, .d (.v (.map none))])], [], 5, 88, []⟩ : St)) (fun (y3 : Unit) => (⟨[(2, .v (.one (.ptr 1 0))), (3, .v (.one (dI 9)))], [(0, .cells 48 (flatE a0)), (1, .cells 72 [dN, .d (.v (.map none))])], [], 7, 88, []⟩ : St))))) y5).tk, (((Sum.elim (fun (y1 : (List (List Int)) × (GMap Bs Int)) => (⟨[(2, .v (.one (.ptr 1 0))), (3, .v (.one (dI 0)))], [(0, .cells 48 (flatE a0)), (1, .cells 72 [dA 4 y1.1, .mp 2]), (2, .mp (gmE y1.2.1) y1.2.2)], [(4, some ⟨54, 1, (Enc.encL y1.1).length, []⟩)], 5, 88, []⟩ : St)) (Sum.elim (fun (y2 : Unit) => (⟨[(2, .v (.one (.ptr 1 0))), (3, .v (.one (dI 8)))], [(0, .cells 48 (flatE a0)), (1, .cells 72 [dN, .d (.v (.map none))])], [], 5, 88, []⟩ : St)) (fun (y3 : Unit) => (⟨[(2, .v (.one (.ptr 1 0))), (3, .v (.one (dI 9)))], [(0, .cells 48 (flatE a0)), (1, .cells 72 [dN, .d (.v (.map none))])], [], 7, 88, []⟩ : St))))) y5).nx⟩ := by
   refine CallM.of_bodyT y5 ((Sum.elim (fun (y1 : (List (List Int)) × (GMap Bs Int)) => (⟨[(2, .v (.one (.ptr 1 0))), (3, .v (.one (dI 0)))], [(0, .cells 48 (flatE a0)), (1, .cells 72 [dA 4 y1.1, .mp 2]), (2, .mp (gmE y1.2.1) y1.2.2)], [(4, some ⟨54, 1, (Enc.encL y1.1).length, []⟩)], 5, 88, []⟩ : St)) (Sum.elim (fun (y2 : Unit) => (⟨[(2, .v (.one (.ptr 1 0))), (3, .v (.one (dI 8)))], [(0, .cells 48 (flatE a0)), (1, .cells 72 [dN, .d (.v (.map none))])], [], 5, 88, []⟩ : St)) (fun (y3 : Unit) => (⟨[(2, .v (.one (.ptr 1 0))), (3, .v (.one (dI 9)))], [(0, .cells 48 (flatE a0)), (1, .cells 72 [dN, .d (.v (.map none))])], [], 7, 88, []⟩ : St))))) ((Sum.elim (fun (y1 : (List (List Int)) × (GMap Bs Int)) => ([.agg [dA 4 y1.1, .mp 2], .one (dI 0)] : List AV)) (Sum.elim (fun (y2 : Unit) => ([.agg [dN, .d (.v (.map none))], .one (dI 8)] : List AV)) (fun (y3 : Unit) => ([.agg [dN, .d (.v (.map none))], .one (dI 9)] : List AV))))) rfl rfl en_34 (lb rfl) (fun z_ => by cases z_ with
     | inl _ => rfl
     | inr z_ => exact (by cases z_ <;> rfl)) (fun z_ => by cases z_ with
     | inl _ => exact (RAs.agg ag_72 rfl rfl rfl rfl (RAs.tmp rfl .nil))
     | inr z_ => exact (by cases z_ with
     | inl _ => exact (RAs.agg ag_72 rfl rfl rfl rfl (RAs.tmp rfl .nil))
     | inr _ => exact (RAs.agg ag_72 rfl rfl rfl rfl (RAs.tmp rfl .nil)))) (fun w0 M V0 Q hv1 hQ1 => ?_)
   simp only [entry]
   refine XC.seq <| XC.region <| XL.put rfl rfl (lb rfl) (OpOK.alloc z_72 rfl) <| rA rfl rfl rfl <| XL.nil <| XQ.seq <| XC.seq <| XC.region <| XL.put rfl rfl (lb rfl) (OpOK.makeMapG Bs Int) <| rR rfl rfl rfl (RO.build1 bd_72 rfl rfl rfl) <| XL.put rfl rfl (lb rfl) (OpOK.alloc z_72 rfl) <| XL.eff rfl rfl (OpOK.store ag_72 rfl rfl rfl rfl (lb rfl) rfl) <| XL.nil <| XQ.seq ?_
   refine XC.seq <| XC.seq <| XC.region <| rM rfl rfl rfl <| rR rfl rfl rfl (RO.lenOsl sl_22 rfl) <| rM rfl rfl rfl <| XL.nil <| XQ.seq <| XC.block ?_
   refine XC.joinX 0 (fun (o6 : (GMap Bs Int)) => ⟨[(0, .v (.one (.osl 0 0 nn nn))), (2, .v (.one (.ptr 1 0))), (4, .v (.one (.ptr 3 0)))], [(0, .cells 48 (flatE a0)), (1, .cells 72 [dN, .d (.v (.map none))]), (2, .mp (gmE o6.1) o6.2), (3, .cells 72 [dN, .mp 2])], [], 4, 88, []⟩) (fun (o6 : (GMap Bs Int)) => (Option.bind (loopN (m12o_l3 nn a0 o6) FUEL (0, ([] : List (List Int)))) (Sum.elim (fun (o7 : (List (List Int))) => some (.inl (o7, o6))) (fun o => some o))) = some y5) ?_ ?_
   ·
    refine bindK h1 (fun o7 hl2 h1 => ?_)
    refine XC.loopM (m12o_l1 nn a0) (fun s2 => ⟨[(0, .v (.one (.osl 0 0 nn nn))), (2, .v (.one (.ptr 1 0))), (4, .v (.one (.ptr 3 0))), (20, .v (.one (.osl 0 0 nn nn))), (21, .v (.one (dI ((nn : Nat) : Int)))), (22, .v (.one (dI s2.1)))], [(0, .cells 48 (flatE a0)), (1, .cells 72 [dN, .d (.v (.map none))]), (2, .mp (gmE s2.2.1) s2.2.2), (3, .cells 72 [dN, .mp 2])], [], 4, 88, []⟩) (0, gmNil) o7 (stle (tR rfl (tR rfl (tR rfl (tR rfl (tR rfl (tR rfl tZ)))))) (hR rfl (hR rfl (hR rfl (hR rfl hZ)))) kZ rfl (Nat.le_trans hv1 (lb rfl)) rfl rfl rfl (bF rfl (bB rfl rfl (bG rfl (bB rfl rfl bZ)))) rfl rfl) hl2 (fun s2 n2 oo2 h2 ho2 => ?_)
    unfold m12o_l1 at h2
    refine XC.seq <| XC.region <| rR rfl rfl rfl (RO.binInt rfl rfl rfl) <| XL.nil <| XQ.seq <| XC.seq ?_
    refine XC.cond (b := (decide (s2.1 < ((nn : Nat) : Int)))) rfl (fun c8 => ?_) (fun c8 => ?_)
    ·
     replace h2 := condT c8 h2
     refine XC.skip <| XQ.seq <| XC.seq <| XC.block <| XC.seq <| XC.region <| rM rfl rfl rfl ?_
     refine bindK h2 (fun x9 hx9 h2 => ?_)
     refine guardK h2 (fun g10 h2 => ?_)
     refine rR rfl rfl rfl (RO.indexO (α := Dcl) sl_22 rfl rfl hx9 g10) <| rR rfl rfl rfl (RO.loadOE (α := Dcl) (ys := [dI x9.kind, dS8 x9.name, dI x9.params, dI x9.ty.kind, dI x9.ty.index, dS8 x9.ty.name, dS x9.ty.levels, dS x9.ty.kids, dI x9.value.kind, dI x9.value.index, dS8 x9.value.name, dS x9.value.levels, dS x9.value.kids, dI x9.fixed, dS x9.ctors, dI x9.rcr.params, dI x9.rcr.ty.kind, dI x9.rcr.ty.index, dS8 x9.rcr.ty.name, dS x9.rcr.ty.levels, dS x9.rcr.ty.kids, dS x9.rcr.rules, dS x9.funs]) ag_48 rfl rfl hx9 rfl) <| XL.put rfl rfl (lb rfl) (OpOK.alloc z_48 rfl) <| rA rfl rfl rfl <| XL.eff rfl rfl (OpOK.storeCE (x9 : Dcl) ag_48 rfl rfl rfl rfl rfl) <| XL.nil <| XQ.seq <| XC.seq <| XC.region <| rR rfl rfl rfl (RO.loadCE (x9 : Dcl) ag_48 rfl rfl) ?_
     refine bindK h2 (fun x11 hx11 h2 => ?_)
     refine XL.put rfl rfl (lb rfl) (OpOK.callFun (m37_ok x9 x11 hx11) rfl (.cons (.agg (.cons (.d _) (.cons (.d _) (.cons (.d _) (.cons (.d _) (.cons (.d _) (.cons (.d _) (.cons (.d _) (.cons (.d _) (.cons (.d _) (.cons (.d _) (.cons (.d _) (.cons (.d _) (.cons (.d _) (.cons (.d _) (.cons (.d _) (.cons (.d _) (.cons (.d _) (.cons (.d _) (.cons (.d _) (.cons (.d _) (.cons (.d _) (.cons (.d _) (.cons (.d _) .nil)))))))))))))))))))))))) .nil)) <| rR rfl rfl rfl (RO.lenE (α := Bs) sl_23 rfl (.d _)) <| rM rfl rfl rfl <| XL.nil <| XQ.seq <| XC.block ?_
     refine XC.joinX 2 (fun (o12 : (GMap Bs Int)) => ⟨[(0, .v (.one (.osl 0 0 nn nn))), (2, .v (.one (.ptr 1 0))), (4, .v (.one (.ptr 3 0))), (20, .v (.one (.osl 0 0 nn nn))), (21, .v (.one (dI ((nn : Nat) : Int)))), (22, .v (.one (dI s2.1)))], [(0, .cells 48 (flatE a0)), (1, .cells 72 [dN, .d (.v (.map none))]), (2, .mp (gmE o12.1) o12.2), (3, .cells 72 [dN, .mp 2]), (4, .cells 48 (cE x9))], [], 5, 88, []⟩) (fun (o12 : (GMap Bs Int)) => (some (.next ((w64 (s2.1 + 1)), o12))) = some oo2) ?_ ?_
     ·
      refine bindK h2 (fun o13 hl3 h2 => ?_)
      refine XC.loopM (m12o_l0 x11 s2) (fun s3 => ⟨[(0, .v (.one (.osl 0 0 nn nn))), (2, .v (.one (.ptr 1 0))), (4, .v (.one (.ptr 3 0))), (5, .v (.one (dI s2.1))), (20, .v (.one (.osl 0 0 nn nn))), (21, .v (.one (dI ((nn : Nat) : Int)))), (22, .v (.one (dI s2.1))), (28, .v (.one (dS x11))), (29, .v (.one (dI (x11.length : Int)))), (30, .v (.one (dI s3.1)))], [(0, .cells 48 (flatE a0)), (1, .cells 72 [dN, .d (.v (.map none))]), (2, .mp (gmE s3.2.1) s3.2.2), (3, .cells 72 [dN, .mp 2]), (4, .cells 48 (cE x9))], [], 5, 88, []⟩) (0, s2.2) o13 (stle (tR rfl (tR rfl (tR rfl (tR rfl (tR rfl (tR rfl (tR rfl (tR rfl (tR rfl (tR rfl tZ)))))))))) (hR rfl (hR rfl (hR rfl (hR rfl (hR rfl hZ))))) kZ rfl (Nat.le_trans hv1 (lb rfl)) rfl rfl rfl (bF rfl (bB rfl rfl (bG rfl (bB rfl rfl (bB rfl rfl bZ))))) rfl rfl) hl3 (fun s3 n3 oo3 h3 ho3 => ?_)
      unfold m12o_l0 at h3
      refine XC.seq <| XC.region <| rR rfl rfl rfl (RO.binInt rfl rfl rfl) <| XL.nil <| XQ.seq <| XC.seq ?_
      refine XC.cond (b := (decide (s3.1 < (x11.length : Int)))) rfl (fun c14 => ?_) (fun c14 => ?_)
      ·
       replace h3 := condT c14 h3
       refine XC.skip <| XQ.seq <| XC.seq <| XC.block <| XC.seq <| XC.region ?_
       refine bindK h3 (fun x15 hx15 h3 => ?_)
       refine rR rfl rfl rfl (RO.indexE (α := Bs) sl_23 rfl (.d _) rfl hx15) <| rR rfl rfl rfl (RO.loadPel ag_9 rfl rfl) <| rA rfl rfl rfl <| XL.nil <| XQ.seq <| XC.seq <| XC.seq <| XC.region <| rR rfl rfl rfl (RO.fieldOwn fo_72_1 rfl) <| rR rfl rfl rfl (RO.loadOwn ag_70 rfl rfl rfl) <| rM rfl rfl rfl <| rR rfl rfl rfl (RO.lookupGT (M := s3.2) (k := x15) mp_70 zok_int rfl rfl rfl) <| rM rfl rfl rfl <| rR rfl rfl rfl (RO.extract rfl rfl) ?_
       refine rR rfl rfl rfl (RO.extract rfl rfl) <| rA rfl rfl rfl <| rA rfl rfl rfl <| XL.nil <| XQ.seq <| XC.seq <| XC.region <| rM rfl rfl rfl <| XL.nil <| XQ.seq ?_
       refine XC.cond (b := (gmHas s3.2 x15)) rfl (fun c16 => ?_) (fun c16 => ?_)
       ·
        replace h3 := condT c16 h3
        refine XC.seq <| XC.region <| rR rfl rfl rfl (RO.build0 bd_72 rfl ) <| XL.eff rfl rfl (OpOK.store ag_72 rfl rfl rfl rfl (lb rfl) rfl) <| rA rfl rfl rfl <| XL.nil <| XQ.seq <| XC.ret ?_
        have e_ := Option.some.inj h3
        subst e_
        have e_ : _ = _ := ho3
        subst e_
        try dsimp only [Sum.elim_inl, Sum.elim_inr] at h2
        have e_ := Option.some.inj h2
        subst e_
        have e_ : _ = _ := ho2
        subst e_
        try dsimp only [Sum.elim_inl, Sum.elim_inr] at h1
        have e_ := Option.some.inj h1
        subst e_
        exact hQ1 _ _ _ (.inr rfl) rfl (show StLe _ _ ⟨[(2, .v (.one (.ptr 1 0))), (3, .v (.one (dI 8)))], [(0, .cells 48 (flatE a0)), (1, .cells 72 [dN, .d (.v (.map none))])], [], 5, 88, []⟩ from (stle (tR rfl (tR rfl tZ)) (hR rfl (hR rfl hZ)) kZ rfl (Nat.le_trans hv1 (lb rfl)) rfl rfl rfl (bF rfl (bB rfl rfl bZ)) rfl rfl))
       ·
        replace h3 := condF c16 h3
        refine XC.skip <| XQ.seq <| XC.region <| rR rfl rfl rfl (RO.fieldOwn fo_72_1 rfl) <| rR rfl rfl rfl (RO.loadOwn ag_70 rfl rfl rfl) <| rM rfl rfl rfl <| rM rfl rfl rfl <| XL.eff rfl rfl (OpOK.mapSetG (M := s3.2) (k := x15) (v := s2.1) mp_70 rfl rfl rfl rfl rfl) <| XL.nil <| XQ.inBlock <| XQ.seq <| XC.region <| rR rfl rfl rfl (RO.binInt rfl rfl rfl) <| rM rfl rfl rfl ?_
        refine XL.nil ?_
        have e_ := Option.some.inj h3
        subst e_
        refine XQ.nextM ((w64 (s3.1 + 1)), (gmSet s3.2 x15 s2.1)) (stle (tR rfl (tR rfl (tR rfl (tR rfl (tR rfl (tR rfl (tR rfl (tR rfl (tR rfl (tR rfl tZ)))))))))) (hR rfl (hR rfl (hR rfl (hR rfl (hR rfl hZ))))) kZ rfl (Nat.le_trans hv1 (lb rfl)) rfl rfl rfl (bF rfl (bB rfl rfl (bG rfl (bB rfl rfl (bB rfl rfl bZ))))) rfl rfl) ho3
      ·
       replace h3 := condF c14 h3
       refine XC.exit <| XQ.thenE <| XQ.thenE ?_
       have e_ := Option.some.inj h3
       subst e_
       have e_ : _ = _ := ho3
       subst e_
       exact XQ.joinX s3.2 (stle (tR rfl (tR rfl (tR rfl (tR rfl (tR rfl (tR rfl tZ)))))) (hR rfl (hR rfl (hR rfl (hR rfl (hR rfl hZ))))) kZ rfl (Nat.le_trans hv1 (lb rfl)) rfl rfl rfl (bF rfl (bB rfl rfl (bG rfl (bB rfl rfl (bB rfl rfl bZ))))) rfl rfl) h2
     ·
      intro o12 h2
      refine XQ.blockX <| XQ.inBlock <| XQ.seq <| XC.region <| rR rfl rfl rfl (RO.binInt rfl rfl rfl) <| rM rfl rfl rfl <| XL.nil ?_
      have e_ := Option.some.inj h2
      subst e_
      refine XQ.nextM ((w64 (s2.1 + 1)), o12) (stle (tR rfl (tR rfl (tR rfl (tR rfl (tR rfl (tR rfl tZ)))))) (hR rfl (hR rfl (hR rfl (hR rfl hZ)))) kZ rfl (Nat.le_trans hv1 (lb rfl)) rfl rfl rfl (bF rfl (bB rfl rfl (bG rfl (bB rfl rfl bZ)))) rfl rfl) ho2
    ·
     replace h2 := condF c8 h2
     refine XC.exit <| XQ.thenE <| XQ.thenE ?_
     have e_ := Option.some.inj h2
     subst e_
     have e_ : _ = _ := ho2
     subst e_
     exact XQ.joinX s2.2 (stle (tR rfl (tR rfl (tR rfl tZ))) (hR rfl (hR rfl (hR rfl (hR rfl hZ)))) kZ rfl (Nat.le_trans hv1 (lb rfl)) rfl rfl rfl (bF rfl (bB rfl rfl (bG rfl (bB rfl rfl bZ)))) rfl rfl) h1
   ·
    intro o6 h1
    refine XQ.blockX <| XQ.seq <| XC.seq <| XC.seq <| XC.region <| rM rfl rfl rfl <| rR rfl rfl rfl (RO.lenOsl sl_22 rfl) <| rM rfl rfl rfl <| XL.nil <| XQ.seq <| XC.block ?_
    refine XC.joinX 4 (fun (o17 : (List (List Int))) => ⟨[(2, .v (.one (.ptr 1 0))), (4, .v (.one (.ptr 3 0)))], [(0, .cells 48 (flatE a0)), (1, .cells 72 [dN, .d (.v (.map none))]), (2, .mp (gmE o6.1) o6.2), (3, .cells 72 [dA 4 o17, .mp 2])], [(4, some ⟨54, 1, (Enc.encL o17).length, []⟩)], 5, 88, []⟩) (fun (o17 : (List (List Int))) => (some (.inl (o17, o6))) = some y5) ?_ ?_
    ·
     refine XC.adoptC (i := 3) (off := 0) 54 1 rfl rfl ?_
     refine bindK h1 (fun o18 hl2 h1 => ?_)
     refine XC.loopM (m12o_l3 nn a0 o6) (fun s2 => ⟨[(2, .v (.one (.ptr 1 0))), (4, .v (.one (.ptr 3 0))), (49, .v (.one (.osl 0 0 nn nn))), (50, .v (.one (dI ((nn : Nat) : Int)))), (51, .v (.one (dI s2.1)))], [(0, .cells 48 (flatE a0)), (1, .cells 72 [dN, .d (.v (.map none))]), (2, .mp (gmE o6.1) o6.2), (3, .cells 72 [dA 4 s2.2, .mp 2])], [(4, some ⟨54, 1, (Enc.encL s2.2).length, []⟩)], 5, 88, []⟩) (0, ([] : List (List Int))) o18 (stle (tR rfl (tR rfl (tR rfl (tR rfl (tR rfl tZ))))) (hR rfl (hR rfl (hR rfl (hR rfl hZ)))) (kR rfl kZ) rfl (Nat.le_trans hv1 (lb rfl)) rfl rfl rfl (bF rfl (bB rfl rfl (bG rfl (bB rfl rfl bZ)))) rfl rfl) hl2 (fun s2 n2 oo2 h2 ho2 => ?_)
     unfold m12o_l3 at h2
     refine XC.seq <| XC.region <| rR rfl rfl rfl (RO.binInt rfl rfl rfl) <| XL.nil <| XQ.seq <| XC.seq ?_
     refine XC.cond (b := (decide (s2.1 < ((nn : Nat) : Int)))) rfl (fun c19 => ?_) (fun c19 => ?_)
     ·
      replace h2 := condT c19 h2
      refine XC.skip <| XQ.seq <| XC.seq <| XC.block <| XC.seq <| XC.region ?_
      refine bindK h2 (fun x20 hx20 h2 => ?_)
      refine guardK h2 (fun g21 h2 => ?_)
      refine rR rfl rfl rfl (RO.indexO (α := Dcl) sl_22 rfl rfl hx20 g21) <| rR rfl rfl rfl (RO.loadOE (α := Dcl) (ys := [dI x20.kind, dS8 x20.name, dI x20.params, dI x20.ty.kind, dI x20.ty.index, dS8 x20.ty.name, dS x20.ty.levels, dS x20.ty.kids, dI x20.value.kind, dI x20.value.index, dS8 x20.value.name, dS x20.value.levels, dS x20.value.kids, dI x20.fixed, dS x20.ctors, dI x20.rcr.params, dI x20.rcr.ty.kind, dI x20.rcr.ty.index, dS8 x20.rcr.ty.name, dS x20.rcr.ty.levels, dS x20.rcr.ty.kids, dS x20.rcr.rules, dS x20.funs]) ag_48 rfl rfl hx20 rfl) <| XL.put rfl rfl (lb rfl) (OpOK.alloc z_48 rfl) <| XL.eff rfl rfl (OpOK.storeCE (x20 : Dcl) ag_48 rfl rfl rfl rfl rfl) <| XL.nil <| XQ.seq <| XC.seq <| XC.region <| rA rfl rfl rfl <| XL.nil <| XQ.seq <| XC.seq <| XC.seq <| XC.region ?_
      refine rR rfl rfl rfl (RO.loadCE (x20 : Dcl) ag_48 rfl rfl) ?_
      refine bindK h2 (fun x22 hx22 h2 => ?_)
      refine XL.put rfl rfl (lb rfl) (OpOK.callFun (m53_ok x20 x22 hx22) rfl (.cons (.agg (.cons (.d _) (.cons (.d _) (.cons (.d _) (.cons (.d _) (.cons (.d _) (.cons (.d _) (.cons (.d _) (.cons (.d _) (.cons (.d _) (.cons (.d _) (.cons (.d _) (.cons (.d _) (.cons (.d _) (.cons (.d _) (.cons (.d _) (.cons (.d _) (.cons (.d _) (.cons (.d _) (.cons (.d _) (.cons (.d _) (.cons (.d _) (.cons (.d _) (.cons (.d _) .nil)))))))))))))))))))))))) .nil)) <| rR rfl rfl rfl (RO.lenE (α := Bs) sl_23 rfl (.d _)) <| rM rfl rfl rfl <| XL.nil <| XQ.seq <| XC.block ?_
      refine XC.joinX 6 (fun (o23 : (List Int)) => ⟨[(2, .v (.one (.ptr 1 0))), (4, .v (.one (.ptr 3 0))), (13, .v (.one (.apv 6 1 ((Enc.encL o23).length) []))), (49, .v (.one (.osl 0 0 nn nn))), (50, .v (.one (dI ((nn : Nat) : Int)))), (51, .v (.one (dI s2.1)))], [(0, .cells 48 (flatE a0)), (1, .cells 72 [dN, .d (.v (.map none))]), (2, .mp (gmE o6.1) o6.2), (3, .cells 72 [dA 4 s2.2, .mp 2]), (5, .cells 48 (cE x20))], [(4, some ⟨54, 1, (Enc.encL s2.2).length, []⟩), (6, some ⟨3, 1, (Enc.encL o23).length, (Enc.encL o23).flatten⟩)], 7, 88, []⟩) (fun (o23 : (List Int)) => (Option.bind (sortF o23) fun (x24 : List Int) =>
        Option.bind (compactF x24 ((Enc.encL o23).length)) fun (x25 : List Int) =>
        guardO (Nat.ble (s2.2.length + ([x25]).length) 1000000000)
        (some (.next ((w64 (s2.1 + 1)), (s2.2 ++ ([x25])))))) = some oo2) ?_ ?_
      ·
       refine XC.adoptT (t := 13) 3 1 rfl <| XC.privT (α := Int) (t := 13) rfl rfl ?_
       refine bindK h2 (fun o24 hl3 h2 => ?_)
       refine XC.loopM (m12o_l2 x22 o6) (fun s3 => ⟨[(2, .v (.one (.ptr 1 0))), (4, .v (.one (.ptr 3 0))), (13, .v (.one (.apv 6 1 ((Enc.encL s3.1).length) []))), (49, .v (.one (.osl 0 0 nn nn))), (50, .v (.one (dI ((nn : Nat) : Int)))), (51, .v (.one (dI s2.1))), (56, .v (.one (dS x22))), (57, .v (.one (dI (x22.length : Int)))), (58, .v (.one (dI s3.2)))], [(0, .cells 48 (flatE a0)), (1, .cells 72 [dN, .d (.v (.map none))]), (2, .mp (gmE o6.1) o6.2), (3, .cells 72 [dA 4 s2.2, .mp 2]), (5, .cells 48 (cE x20))], [(4, some ⟨54, 1, (Enc.encL s2.2).length, []⟩), (6, some ⟨3, 1, (Enc.encL s3.1).length, (Enc.encL s3.1).flatten⟩)], 7, 88, []⟩) (([] : List Int), 0) o24 (stle (tR rfl (tR rfl (tR rfl (tR rfl (tR rfl (tR rfl (tR rfl (tR rfl (tR rfl tZ))))))))) (hR rfl (hR rfl (hR rfl (hR rfl (hR rfl hZ))))) (kR rfl (kR rfl kZ)) rfl (Nat.le_trans hv1 (lb rfl)) rfl rfl rfl (bF rfl (bB rfl rfl (bG rfl (bB rfl rfl (bB rfl rfl bZ))))) rfl rfl) hl3 (fun s3 n3 oo3 h3 ho3 => ?_)
       unfold m12o_l2 at h3
       refine XC.seq <| XC.region <| rR rfl rfl rfl (RO.binInt rfl rfl rfl) <| XL.nil <| XQ.seq <| XC.seq ?_
       refine XC.cond (b := (decide (s3.2 < (x22.length : Int)))) rfl (fun c25 => ?_) (fun c25 => ?_)
       ·
        replace h3 := condT c25 h3
        refine XC.skip <| XQ.seq <| XC.seq <| XC.block <| XC.seq <| XC.region ?_
        refine bindK h3 (fun x26 hx26 h3 => ?_)
        refine rR rfl rfl rfl (RO.indexE (α := Bs) sl_23 rfl (.d _) rfl hx26) <| rR rfl rfl rfl (RO.loadPel ag_9 rfl rfl) <| rA rfl rfl rfl <| XL.nil <| XQ.seq <| XC.seq <| XC.region <| rR rfl rfl rfl (RO.fieldOwn fo_72_1 rfl) <| rR rfl rfl rfl (RO.loadOwn ag_70 rfl rfl rfl) <| rM rfl rfl rfl <| rR rfl rfl rfl (RO.lookupGT (M := o6) (k := x26) mp_70 zok_int rfl rfl rfl) <| rM rfl rfl rfl <| rR rfl rfl rfl (RO.extract rfl rfl) <| rR rfl rfl rfl (RO.extract rfl rfl) ?_
        refine rA rfl rfl rfl <| rA rfl rfl rfl <| XL.nil <| XQ.seq <| XC.seq <| XC.seq <| XC.region <| rM rfl rfl rfl <| rR rfl rfl rfl (RO.not rfl) <| XL.nil <| XQ.seq ?_
        refine XC.cond (b := (!(gmHas o6 x26))) rfl (fun c27 => ?_) (fun c27 => ?_)
        ·
         replace h3 := condT c27 h3
         refine XC.seq <| XC.region <| rR rfl rfl rfl (RO.build0 bd_72 rfl ) <| XL.eff rfl rfl (OpOK.store ag_72 rfl rfl rfl rfl (lb rfl) rfl) <| rA rfl rfl rfl <| XL.nil <| XQ.seq <| XC.ret ?_
         have e_ := Option.some.inj h3
         subst e_
         have e_ : _ = _ := ho3
         subst e_
         try dsimp only [Sum.elim_inl, Sum.elim_inr] at h2
         have e_ := Option.some.inj h2
         subst e_
         have e_ : _ = _ := ho2
         subst e_
         try dsimp only [Sum.elim_inl, Sum.elim_inr] at h1
         have e_ := Option.some.inj h1
         subst e_
         exact hQ1 _ _ _ (.inr rfl) rfl (show StLe _ _ ⟨[(2, .v (.one (.ptr 1 0))), (3, .v (.one (dI 9)))], [(0, .cells 48 (flatE a0)), (1, .cells 72 [dN, .d (.v (.map none))])], [], 7, 88, []⟩ from (stle (tR rfl (tR rfl tZ)) (hR rfl (hR rfl hZ)) kZ rfl (Nat.le_trans hv1 (lb rfl)) rfl rfl rfl (bF rfl (bB rfl rfl bZ)) rfl rfl))
        ·
         replace h3 := condF c27 h3
         refine XC.skip <| XQ.seq <| XC.region <| rM rfl rfl rfl <| rM rfl rfl rfl <| XL.put rfl rfl (lb rfl) (OpOK.lit1E (α := Int) ((gmVal o6 x26)) sl_54 z_3 rfl rfl (lb rfl) (lb rfl) rfl rfl (.cons (.d _) .nil) rfl) ?_
         refine guardK h3 (fun g28 h3 => ?_)
         refine XL.put rfl rfl (lb rfl) (OpOK.appendPr (α := Int) (l := s3.1) (l2 := ([(gmVal o6 x26)] : List Int)) sl_54 el_3 rfl rfl rfl rfl (.app _ _) rfl g28) <| rA rfl rfl rfl <| XL.nil <| XQ.inBlock <| XQ.seq <| XC.region <| rR rfl rfl rfl (RO.binInt rfl rfl rfl) <| rM rfl rfl rfl <| XL.nil ?_
         have e_ := Option.some.inj h3
         subst e_
         refine XQ.nextM ((s3.1 ++ ([(gmVal o6 x26)])), (w64 (s3.2 + 1))) (stle (tR rfl (tR rfl (tR rfl (tR rfl (tR rfl (tR rfl (tR rfl (tR rfl (tR rfl tZ))))))))) (hR rfl (hR rfl (hR rfl (hR rfl (hR rfl hZ))))) (kR rfl (kR rfl kZ)) rfl (Nat.le_trans hv1 (lb rfl)) rfl rfl rfl (bF rfl (bB rfl rfl (bG rfl (bB rfl rfl (bB rfl rfl bZ))))) rfl rfl) ho3
       ·
        replace h3 := condF c25 h3
        refine XC.exit <| XQ.thenE <| XQ.thenE ?_
        have e_ := Option.some.inj h3
        subst e_
        have e_ : _ = _ := ho3
        subst e_
        exact XQ.joinX s3.1 (stle (tR rfl (tR rfl (tR rfl (tR rfl (tR rfl (tR rfl tZ)))))) (hR rfl (hR rfl (hR rfl (hR rfl (hR rfl hZ))))) (kR rfl (kR rfl kZ)) rfl (Nat.le_trans hv1 (lb rfl)) rfl rfl rfl (bF rfl (bB rfl rfl (bG rfl (bB rfl rfl (bB rfl rfl bZ))))) rfl rfl) h2
      ·
       intro o23 h2
       refine XQ.blockX <| XQ.seq <| XC.seq <| XC.region <| rM rfl rfl rfl ?_
       refine bindK h2 (fun x29 hx29 h2 => ?_)
       refine XL.put rfl rfl (lb rfl) (OpOK.callG (hp1' := []) (tk1' := [(6, some ⟨3, 1, (Enc.encL o23).length, (Enc.encL x29).flatten⟩)]) (hpF := [(0, .cells 48 (flatE a0)), (1, .cells 72 [dN, .d (.v (.map none))]), (2, .mp (gmE o6.1) o6.2), (3, .cells 72 [dA 4 s2.2, .mp 2]), (5, .cells 48 (cE x20))]) (tkF := [(4, some ⟨54, 1, (Enc.encL s2.2).length, []⟩)]) (res2 := resOf []) (nx2 := 7) [6] rfl rfl (sortF_ok o23 x29 hx29) rfl rfl qZ rfl rfl gZ (jR rfl jZ) (hR rfl (hR rfl (hR rfl (hR rfl (hR rfl hZ))))) (kR rfl kZ) rfl rfl rfl rfl rfl bZ rfl rfl rfl rfl) <| XL.nil <| XQ.seq ?_
       refine XC.anyRun [3, 5, 7] [(0, 1), (1, 1)] mixed (by kernel_rfl) (by kernel_rfl) (by kernel_rfl) ?_
       refine RunA.rd rfl rfl rfl (OpOK.of_ro (RO.fieldOwn fo_72_0 rfl)) rfl <| RunA.rd rfl rfl rfl (OpOK.of_ro (RO.loadOwn ag_57 rfl rfl rfl)) rfl <| RunA.rd rfl rfl rfl (OpOK.of_ro (RO.move rfl)) rfl ?_
       refine bindK h2 (fun x30 hx30 h2 => ?_)
       refine RunA.eff rfl rfl rfl (OpOK.callG (hp1' := []) (tk1' := [(7, some ⟨3, 1, (Enc.encL x30).length, []⟩)]) (hpF := [(0, .cells 48 (flatE a0)), (1, .cells 72 [dN, .d (.v (.map none))]), (2, .mp (gmE o6.1) o6.2), (3, .cells 72 [dA 4 s2.2, .mp 2]), (5, .cells 48 (cE x20))]) (tkF := [(4, some ⟨54, 1, (Enc.encL s2.2).length, []⟩)]) (res2 := resOf [.one (dA 7 x30)]) (nx2 := 8) [6] rfl rfl (compactF_ok x29 ((Enc.encL o23).length) x30 hx30) rfl rfl qZ rfl rfl gZ (jR rfl jZ) (hR rfl (hR rfl (hR rfl (hR rfl (hR rfl hZ))))) (kR rfl kZ) rfl rfl rfl rfl rfl bZ rfl rfl rfl rfl) rfl <| RunA.rd rfl rfl rfl (OpOK.data1E (α := List Int) (x30) sl_57 z_54 rfl rfl (lb rfl) rfl rfl (.cons (.app _ _ _) .nil) rfl) rfl ?_
       refine guardK h2 (fun g31 h2 => ?_)
       refine RunA.eff rfl rfl rfl (OpOK.appendE (α := List Int) sl_57 el_54 rfl rfl rfl rfl rfl (.d _) g31) rfl <| RunA.rd rfl rfl rfl (OpOK.of_ro (RO.fieldOwn fo_72_0 rfl)) rfl <| RunA.eff rfl rfl rfl (OpOK.store ag_57 rfl rfl rfl rfl (lb rfl) rfl) rfl ?_
       refine RunA.nil ⟨?ex, _, _, rfl, ?_⟩
       case ex => exact ⟨⟨_, rfl, _, _, rfl, rfl, rfl, .inl ⟨rfl, _, OpOK.of_ro (RO.fieldOwn fo_72_0 rfl), rfl⟩⟩, ⟨_, rfl, _, _, rfl, rfl, rfl, .inl ⟨rfl, _, OpOK.of_ro (RO.loadOwn ag_57 rfl rfl rfl), rfl⟩⟩, trivial⟩
       refine XQ.less (st' := ⟨[(2, .v (.one (.ptr 1 0))), (4, .v (.one (.ptr 3 0))), (49, .v (.one (.osl 0 0 nn nn))), (50, .v (.one (dI ((nn : Nat) : Int)))), (51, .v (.one (dI s2.1)))], [(0, .cells 48 (flatE a0)), (1, .cells 72 [dN, .d (.v (.map none))]), (2, .mp (gmE o6.1) o6.2), (3, .cells 72 [dA 4 ((s2.2 ++ ([x30])) : List (List Int)), .mp 2]), (5, .cells 48 (cE x20))], [(4, some ⟨54, 1, (Enc.encL ((s2.2 ++ ([x30])) : List (List Int))).length, []⟩), (7, some ⟨3, 1, (Enc.encL x30).length, []⟩)], 8, 88, []⟩) (stle (tR rfl (tR rfl (tR rfl (tR rfl (tR rfl tZ))))) (hR rfl (hR rfl (hR rfl (hR rfl (hR rfl hZ))))) (kR rfl (kR rfl kZ)) rfl (Nat.le_trans hv1 (lb rfl)) rfl rfl rfl (bF rfl (bB rfl rfl (bG rfl (bB rfl rfl (bB rfl rfl bZ))))) rfl rfl) <| XQ.inBlock <| XQ.seq <| XC.region <| rR rfl rfl rfl (RO.binInt rfl rfl rfl) <| rM rfl rfl rfl <| XL.nil ?_
       have e_ := Option.some.inj h2
       subst e_
       refine XQ.nextM ((w64 (s2.1 + 1)), (s2.2 ++ ([x30]))) (stle (tR rfl (tR rfl (tR rfl (tR rfl (tR rfl tZ))))) (hR rfl (hR rfl (hR rfl (hR rfl hZ)))) (kR rfl kZ) rfl (Nat.le_trans hv1 (lb rfl)) rfl rfl rfl (bF rfl (bB rfl rfl (bG rfl (bB rfl rfl bZ)))) rfl rfl) ho2
     ·
      replace h2 := condF c19 h2
      refine XC.exit <| XQ.thenE <| XQ.thenE ?_
      have e_ := Option.some.inj h2
      subst e_
      have e_ : _ = _ := ho2
      subst e_
      exact XQ.joinX s2.2 (stle (tR rfl (tR rfl tZ)) (hR rfl (hR rfl (hR rfl (hR rfl hZ)))) (kR rfl kZ) rfl (Nat.le_trans hv1 (lb rfl)) rfl rfl rfl (bF rfl (bB rfl rfl (bG rfl (bB rfl rfl bZ)))) rfl rfl) h1
    ·
     intro o17 h1
     refine XQ.blockX <| XQ.seq <| XC.seq <| XC.region <| rR rfl rfl rfl (RO.loadOwnAgg ag_72 rfl rfl rfl rfl) <| XL.eff rfl rfl (OpOK.store ag_72 rfl rfl rfl rfl (lb rfl) rfl) <| rA rfl rfl rfl <| XL.nil <| XQ.seq <| XC.ret ?_
     have e_ := Option.some.inj h1
     subst e_
     exact hQ1 _ _ _ (.inr rfl) rfl (show StLe _ _ ⟨[(2, .v (.one (.ptr 1 0))), (3, .v (.one (dI 0)))], [(0, .cells 48 (flatE a0)), (1, .cells 72 [dA 4 o17, .mp 2]), (2, .mp (gmE o6.1) o6.2)], [(4, some ⟨54, 1, (Enc.encL o17).length, []⟩)], 5, 88, []⟩ from (stle (tR rfl (tR rfl tZ)) (hR rfl (hR rfl (hR rfl hZ))) (kR rfl kZ) rfl (Nat.le_trans hv1 (lb rfl)) rfl rfl rfl (bF rfl (bB rfl rfl (bG rfl bZ))) rfl rfl))
  refine sumK (C := fun q_ => CallM Try.prog 34 [.one (.osl 0 0 nn nn)] ⟨[(0, .cells 48 (flatE a0))], [], 1⟩ (resOf (((Sum.elim (fun (y1 : (List (List Int)) × (GMap Bs Int)) => ([.agg [dA 4 y1.1, .mp 2], .one (dI 0)] : List AV)) (Sum.elim (fun (y2 : Unit) => ([.agg [dN, .d (.v (.map none))], .one (dI 8)] : List AV)) (fun (y3 : Unit) => ([.agg [dN, .d (.v (.map none))], .one (dI 9)] : List AV))))) q_)) ⟨(((Sum.elim (fun (y1 : (List (List Int)) × (GMap Bs Int)) => (⟨[(2, .v (.one (.ptr 1 0))), (3, .v (.one (dI 0)))], [(0, .cells 48 (flatE a0)), (1, .cells 72 [dA 4 y1.1, .mp 2]), (2, .mp (gmE y1.2.1) y1.2.2)], [(4, some ⟨54, 1, (Enc.encL y1.1).length, []⟩)], 5, 88, []⟩ : St)) (Sum.elim (fun (y2 : Unit) => (⟨[(2, .v (.one (.ptr 1 0))), (3, .v (.one (dI 8)))], [(0, .cells 48 (flatE a0)), (1, .cells 72 [dN, .d (.v (.map none))])], [], 5, 88, []⟩ : St)) (fun (y3 : Unit) => (⟨[(2, .v (.one (.ptr 1 0))), (3, .v (.one (dI 9)))], [(0, .cells 48 (flatE a0)), (1, .cells 72 [dN, .d (.v (.map none))])], [], 7, 88, []⟩ : St))))) q_).hp, (((Sum.elim (fun (y1 : (List (List Int)) × (GMap Bs Int)) => (⟨[(2, .v (.one (.ptr 1 0))), (3, .v (.one (dI 0)))], [(0, .cells 48 (flatE a0)), (1, .cells 72 [dA 4 y1.1, .mp 2]), (2, .mp (gmE y1.2.1) y1.2.2)], [(4, some ⟨54, 1, (Enc.encL y1.1).length, []⟩)], 5, 88, []⟩ : St)) (Sum.elim (fun (y2 : Unit) => (⟨[(2, .v (.one (.ptr 1 0))), (3, .v (.one (dI 8)))], [(0, .cells 48 (flatE a0)), (1, .cells 72 [dN, .d (.v (.map none))])], [], 5, 88, []⟩ : St)) (fun (y3 : Unit) => (⟨[(2, .v (.one (.ptr 1 0))), (3, .v (.one (dI 9)))], [(0, .cells 48 (flatE a0)), (1, .cells 72 [dN, .d (.v (.map none))])], [], 7, 88, []⟩ : St))))) q_).tk, (((Sum.elim (fun (y1 : (List (List Int)) × (GMap Bs Int)) => (⟨[(2, .v (.one (.ptr 1 0))), (3, .v (.one (dI 0)))], [(0, .cells 48 (flatE a0)), (1, .cells 72 [dA 4 y1.1, .mp 2]), (2, .mp (gmE y1.2.1) y1.2.2)], [(4, some ⟨54, 1, (Enc.encL y1.1).length, []⟩)], 5, 88, []⟩ : St)) (Sum.elim (fun (y2 : Unit) => (⟨[(2, .v (.one (.ptr 1 0))), (3, .v (.one (dI 8)))], [(0, .cells 48 (flatE a0)), (1, .cells 72 [dN, .d (.v (.map none))])], [], 5, 88, []⟩ : St)) (fun (y3 : Unit) => (⟨[(2, .v (.one (.ptr 1 0))), (3, .v (.one (dI 9)))], [(0, .cells 48 (flatE a0)), (1, .cells 72 [dN, .d (.v (.map none))])], [], 7, 88, []⟩ : St))))) q_).nx⟩) hc4 h0 (fun y1 hc4 h0 => ?_) (fun z_ hc4 h0 => sumK (C := fun q_ => CallM Try.prog 34 [.one (.osl 0 0 nn nn)] ⟨[(0, .cells 48 (flatE a0))], [], 1⟩ (resOf (((Sum.elim (fun (y1 : (List (List Int)) × (GMap Bs Int)) => ([.agg [dA 4 y1.1, .mp 2], .one (dI 0)] : List AV)) (Sum.elim (fun (y2 : Unit) => ([.agg [dN, .d (.v (.map none))], .one (dI 8)] : List AV)) (fun (y3 : Unit) => ([.agg [dN, .d (.v (.map none))], .one (dI 9)] : List AV))))) (.inr q_))) ⟨(((Sum.elim (fun (y1 : (List (List Int)) × (GMap Bs Int)) => (⟨[(2, .v (.one (.ptr 1 0))), (3, .v (.one (dI 0)))], [(0, .cells 48 (flatE a0)), (1, .cells 72 [dA 4 y1.1, .mp 2]), (2, .mp (gmE y1.2.1) y1.2.2)], [(4, some ⟨54, 1, (Enc.encL y1.1).length, []⟩)], 5, 88, []⟩ : St)) (Sum.elim (fun (y2 : Unit) => (⟨[(2, .v (.one (.ptr 1 0))), (3, .v (.one (dI 8)))], [(0, .cells 48 (flatE a0)), (1, .cells 72 [dN, .d (.v (.map none))])], [], 5, 88, []⟩ : St)) (fun (y3 : Unit) => (⟨[(2, .v (.one (.ptr 1 0))), (3, .v (.one (dI 9)))], [(0, .cells 48 (flatE a0)), (1, .cells 72 [dN, .d (.v (.map none))])], [], 7, 88, []⟩ : St))))) (.inr q_)).hp, (((Sum.elim (fun (y1 : (List (List Int)) × (GMap Bs Int)) => (⟨[(2, .v (.one (.ptr 1 0))), (3, .v (.one (dI 0)))], [(0, .cells 48 (flatE a0)), (1, .cells 72 [dA 4 y1.1, .mp 2]), (2, .mp (gmE y1.2.1) y1.2.2)], [(4, some ⟨54, 1, (Enc.encL y1.1).length, []⟩)], 5, 88, []⟩ : St)) (Sum.elim (fun (y2 : Unit) => (⟨[(2, .v (.one (.ptr 1 0))), (3, .v (.one (dI 8)))], [(0, .cells 48 (flatE a0)), (1, .cells 72 [dN, .d (.v (.map none))])], [], 5, 88, []⟩ : St)) (fun (y3 : Unit) => (⟨[(2, .v (.one (.ptr 1 0))), (3, .v (.one (dI 9)))], [(0, .cells 48 (flatE a0)), (1, .cells 72 [dN, .d (.v (.map none))])], [], 7, 88, []⟩ : St))))) (.inr q_)).tk, (((Sum.elim (fun (y1 : (List (List Int)) × (GMap Bs Int)) => (⟨[(2, .v (.one (.ptr 1 0))), (3, .v (.one (dI 0)))], [(0, .cells 48 (flatE a0)), (1, .cells 72 [dA 4 y1.1, .mp 2]), (2, .mp (gmE y1.2.1) y1.2.2)], [(4, some ⟨54, 1, (Enc.encL y1.1).length, []⟩)], 5, 88, []⟩ : St)) (Sum.elim (fun (y2 : Unit) => (⟨[(2, .v (.one (.ptr 1 0))), (3, .v (.one (dI 8)))], [(0, .cells 48 (flatE a0)), (1, .cells 72 [dN, .d (.v (.map none))])], [], 5, 88, []⟩ : St)) (fun (y3 : Unit) => (⟨[(2, .v (.one (.ptr 1 0))), (3, .v (.one (dI 9)))], [(0, .cells 48 (flatE a0)), (1, .cells 72 [dN, .d (.v (.map none))])], [], 7, 88, []⟩ : St))))) (.inr q_)).nx⟩) hc4 h0 (fun y2 hc4 h0 => ?_) (fun y3 hc4 h0 => ?_))
  ·
   replace hc4 : CallM Try.prog 34 [.one (.osl 0 0 nn nn)] ⟨[(0, .cells 48 (flatE a0))], [], 1⟩ (resOf [.agg [dA 4 y1.1, .mp 2], .one (dI 0)]) ⟨[(0, .cells 48 (flatE a0)), (1, .cells 72 [dA 4 y1.1, .mp 2]), (2, .mp (gmE y1.2.1) y1.2.2)], [(4, some ⟨54, 1, (Enc.encL y1.1).length, []⟩)], 5⟩ := hc4
   refine XL.put rfl rfl (lb rfl) (OpOK.callW rfl rfl rfl hc4 rfl (hR rfl hZ) kZ) <| rM rfl rfl rfl <| rR rfl rfl rfl (RO.extract rfl rfl) <| rR rfl rfl rfl (RO.extract rfl rfl) <| XL.put rfl rfl (lb rfl) (OpOK.alloc z_72 rfl) <| XL.eff rfl rfl (OpOK.store ag_72 rfl rfl rfl rfl (lb rfl) rfl) <| rA rfl rfl rfl <| XL.nil <| XQ.seq <| XC.seq <| XC.seq <| XC.region <| rM rfl rfl rfl <| rR rfl rfl rfl (RO.binInt rfl rfl rfl) ?_
   refine XL.nil <| XQ.seq ?_
   refine XC.cond rfl (fun h => nomatch h) (fun _ => ?_)
   refine XC.skip <| XQ.seq <| XC.seq ?_
   refine XC.anyRun [5] [] mixed (by kernel_rfl) (by kernel_rfl) (by kernel_rfl) ?_
   refine RunA.rd rfl rfl rfl (OpOK.of_ro (RO.loadOwnAgg ag_72 rfl rfl rfl rfl)) rfl <| RunA.rd rfl rfl rfl (OpOK.of_ro (RO.fieldOwn fo_72_0 rfl)) rfl <| RunA.rd rfl rfl rfl (OpOK.of_ro (RO.loadOwn ag_57 rfl rfl rfl)) rfl ?_
   refine bindK h0 (fun x32 hx32 h0 => ?_)
   refine RunA.rd rfl rfl rfl (OpOK.callFun (m36_ok y1.1 x32 hx32) rfl (.cons (.one (.app _ _ _)) .nil)) rfl <| RunA.rd rfl rfl rfl (OpOK.of_ro (RO.move rfl)) rfl ?_
   refine bindK h0 (fun y36 h1 h0 => ?_)
   have hc35 : CallM Try.prog 35 [.agg [dA 4 y1.1, .mp 2], .one (dS x32), .one (dS a1)] ⟨[(0, .cells 48 (flatE a0)), (1, .cells 72 [dA 4 y1.1, .mp 2]), (2, .mp (gmE y1.2.1) y1.2.2), (5, .cells 72 [dA 4 y1.1, .mp 2])], [(4, some ⟨54, 1, (Enc.encL y1.1).length, []⟩)], 6⟩ (resOf (((Sum.elim (fun (y33 : Unit) => ([.one (dN), .one (dI 9)] : List AV)) (fun (y34 : (List Bool)) => ([.one (.osl 8 0 ((x32.length : Int).toNat) ((x32.length : Int).toNat)), .one (dI 0)] : List AV)))) y36)) ⟨(((Sum.elim (fun (y33 : Unit) => (⟨[(6, .v (.one (dN))), (7, .v (.one (dI 9)))], [(0, .cells 48 (flatE a0)), (1, .cells 72 [dA 4 y1.1, .mp 2]), (2, .mp (gmE y1.2.1) y1.2.2), (5, .cells 72 [dA 4 y1.1, .mp 2])], [(4, some ⟨54, 1, (Enc.encL y1.1).length, []⟩)], 11, 38, []⟩ : St)) (fun (y34 : (List Bool)) => (⟨[(6, .v (.one (.osl 8 0 ((x32.length : Int).toNat) ((x32.length : Int).toNat)))), (7, .v (.one (dI 0)))], [(0, .cells 48 (flatE a0)), (1, .cells 72 [dA 4 y1.1, .mp 2]), (2, .mp (gmE y1.2.1) y1.2.2), (5, .cells 72 [dA 4 y1.1, .mp 2]), (8, .cells 4 (flatE y34))], [(4, some ⟨54, 1, (Enc.encL y1.1).length, []⟩)], 11, 38, []⟩ : St)))) y36).hp, (((Sum.elim (fun (y33 : Unit) => (⟨[(6, .v (.one (dN))), (7, .v (.one (dI 9)))], [(0, .cells 48 (flatE a0)), (1, .cells 72 [dA 4 y1.1, .mp 2]), (2, .mp (gmE y1.2.1) y1.2.2), (5, .cells 72 [dA 4 y1.1, .mp 2])], [(4, some ⟨54, 1, (Enc.encL y1.1).length, []⟩)], 11, 38, []⟩ : St)) (fun (y34 : (List Bool)) => (⟨[(6, .v (.one (.osl 8 0 ((x32.length : Int).toNat) ((x32.length : Int).toNat)))), (7, .v (.one (dI 0)))], [(0, .cells 48 (flatE a0)), (1, .cells 72 [dA 4 y1.1, .mp 2]), (2, .mp (gmE y1.2.1) y1.2.2), (5, .cells 72 [dA 4 y1.1, .mp 2]), (8, .cells 4 (flatE y34))], [(4, some ⟨54, 1, (Enc.encL y1.1).length, []⟩)], 11, 38, []⟩ : St)))) y36).tk, (((Sum.elim (fun (y33 : Unit) => (⟨[(6, .v (.one (dN))), (7, .v (.one (dI 9)))], [(0, .cells 48 (flatE a0)), (1, .cells 72 [dA 4 y1.1, .mp 2]), (2, .mp (gmE y1.2.1) y1.2.2), (5, .cells 72 [dA 4 y1.1, .mp 2])], [(4, some ⟨54, 1, (Enc.encL y1.1).length, []⟩)], 11, 38, []⟩ : St)) (fun (y34 : (List Bool)) => (⟨[(6, .v (.one (.osl 8 0 ((x32.length : Int).toNat) ((x32.length : Int).toNat)))), (7, .v (.one (dI 0)))], [(0, .cells 48 (flatE a0)), (1, .cells 72 [dA 4 y1.1, .mp 2]), (2, .mp (gmE y1.2.1) y1.2.2), (5, .cells 72 [dA 4 y1.1, .mp 2]), (8, .cells 4 (flatE y34))], [(4, some ⟨54, 1, (Enc.encL y1.1).length, []⟩)], 11, 38, []⟩ : St)))) y36).nx⟩ := by
    refine CallM.of_bodyT y36 ((Sum.elim (fun (y33 : Unit) => (⟨[(6, .v (.one (dN))), (7, .v (.one (dI 9)))], [(0, .cells 48 (flatE a0)), (1, .cells 72 [dA 4 y1.1, .mp 2]), (2, .mp (gmE y1.2.1) y1.2.2), (5, .cells 72 [dA 4 y1.1, .mp 2])], [(4, some ⟨54, 1, (Enc.encL y1.1).length, []⟩)], 11, 38, []⟩ : St)) (fun (y34 : (List Bool)) => (⟨[(6, .v (.one (.osl 8 0 ((x32.length : Int).toNat) ((x32.length : Int).toNat)))), (7, .v (.one (dI 0)))], [(0, .cells 48 (flatE a0)), (1, .cells 72 [dA 4 y1.1, .mp 2]), (2, .mp (gmE y1.2.1) y1.2.2), (5, .cells 72 [dA 4 y1.1, .mp 2]), (8, .cells 4 (flatE y34))], [(4, some ⟨54, 1, (Enc.encL y1.1).length, []⟩)], 11, 38, []⟩ : St)))) ((Sum.elim (fun (y33 : Unit) => ([.one (dN), .one (dI 9)] : List AV)) (fun (y34 : (List Bool)) => ([.one (.osl 8 0 ((x32.length : Int).toNat) ((x32.length : Int).toNat)), .one (dI 0)] : List AV)))) rfl rfl en_35 (lb rfl) (fun z_ => by cases z_ <;> rfl) (fun z_ => by cases z_ with
      | inl _ => exact (RAs.tmp rfl (RAs.tmp rfl .nil))
      | inr _ => exact (RAs.tmp rfl (RAs.tmp rfl .nil))) (fun w0 M V0 Q hv1 hQ1 => ?_)
    simp only [entry]
    refine XC.seq <| XC.region <| XL.put rfl rfl (lb rfl) (OpOK.box rfl) <| XL.put rfl rfl (lb rfl) (OpOK.box rfl) <| rA rfl rfl rfl <| rA rfl rfl rfl <| XL.nil <| XQ.seq <| XC.seq <| XC.region <| rR rfl rfl rfl (RO.loadOwn ag_57 rfl rfl rfl) <| rR rfl rfl rfl (RO.lenE (α := List Int) sl_57 rfl (.d _)) ?_
    refine guardK h1 (fun g37 h1 => ?_)
    refine XL.put rfl rfl (lb rfl) (OpOK.makeO (α := Bool) (z := false) sl_75 z_4 rfl rfl el_4 rfl rfl g37 rfl (by repeat (first | exact CLs.nil | refine CLs.cons (by first | exact .refl _ | exact .sub (.app _ _ _) | exact .sub (.nil _)) ?_))) ?_
    refine XL.put rfl rfl (lb rfl) (OpOK.alloc z_75 rfl) <| XL.eff rfl rfl (OpOK.store ag_75 rfl rfl rfl rfl (lb rfl) rfl) <| XL.nil <| XQ.seq <| XC.seq <| XC.region <| XL.put rfl rfl (lb rfl) (OpOK.alloc z_106 rfl) <| XL.nil <| XQ.seq <| XC.seq <| XC.region <| rR rfl rfl rfl (RO.makeFunc3 rfl rfl rfl) <| XL.eff rfl rfl (OpOK.store ag_106 rfl rfl rfl rfl (lb rfl) rfl) <| XL.nil ?_
    refine XQ.seq <| XC.seq <| XC.seq <| XC.region <| rM rfl rfl rfl <| rR rfl rfl rfl (RO.lenE (α := Bs) sl_23 rfl (.d _)) <| rM rfl rfl rfl <| XL.nil <| XQ.seq <| XC.block ?_
    refine XC.joinX 0 (fun (o38 : (List Bool)) => ⟨[(8, .v (.one (.ptr 9 0)))], [(0, .cells 48 (flatE a0)), (1, .cells 72 [dA 4 y1.1, .mp 2]), (2, .mp (gmE y1.2.1) y1.2.2), (5, .cells 72 [dA 4 y1.1, .mp 2]), (6, .cells 72 [dA 4 y1.1, .mp 2]), (7, .cells 57 [dS x32]), (8, .cells 4 (flatE o38)), (9, .cells 75 [.osl 8 0 ((x32.length : Int).toNat) ((x32.length : Int).toNat)]), (10, .cells 106 [.fn 56 [(9, 0), (7, 0), (10, 0)]])], [(4, some ⟨54, 1, (Enc.encL y1.1).length, []⟩)], 11, 38, []⟩) (fun (o38 : (List Bool)) => (some (.inr o38)) = some y36) ?_ ?_
    ·
     refine bindK h1 (fun o39 hl2 h1 => ?_)
     refine XC.loopM (m12o_l4 a1 y1 x32) (fun s2 => ⟨[(3, .v (.one (.ptr 6 0))), (8, .v (.one (.ptr 9 0))), (9, .v (.one (.ptr 10 0))), (18, .v (.one (dS a1))), (19, .v (.one (dI (a1.length : Int)))), (20, .v (.one (dI s2.1)))], [(0, .cells 48 (flatE a0)), (1, .cells 72 [dA 4 y1.1, .mp 2]), (2, .mp (gmE y1.2.1) y1.2.2), (5, .cells 72 [dA 4 y1.1, .mp 2]), (6, .cells 72 [dA 4 y1.1, .mp 2]), (7, .cells 57 [dS x32]), (8, .cells 4 (flatE s2.2)), (9, .cells 75 [.osl 8 0 ((x32.length : Int).toNat) ((x32.length : Int).toNat)]), (10, .cells 106 [.fn 56 [(9, 0), (7, 0), (10, 0)]])], [(4, some ⟨54, 1, (Enc.encL y1.1).length, []⟩)], 11, 38, []⟩) (0, (List.replicate (x32.length : Int).toNat false)) o39 (stle (tR rfl (tR rfl (tR rfl (tR rfl (tR rfl (tR rfl tZ)))))) (hR rfl (hR rfl (hR rfl (hR rfl (hR rfl (hR rfl (hR rfl (hR rfl (hR rfl hZ))))))))) (kR rfl kZ) rfl (Nat.le_trans hv1 (lb rfl)) rfl rfl rfl (bF rfl (bB rfl rfl (bG rfl (bB rfl rfl (bB rfl rfl (bB rfl rfl (bF rfl (bB rfl rfl (bB rfl rfl bZ))))))))) rfl rfl) hl2 (fun s2 n2 oo2 h2 ho2 => ?_)
     unfold m12o_l4 at h2
     refine XC.seq <| XC.region <| rR rfl rfl rfl (RO.binInt rfl rfl rfl) <| XL.nil <| XQ.seq <| XC.seq ?_
     refine XC.cond (b := (decide (s2.1 < (a1.length : Int)))) rfl (fun c40 => ?_) (fun c40 => ?_)
     ·
      replace h2 := condT c40 h2
      refine XC.skip <| XQ.seq <| XC.seq <| XC.block <| XC.seq <| XC.region ?_
      refine bindK h2 (fun x41 hx41 h2 => ?_)
      refine rR rfl rfl rfl (RO.indexE (α := Bs) sl_23 rfl (.d _) rfl hx41) <| rR rfl rfl rfl (RO.loadPel ag_9 rfl rfl) <| rA rfl rfl rfl <| XL.nil <| XQ.seq <| XC.seq <| XC.region <| rR rfl rfl rfl (RO.fieldOwn fo_72_1 rfl) <| rR rfl rfl rfl (RO.loadOwn ag_70 rfl rfl rfl) <| rM rfl rfl rfl <| rR rfl rfl rfl (RO.lookupGT (M := y1.2) (k := x41) mp_70 zok_int rfl rfl rfl) <| rM rfl rfl rfl <| rR rfl rfl rfl (RO.extract rfl rfl) <| rR rfl rfl rfl (RO.extract rfl rfl) ?_
      refine rA rfl rfl rfl <| rA rfl rfl rfl <| XL.nil <| XQ.seq <| XC.seq <| XC.seq <| XC.region <| rM rfl rfl rfl <| rR rfl rfl rfl (RO.not rfl) <| XL.nil <| XQ.seq ?_
      refine XC.cond (b := (!(gmHas y1.2 x41))) rfl (fun c42 => ?_) (fun c42 => ?_)
      ·
       replace h2 := condT c42 h2
       refine XC.seq <| XC.region <| rA rfl rfl rfl <| rA rfl rfl rfl <| XL.nil <| XQ.seq <| XC.ret ?_
       have e_ := Option.some.inj h2
       subst e_
       have e_ : _ = _ := ho2
       subst e_
       try dsimp only [Sum.elim_inl, Sum.elim_inr] at h1
       have e_ := Option.some.inj h1
       subst e_
       exact hQ1 _ _ _ (.inr rfl) rfl (show StLe _ _ ⟨[(6, .v (.one (dN))), (7, .v (.one (dI 9)))], [(0, .cells 48 (flatE a0)), (1, .cells 72 [dA 4 y1.1, .mp 2]), (2, .mp (gmE y1.2.1) y1.2.2), (5, .cells 72 [dA 4 y1.1, .mp 2])], [(4, some ⟨54, 1, (Enc.encL y1.1).length, []⟩)], 11, 38, []⟩ from (stle (tR rfl (tR rfl tZ)) (hR rfl (hR rfl (hR rfl (hR rfl hZ)))) (kR rfl kZ) rfl (Nat.le_trans hv1 (lb rfl)) rfl rfl rfl (bF rfl (bB rfl rfl (bG rfl (bB rfl rfl bZ)))) rfl rfl))
      ·
       replace h2 := condF c42 h2
       refine XC.skip <| XQ.seq <| XC.region <| rR rfl rfl rfl (RO.loadOwn ag_106 rfl rfl rfl) <| rM rfl rfl rfl ?_
       refine bindK h2 (fun x43 hx43 h2 => ?_)
       refine XL.put rfl rfl (lb rfl) (OpOK.callG (hp1' := [(9, .cells 75 [.osl 8 0 ((x32.length : Int).toNat) ((x32.length : Int).toNat)]), (8, .cells 4 (flatE x43)), (7, .cells 57 [dS x32]), (10, .cells 106 [.fn 56 [(9, 0), (7, 0), (10, 0)]])]) (tk1' := []) (hpF := [(0, .cells 48 (flatE a0)), (1, .cells 72 [dA 4 y1.1, .mp 2]), (2, .mp (gmE y1.2.1) y1.2.2), (5, .cells 72 [dA 4 y1.1, .mp 2]), (6, .cells 72 [dA 4 y1.1, .mp 2])]) (tkF := [(4, some ⟨54, 1, (Enc.encL y1.1).length, []⟩)]) (res2 := resOf []) (nx2 := 11) [9, 8, 7, 10] rfl rfl (m56f12_ok (gmVal y1.2 x41) ((x32.length : Int).toNat) s2.2 x32 x43 hx43) rfl rfl (qB rfl rfl (qF rfl (qB rfl rfl (qB rfl rfl qZ)))) rfl rfl (gR rfl (gF rfl (gR rfl (gR rfl gZ)))) jZ (hR rfl (hR rfl (hR rfl (hR rfl (hR rfl hZ))))) (kR rfl kZ) rfl rfl rfl rfl rfl (bB rfl rfl (bF rfl (bB rfl rfl (bB rfl rfl bZ)))) rfl rfl rfl rfl) <| XL.nil <| XQ.inBlock <| XQ.seq <| XC.region <| rR rfl rfl rfl (RO.binInt rfl rfl rfl) <| rM rfl rfl rfl <| XL.nil ?_
       have e_ := Option.some.inj h2
       subst e_
       refine XQ.nextM ((w64 (s2.1 + 1)), x43) (stle (tR rfl (tR rfl (tR rfl (tR rfl (tR rfl (tR rfl tZ)))))) (hR rfl (hR rfl (hR rfl (hR rfl (hR rfl (hR rfl (hR rfl (hR rfl (hR rfl hZ))))))))) (kR rfl kZ) rfl (Nat.le_trans hv1 (lb rfl)) rfl rfl rfl (bF rfl (bB rfl rfl (bG rfl (bB rfl rfl (bB rfl rfl (bB rfl rfl (bF rfl (bB rfl rfl (bB rfl rfl bZ))))))))) rfl rfl) ho2
     ·
      replace h2 := condF c40 h2
      refine XC.exit <| XQ.thenE <| XQ.thenE ?_
      have e_ := Option.some.inj h2
      subst e_
      have e_ : _ = _ := ho2
      subst e_
      exact XQ.joinX s2.2 (stle (tR rfl tZ) (hR rfl (hR rfl (hR rfl (hR rfl (hR rfl (hR rfl (hR rfl (hR rfl (hR rfl hZ))))))))) (kR rfl kZ) rfl (Nat.le_trans hv1 (lb rfl)) rfl rfl rfl (bF rfl (bB rfl rfl (bG rfl (bB rfl rfl (bB rfl rfl (bB rfl rfl (bF rfl (bB rfl rfl (bB rfl rfl bZ))))))))) rfl rfl) h1
    ·
     intro o38 h1
     refine XQ.blockX <| XQ.seq <| XC.seq <| XC.region <| rR rfl rfl rfl (RO.loadOwn ag_75 rfl rfl rfl) <| rA rfl rfl rfl <| rA rfl rfl rfl <| XL.nil <| XQ.seq <| XC.ret ?_
     have e_ := Option.some.inj h1
     subst e_
     exact hQ1 _ _ _ (.inr rfl) rfl (show StLe _ _ ⟨[(6, .v (.one (.osl 8 0 ((x32.length : Int).toNat) ((x32.length : Int).toNat)))), (7, .v (.one (dI 0)))], [(0, .cells 48 (flatE a0)), (1, .cells 72 [dA 4 y1.1, .mp 2]), (2, .mp (gmE y1.2.1) y1.2.2), (5, .cells 72 [dA 4 y1.1, .mp 2]), (8, .cells 4 (flatE o38))], [(4, some ⟨54, 1, (Enc.encL y1.1).length, []⟩)], 11, 38, []⟩ from (stle (tR rfl (tR rfl tZ)) (hR rfl (hR rfl (hR rfl (hR rfl (hR rfl hZ))))) (kR rfl kZ) rfl (Nat.le_trans hv1 (lb rfl)) rfl rfl rfl (bF rfl (bB rfl rfl (bG rfl (bB rfl rfl (bF rfl bZ))))) rfl rfl))
   refine sumK (C := fun q_ => CallM Try.prog 35 [.agg [dA 4 y1.1, .mp 2], .one (dS x32), .one (dS a1)] ⟨[(0, .cells 48 (flatE a0)), (1, .cells 72 [dA 4 y1.1, .mp 2]), (2, .mp (gmE y1.2.1) y1.2.2), (5, .cells 72 [dA 4 y1.1, .mp 2])], [(4, some ⟨54, 1, (Enc.encL y1.1).length, []⟩)], 6⟩ (resOf (((Sum.elim (fun (y33 : Unit) => ([.one (dN), .one (dI 9)] : List AV)) (fun (y34 : (List Bool)) => ([.one (.osl 8 0 ((x32.length : Int).toNat) ((x32.length : Int).toNat)), .one (dI 0)] : List AV)))) q_)) ⟨(((Sum.elim (fun (y33 : Unit) => (⟨[(6, .v (.one (dN))), (7, .v (.one (dI 9)))], [(0, .cells 48 (flatE a0)), (1, .cells 72 [dA 4 y1.1, .mp 2]), (2, .mp (gmE y1.2.1) y1.2.2), (5, .cells 72 [dA 4 y1.1, .mp 2])], [(4, some ⟨54, 1, (Enc.encL y1.1).length, []⟩)], 11, 38, []⟩ : St)) (fun (y34 : (List Bool)) => (⟨[(6, .v (.one (.osl 8 0 ((x32.length : Int).toNat) ((x32.length : Int).toNat)))), (7, .v (.one (dI 0)))], [(0, .cells 48 (flatE a0)), (1, .cells 72 [dA 4 y1.1, .mp 2]), (2, .mp (gmE y1.2.1) y1.2.2), (5, .cells 72 [dA 4 y1.1, .mp 2]), (8, .cells 4 (flatE y34))], [(4, some ⟨54, 1, (Enc.encL y1.1).length, []⟩)], 11, 38, []⟩ : St)))) q_).hp, (((Sum.elim (fun (y33 : Unit) => (⟨[(6, .v (.one (dN))), (7, .v (.one (dI 9)))], [(0, .cells 48 (flatE a0)), (1, .cells 72 [dA 4 y1.1, .mp 2]), (2, .mp (gmE y1.2.1) y1.2.2), (5, .cells 72 [dA 4 y1.1, .mp 2])], [(4, some ⟨54, 1, (Enc.encL y1.1).length, []⟩)], 11, 38, []⟩ : St)) (fun (y34 : (List Bool)) => (⟨[(6, .v (.one (.osl 8 0 ((x32.length : Int).toNat) ((x32.length : Int).toNat)))), (7, .v (.one (dI 0)))], [(0, .cells 48 (flatE a0)), (1, .cells 72 [dA 4 y1.1, .mp 2]), (2, .mp (gmE y1.2.1) y1.2.2), (5, .cells 72 [dA 4 y1.1, .mp 2]), (8, .cells 4 (flatE y34))], [(4, some ⟨54, 1, (Enc.encL y1.1).length, []⟩)], 11, 38, []⟩ : St)))) q_).tk, (((Sum.elim (fun (y33 : Unit) => (⟨[(6, .v (.one (dN))), (7, .v (.one (dI 9)))], [(0, .cells 48 (flatE a0)), (1, .cells 72 [dA 4 y1.1, .mp 2]), (2, .mp (gmE y1.2.1) y1.2.2), (5, .cells 72 [dA 4 y1.1, .mp 2])], [(4, some ⟨54, 1, (Enc.encL y1.1).length, []⟩)], 11, 38, []⟩ : St)) (fun (y34 : (List Bool)) => (⟨[(6, .v (.one (.osl 8 0 ((x32.length : Int).toNat) ((x32.length : Int).toNat)))), (7, .v (.one (dI 0)))], [(0, .cells 48 (flatE a0)), (1, .cells 72 [dA 4 y1.1, .mp 2]), (2, .mp (gmE y1.2.1) y1.2.2), (5, .cells 72 [dA 4 y1.1, .mp 2]), (8, .cells 4 (flatE y34))], [(4, some ⟨54, 1, (Enc.encL y1.1).length, []⟩)], 11, 38, []⟩ : St)))) q_).nx⟩) hc35 h0 (fun y33 hc35 h0 => ?_) (fun y34 hc35 h0 => ?_)
   ·
    replace hc35 : CallM Try.prog 35 [.agg [dA 4 y1.1, .mp 2], .one (dS x32), .one (dS a1)] ⟨[(0, .cells 48 (flatE a0)), (1, .cells 72 [dA 4 y1.1, .mp 2]), (2, .mp (gmE y1.2.1) y1.2.2), (5, .cells 72 [dA 4 y1.1, .mp 2])], [(4, some ⟨54, 1, (Enc.encL y1.1).length, []⟩)], 6⟩ (resOf [.one (dN), .one (dI 9)]) ⟨[(0, .cells 48 (flatE a0)), (1, .cells 72 [dA 4 y1.1, .mp 2]), (2, .mp (gmE y1.2.1) y1.2.2), (5, .cells 72 [dA 4 y1.1, .mp 2])], [(4, some ⟨54, 1, (Enc.encL y1.1).length, []⟩)], 11⟩ := hc35
    refine RunA.eff rfl rfl rfl (OpOK.callW rfl rfl rfl hc35 rfl (hR rfl (hR rfl (hR rfl (hR rfl hZ)))) (kR rfl kZ)) rfl <| RunA.rd rfl rfl rfl (OpOK.of_ro (RO.move rfl)) rfl <| RunA.rd rfl rfl rfl (OpOK.of_ro (RO.extract rfl rfl)) rfl <| RunA.rd rfl rfl rfl (OpOK.of_ro (RO.extract rfl rfl)) rfl <| RunA.rd rfl rfl rfl (OpOK.of_ro (RO.assign rfl)) rfl <| RunA.rd rfl rfl rfl (OpOK.of_ro (RO.assign rfl)) rfl ?_
    refine RunA.nil ⟨?ex, _, _, rfl, ?_⟩
    case ex => exact trivial
    refine XQ.less (st' := ⟨[(0, .v (.one (.osl 0 0 nn nn))), (7, .v (.one (dI 9))), (8, .v (.one (dN)))], [(0, .cells 48 (flatE a0)), (1, .cells 72 [dA 4 y1.1, .mp 2]), (2, .mp (gmE y1.2.1) y1.2.2), (5, .cells 72 [dA 4 y1.1, .mp 2])], [(4, some ⟨54, 1, (Enc.encL y1.1).length, []⟩)], 11, 49, []⟩) (stle (tR rfl (tR rfl (tR rfl tZ))) (hR rfl (hR rfl (hR rfl (hR rfl hZ)))) (kR rfl kZ) rfl (Nat.le_trans hv0 (lb rfl)) rfl rfl rfl (bF rfl (bB rfl rfl (bG rfl (bB rfl rfl bZ)))) rfl rfl) <| XQ.seq <| XC.seq <| XC.seq <| XC.region <| rM rfl rfl rfl <| rR rfl rfl rfl (RO.binInt rfl rfl rfl) <| XL.nil <| XQ.seq ?_
    refine XC.cond rfl (fun _ => ?_) (fun h => nomatch h)
    refine XC.seq <| XC.region <| rM rfl rfl rfl <| rA rfl rfl rfl <| rA rfl rfl rfl <| XL.nil <| XQ.seq <| XC.ret ?_
    have e_ := Option.some.inj h0
    subst e_
    exact hQ0 _ _ _ (.inr rfl) rfl (stle (tC rfl (.sub (.nil _)) (tR rfl tZ)) (hR rfl hZ) kZ rfl (Nat.le_trans hv0 (lb rfl)) rfl rfl rfl (bF rfl bZ) rfl rfl)
   ·
    replace hc35 : CallM Try.prog 35 [.agg [dA 4 y1.1, .mp 2], .one (dS x32), .one (dS a1)] ⟨[(0, .cells 48 (flatE a0)), (1, .cells 72 [dA 4 y1.1, .mp 2]), (2, .mp (gmE y1.2.1) y1.2.2), (5, .cells 72 [dA 4 y1.1, .mp 2])], [(4, some ⟨54, 1, (Enc.encL y1.1).length, []⟩)], 6⟩ (resOf [.one (.osl 8 0 ((x32.length : Int).toNat) ((x32.length : Int).toNat)), .one (dI 0)]) ⟨[(0, .cells 48 (flatE a0)), (1, .cells 72 [dA 4 y1.1, .mp 2]), (2, .mp (gmE y1.2.1) y1.2.2), (5, .cells 72 [dA 4 y1.1, .mp 2]), (8, .cells 4 (flatE y34))], [(4, some ⟨54, 1, (Enc.encL y1.1).length, []⟩)], 11⟩ := hc35
    refine RunA.eff rfl rfl rfl (OpOK.callW rfl rfl rfl hc35 rfl (hR rfl (hR rfl (hR rfl (hR rfl hZ)))) (kR rfl kZ)) rfl <| RunA.rd rfl rfl rfl (OpOK.of_ro (RO.move rfl)) rfl <| RunA.rd rfl rfl rfl (OpOK.of_ro (RO.extract rfl rfl)) rfl <| RunA.rd rfl rfl rfl (OpOK.of_ro (RO.extract rfl rfl)) rfl <| RunA.rd rfl rfl rfl (OpOK.of_ro (RO.assign rfl)) rfl <| RunA.rd rfl rfl rfl (OpOK.of_ro (RO.assign rfl)) rfl ?_
    refine RunA.nil ⟨?ex, _, _, rfl, ?_⟩
    case ex => exact trivial
    refine XQ.less (st' := ⟨[(0, .v (.one (.osl 0 0 nn nn))), (7, .v (.one (dI 0))), (8, .v (.one (.osl 8 0 ((x32.length : Int).toNat) ((x32.length : Int).toNat))))], [(0, .cells 48 (flatE a0)), (1, .cells 72 [dA 4 y1.1, .mp 2]), (2, .mp (gmE y1.2.1) y1.2.2), (5, .cells 72 [dA 4 y1.1, .mp 2]), (8, .cells 4 (flatE y34))], [(4, some ⟨54, 1, (Enc.encL y1.1).length, []⟩)], 11, 49, []⟩) (stle (tR rfl (tR rfl (tR rfl tZ))) (hR rfl (hR rfl (hR rfl (hR rfl (hR rfl hZ))))) (kR rfl kZ) rfl (Nat.le_trans hv0 (lb rfl)) rfl rfl rfl (bF rfl (bB rfl rfl (bG rfl (bB rfl rfl (bF rfl bZ))))) rfl rfl) <| XQ.seq <| XC.seq <| XC.seq <| XC.region <| rM rfl rfl rfl <| rR rfl rfl rfl (RO.binInt rfl rfl rfl) <| XL.nil <| XQ.seq ?_
    refine XC.cond rfl (fun h => nomatch h) (fun _ => ?_)
    refine XC.skip <| XQ.seq <| XC.seq <| XC.region <| rA rfl rfl rfl <| XL.nil <| XQ.seq <| XC.seq <| XC.seq <| XC.region <| rM rfl rfl rfl <| rR rfl rfl rfl (RO.lenOsl sl_22 rfl) <| rM rfl rfl rfl <| XL.nil ?_
    refine XQ.seq <| XC.block ?_
    refine XC.joinX 0 (fun (o44 : (List Bs)) => ⟨[(9, .v (.one (dA 11 o44)))], [(0, .cells 48 (flatE a0)), (1, .cells 72 [dA 4 y1.1, .mp 2]), (2, .mp (gmE y1.2.1) y1.2.2), (5, .cells 72 [dA 4 y1.1, .mp 2]), (8, .cells 4 (flatE y34))], [(4, some ⟨54, 1, (Enc.encL y1.1).length, []⟩), (11, some ⟨9, 1, (Enc.encL o44).length, []⟩)], 12, 49, []⟩) (fun (o44 : (List Bs)) => (some (o44, 0)) = some r) ?_ ?_
    ·
     refine XC.adoptT (t := 9) 9 1 rfl ?_
     refine bindK h0 (fun o45 hl1 h0 => ?_)
     refine XC.loopM (m12o_l5 nn a0 y34 x32) (fun s1 => ⟨[(8, .v (.one (.osl 8 0 ((x32.length : Int).toNat) ((x32.length : Int).toNat)))), (9, .v (.one (dA 11 s1.1))), (32, .v (.one (.osl 0 0 nn nn))), (33, .v (.one (dI ((nn : Nat) : Int)))), (34, .v (.one (dI s1.2)))], [(0, .cells 48 (flatE a0)), (1, .cells 72 [dA 4 y1.1, .mp 2]), (2, .mp (gmE y1.2.1) y1.2.2), (5, .cells 72 [dA 4 y1.1, .mp 2]), (8, .cells 4 (flatE y34))], [(4, some ⟨54, 1, (Enc.encL y1.1).length, []⟩), (11, some ⟨9, 1, (Enc.encL s1.1).length, []⟩)], 12, 49, []⟩) (([] : List Bs), 0) o45 (stle (tR rfl (tR rfl (tR rfl (tR rfl (tR rfl tZ))))) (hR rfl (hR rfl (hR rfl (hR rfl (hR rfl hZ))))) (kR rfl (kR rfl kZ)) rfl (Nat.le_trans hv0 (lb rfl)) rfl rfl rfl (bF rfl (bB rfl rfl (bG rfl (bB rfl rfl (bF rfl bZ))))) rfl rfl) hl1 (fun s1 n1 oo1 h1 ho1 => ?_)
     unfold m12o_l5 at h1
     refine XC.seq <| XC.region <| rR rfl rfl rfl (RO.binInt rfl rfl rfl) <| XL.nil <| XQ.seq <| XC.seq ?_
     refine XC.cond (b := (decide (s1.2 < ((nn : Nat) : Int)))) rfl (fun c46 => ?_) (fun c46 => ?_)
     ·
      replace h1 := condT c46 h1
      refine XC.skip <| XQ.seq <| XC.seq <| XC.block <| XC.seq <| XC.region <| rM rfl rfl rfl ?_
      refine bindK h1 (fun x47 hx47 h1 => ?_)
      refine guardK h1 (fun g48 h1 => ?_)
      refine rR rfl rfl rfl (RO.indexO (α := Dcl) sl_22 rfl rfl hx47 g48) <| rR rfl rfl rfl (RO.loadOE (α := Dcl) (ys := [dI x47.kind, dS8 x47.name, dI x47.params, dI x47.ty.kind, dI x47.ty.index, dS8 x47.ty.name, dS x47.ty.levels, dS x47.ty.kids, dI x47.value.kind, dI x47.value.index, dS8 x47.value.name, dS x47.value.levels, dS x47.value.kids, dI x47.fixed, dS x47.ctors, dI x47.rcr.params, dI x47.rcr.ty.kind, dI x47.rcr.ty.index, dS8 x47.rcr.ty.name, dS x47.rcr.ty.levels, dS x47.rcr.ty.kids, dS x47.rcr.rules, dS x47.funs]) ag_48 rfl rfl hx47 rfl) <| XL.put rfl rfl (lb rfl) (OpOK.alloc z_48 rfl) <| rA rfl rfl rfl <| XL.eff rfl rfl (OpOK.storeCE (x47 : Dcl) ag_48 rfl rfl rfl rfl rfl) <| XL.nil <| XQ.seq <| XC.seq <| XC.region <| rM rfl rfl rfl <| rM rfl rfl rfl ?_
      refine bindK h1 (fun x49 hx49 h1 => ?_)
      refine guardK h1 (fun g50 h1 => ?_)
      refine rR rfl rfl rfl (RO.indexO (α := Bool) sl_75 rfl rfl hx49 g50) <| rR rfl rfl rfl (RO.loadOF (α := Bool) (m := s1.2) (f := 0) ag_4 rfl rfl hx49 rfl) <| XL.nil <| XQ.seq ?_
      refine XC.cond (b := x49) rfl (fun c51 => ?_) (fun c51 => ?_)
      ·
       replace h1 := condT c51 h1
       refine XC.region <| rM rfl rfl rfl <| rR rfl rfl rfl (RO.loadCE (x47 : Dcl) ag_48 rfl rfl) ?_
       refine bindK h1 (fun x52 hx52 h1 => ?_)
       refine XL.put rfl rfl (lb rfl) (OpOK.callFun (m37_ok x47 x52 hx52) rfl (.cons (.agg (.cons (.d _) (.cons (.d _) (.cons (.d _) (.cons (.d _) (.cons (.d _) (.cons (.d _) (.cons (.d _) (.cons (.d _) (.cons (.d _) (.cons (.d _) (.cons (.d _) (.cons (.d _) (.cons (.d _) (.cons (.d _) (.cons (.d _) (.cons (.d _) (.cons (.d _) (.cons (.d _) (.cons (.d _) (.cons (.d _) (.cons (.d _) (.cons (.d _) (.cons (.d _) .nil)))))))))))))))))))))))) .nil)) ?_
       refine guardK h1 (fun g53 h1 => ?_)
       refine XL.put rfl rfl (lb rfl) (OpOK.appendE (α := Bs) sl_23 el_9 rfl rfl rfl rfl rfl (.d _) g53) <| rA rfl rfl rfl <| XL.nil <| XQ.inBlock <| XQ.seq <| XC.region <| rR rfl rfl rfl (RO.binInt rfl rfl rfl) <| rM rfl rfl rfl <| XL.nil ?_
       have e_ := Option.some.inj h1
       subst e_
       refine XQ.nextM ((s1.1 ++ x52), (w64 (s1.2 + 1))) (stle (tR rfl (tR rfl (tR rfl (tR rfl (tR rfl tZ))))) (hR rfl (hR rfl (hR rfl (hR rfl (hR rfl hZ))))) (kR rfl (kR rfl kZ)) rfl (Nat.le_trans hv0 (lb rfl)) rfl rfl rfl (bF rfl (bB rfl rfl (bG rfl (bB rfl rfl (bF rfl bZ))))) rfl rfl) ho1
      ·
       replace h1 := condF c51 h1
       refine XC.skip <| XQ.inBlock <| XQ.seq <| XC.region <| rR rfl rfl rfl (RO.binInt rfl rfl rfl) <| rM rfl rfl rfl <| XL.nil ?_
       have e_ := Option.some.inj h1
       subst e_
       refine XQ.nextM (s1.1, (w64 (s1.2 + 1))) (stle (tR rfl (tR rfl (tR rfl (tR rfl (tR rfl tZ))))) (hR rfl (hR rfl (hR rfl (hR rfl (hR rfl hZ))))) (kR rfl (kR rfl kZ)) rfl (Nat.le_trans hv0 (lb rfl)) rfl rfl rfl (bF rfl (bB rfl rfl (bG rfl (bB rfl rfl (bF rfl bZ))))) rfl rfl) ho1
     ·
      replace h1 := condF c46 h1
      refine XC.exit <| XQ.thenE <| XQ.thenE ?_
      have e_ := Option.some.inj h1
      subst e_
      have e_ : _ = _ := ho1
      subst e_
      exact XQ.joinX s1.1 (stle (tR rfl tZ) (hR rfl (hR rfl (hR rfl (hR rfl (hR rfl hZ))))) (kR rfl (kR rfl kZ)) rfl (Nat.le_trans hv0 (lb rfl)) rfl rfl rfl (bF rfl (bB rfl rfl (bG rfl (bB rfl rfl (bF rfl bZ))))) rfl rfl) h0
    ·
     intro o44 h0
     refine XQ.blockX <| XQ.seq <| XC.seq <| XC.region <| rM rfl rfl rfl <| rA rfl rfl rfl <| rA rfl rfl rfl <| XL.nil <| XQ.seq <| XC.ret ?_
     have e_ := Option.some.inj h0
     subst e_
     exact hQ0 _ _ _ (.inr rfl) rfl (stle (tC rfl (.sub (.app _ _ _)) (tR rfl tZ)) (hR rfl hZ) kZ rfl (Nat.le_trans hv0 (lb rfl)) rfl rfl rfl (bF rfl bZ) rfl rfl)
  ·
   replace hc4 : CallM Try.prog 34 [.one (.osl 0 0 nn nn)] ⟨[(0, .cells 48 (flatE a0))], [], 1⟩ (resOf [.agg [dN, .d (.v (.map none))], .one (dI 8)]) ⟨[(0, .cells 48 (flatE a0)), (1, .cells 72 [dN, .d (.v (.map none))])], [], 5⟩ := hc4
   refine XL.put rfl rfl (lb rfl) (OpOK.callW rfl rfl rfl hc4 rfl (hR rfl hZ) kZ) <| rM rfl rfl rfl <| rR rfl rfl rfl (RO.extract rfl rfl) <| rR rfl rfl rfl (RO.extract rfl rfl) <| XL.put rfl rfl (lb rfl) (OpOK.alloc z_72 rfl) <| XL.eff rfl rfl (OpOK.store ag_72 rfl rfl rfl rfl (lb rfl) rfl) <| rA rfl rfl rfl <| XL.nil <| XQ.seq <| XC.seq <| XC.seq <| XC.region <| rM rfl rfl rfl <| rR rfl rfl rfl (RO.binInt rfl rfl rfl) ?_
   refine XL.nil <| XQ.seq ?_
   refine XC.cond rfl (fun _ => ?_) (fun h => nomatch h)
   refine XC.seq <| XC.region <| rM rfl rfl rfl <| rA rfl rfl rfl <| rA rfl rfl rfl <| XL.nil <| XQ.seq <| XC.ret ?_
   have e_ := Option.some.inj h0
   subst e_
   exact hQ0 _ _ _ (.inr rfl) rfl (stle (tC rfl (.sub (.nil _)) (tR rfl tZ)) (hR rfl hZ) kZ rfl (Nat.le_trans hv0 (lb rfl)) rfl rfl rfl (bF rfl bZ) rfl rfl)
  ·
   replace hc4 : CallM Try.prog 34 [.one (.osl 0 0 nn nn)] ⟨[(0, .cells 48 (flatE a0))], [], 1⟩ (resOf [.agg [dN, .d (.v (.map none))], .one (dI 9)]) ⟨[(0, .cells 48 (flatE a0)), (1, .cells 72 [dN, .d (.v (.map none))])], [], 7⟩ := hc4
   refine XL.put rfl rfl (lb rfl) (OpOK.callW rfl rfl rfl hc4 rfl (hR rfl hZ) kZ) <| rM rfl rfl rfl <| rR rfl rfl rfl (RO.extract rfl rfl) <| rR rfl rfl rfl (RO.extract rfl rfl) <| XL.put rfl rfl (lb rfl) (OpOK.alloc z_72 rfl) <| XL.eff rfl rfl (OpOK.store ag_72 rfl rfl rfl rfl (lb rfl) rfl) <| rA rfl rfl rfl <| XL.nil <| XQ.seq <| XC.seq <| XC.seq <| XC.region <| rM rfl rfl rfl <| rR rfl rfl rfl (RO.binInt rfl rfl rfl) ?_
   refine XL.nil <| XQ.seq ?_
   refine XC.cond rfl (fun _ => ?_) (fun h => nomatch h)
   refine XC.seq <| XC.region <| rM rfl rfl rfl <| rA rfl rfl rfl <| rA rfl rfl rfl <| XL.nil <| XQ.seq <| XC.ret ?_
   have e_ := Option.some.inj h0
   subst e_
   exact hQ0 _ _ _ (.inr rfl) rfl (stle (tC rfl (.sub (.nil _)) (tR rfl tZ)) (hR rfl hZ) kZ rfl (Nat.le_trans hv0 (lb rfl)) rfl rfl rfl (bF rfl bZ) rfl rfl)
end Go.Proofs.Ytijcchddnnnmdaa
namespace Go.Proofs.Ytijcchddnnnmdaa
open Go.RowKit Go.Shelf
set_option linter.unusedSimpArgs false
set_option linter.unusedVariables false
theorem en_14 : Enters Try.prog 14 := enters_of Try.func14 (by kernel_rfl) rfl
def m14_l0 (a0 : List Bs) (a1 : List Bs) (s1 : Int) : Option (LO Int (Unit ⊕ Bool)) :=
  cond (decide (s1 < (a0.length : Int)))
    (Option.bind (idx a0 s1) fun (x4 : Bs) =>
  Option.bind (idx a1 s1) fun (x5 : Bs) =>
  cond (!(x4 == x5))
    (some (.done (.inr false)))
    (some (.next (w64 (s1 + 1)))))
    (some (.done (.inl ())))
def m14 (a0 : List Bs) (a1 : List Bs) : Option Bool :=
  cond ((a0.length : Int) != (a1.length : Int))
    (some false)
    (Option.bind (loopN (m14_l0 a0 a1) FUEL 0) (Sum.elim (fun (o2 : Unit) => some true) (fun o => some o)))
set_option maxRecDepth 100000 in
set_option maxHeartbeats 2000000 in
theorem m14_ok (a0 : List Bs) (a1 : List Bs) (r : Bool) (h0 : m14 a0 a1 = some r) : Fun Try.prog 14 [.one (dS a0), .one (dS a1)] (resOf [.one (dB r)]) := by
  unfold m14 at h0
  refine Fun.of_bodyM 9 26 Try.func14 rfl en_14 rfl (lb rfl) (fun S w => ?_)
  simp only [entry]
  refine XC.seq <| XC.region <| rA rfl rfl rfl <| XL.nil <| XQ.seq <| XC.seq <| XC.seq <| XC.region <| rM rfl rfl rfl <| rR rfl rfl rfl (RO.lenE (α := Bs) sl_23 rfl (.d _)) <| rM rfl rfl rfl <| rR rfl rfl rfl (RO.lenE (α := Bs) sl_23 rfl (.d _)) <| rR rfl rfl rfl (RO.binInt rfl rfl rfl) <| XL.nil ?_
  refine XQ.seq ?_
  refine XC.cond (b := ((a0.length : Int) != (a1.length : Int))) rfl (fun c1 => ?_) (fun c1 => ?_)
  ·
   replace h0 := condT c1 h0
   refine XC.seq <| XC.region <| rA rfl rfl rfl <| XL.nil <| XQ.seq <| XC.ret ?_
   have e_ := Option.some.inj h0
   subst e_
   exact XQ.retF (fun _ _ h => h) rfl (RAs.tmp rfl .nil) (.cons (.one (.d _)) .nil)
  ·
   replace h0 := condF c1 h0
   refine XC.skip <| XQ.seq <| XC.seq <| XC.seq <| XC.region <| rM rfl rfl rfl <| rR rfl rfl rfl (RO.lenE (α := Bs) sl_23 rfl (.d _)) <| rM rfl rfl rfl <| XL.nil <| XQ.seq <| XC.block ?_
   refine XC.joinX 0 (fun (o2 : Unit) => ⟨[], [], [], 0, 26, []⟩) (fun (o2 : Unit) => (some true) = some r) ?_ ?_
   ·
    refine bindK h0 (fun o3 hl1 h0 => ?_)
    refine XC.loopM (m14_l0 a0 a1) (fun s1 => ⟨[(0, .v (.one (dS a0))), (1, .v (.one (dS a1))), (12, .v (.one (dI (a0.length : Int)))), (13, .v (.one (dI s1)))], [], [], 0, 26, []⟩) 0 o3 (stle (tR rfl (tR rfl (tR rfl (tR rfl tZ)))) hZ kZ rfl (Nat.zero_le _) rfl rfl rfl bZ rfl rfl) hl1 (fun s1 n1 oo1 h1 ho1 => ?_)
    unfold m14_l0 at h1
    refine XC.seq <| XC.region <| rR rfl rfl rfl (RO.binInt rfl rfl rfl) <| XL.nil <| XQ.seq <| XC.seq ?_
    refine XC.cond (b := (decide (s1 < (a0.length : Int)))) rfl (fun c4 => ?_) (fun c4 => ?_)
    ·
     replace h1 := condT c4 h1
     refine XC.skip <| XQ.seq <| XC.seq <| XC.block <| XC.seq <| XC.region <| rM rfl rfl rfl <| rA rfl rfl rfl <| XL.nil <| XQ.seq <| XC.seq ?_
     refine XC.anyRun [] [] mixed (by kernel_rfl) (by kernel_rfl) (by kernel_rfl) ?_
     refine RunA.rd rfl rfl rfl (OpOK.of_ro (RO.move rfl)) rfl <| RunA.rd rfl rfl rfl (OpOK.of_ro (RO.move rfl)) rfl ?_
     refine bindK h1 (fun x5 hx5 h1 => ?_)
     refine RunA.rd rfl rfl rfl (OpOK.of_ro (RO.indexE (α := Bs) sl_23 rfl (.d _) rfl hx5)) rfl <| RunA.rd rfl rfl rfl (OpOK.of_ro (RO.loadPel ag_9 rfl rfl)) rfl <| RunA.rd rfl rfl rfl (OpOK.of_ro (RO.move rfl)) rfl <| RunA.rd rfl rfl rfl (OpOK.of_ro (RO.move rfl)) rfl ?_
     refine bindK h1 (fun x6 hx6 h1 => ?_)
     refine RunA.rd rfl rfl rfl (OpOK.of_ro (RO.indexE (α := Bs) sl_23 rfl (.d _) rfl hx6)) rfl <| RunA.rd rfl rfl rfl (OpOK.of_ro (RO.loadPel ag_9 rfl rfl)) rfl <| RunA.rd rfl rfl rfl (OpOK.of_ro (RO.neS rfl rfl)) rfl ?_
     refine RunA.nil ⟨?ex, _, _, rfl, ?_⟩
     case ex => exact trivial
     refine XQ.less (st' := ⟨[(0, .v (.one (dS a0))), (1, .v (.one (dS a1))), (12, .v (.one (dI (a0.length : Int)))), (13, .v (.one (dI s1))), (24, .v (.one (dB (!(x5 == x6)))))], [], [], 0, 26, []⟩) (stle (tR rfl (tR rfl (tR rfl (tR rfl (tR rfl tZ))))) hZ kZ rfl (Nat.zero_le _) rfl rfl rfl bZ rfl rfl) <| XQ.seq ?_
     refine XC.cond (b := (!(x5 == x6))) rfl (fun c7 => ?_) (fun c7 => ?_)
     ·
      replace h1 := condT c7 h1
      refine XC.seq <| XC.region <| rA rfl rfl rfl <| XL.nil <| XQ.seq <| XC.ret ?_
      have e_ := Option.some.inj h1
      subst e_
      have e_ : _ = _ := ho1
      subst e_
      try dsimp only [Sum.elim_inl, Sum.elim_inr] at h0
      have e_ := Option.some.inj h0
      subst e_
      exact XQ.retF (fun _ _ h => h) rfl (RAs.tmp rfl .nil) (.cons (.one (.d _)) .nil)
     ·
      replace h1 := condF c7 h1
      refine XC.skip <| XQ.inBlock <| XQ.seq <| XC.region <| rR rfl rfl rfl (RO.binInt rfl rfl rfl) <| rM rfl rfl rfl <| XL.nil ?_
      have e_ := Option.some.inj h1
      subst e_
      refine XQ.nextM (w64 (s1 + 1)) (stle (tR rfl (tR rfl (tR rfl (tR rfl tZ)))) hZ kZ rfl (Nat.zero_le _) rfl rfl rfl bZ rfl rfl) ho1
    ·
     replace h1 := condF c4 h1
     refine XC.exit <| XQ.thenE <| XQ.thenE ?_
     have e_ := Option.some.inj h1
     subst e_
     have e_ : _ = _ := ho1
     subst e_
     exact XQ.joinX () (stle tZ hZ kZ rfl (Nat.zero_le _) rfl rfl rfl bZ rfl rfl) h0
   ·
    intro o2 h0
    refine XQ.blockX <| XQ.seq <| XC.seq <| XC.region <| rA rfl rfl rfl <| XL.nil <| XQ.seq <| XC.ret ?_
    have e_ := Option.some.inj h0
    subst e_
    exact XQ.retF (fun _ _ h => h) rfl (RAs.tmp rfl .nil) (.cons (.one (.d _)) .nil)
end Go.Proofs.Ytijcchddnnnmdaa
namespace Go.Proofs.Ytijcchddnnnmdaa
open Go.RowKit
set_option linter.unusedSimpArgs false
set_option linter.unusedVariables false
set_option linter.unusedSectionVars false
section
variable {E : Env} {st : St} {d : Option Tmp} {ty : TypeId} {pos : String} {af : Array Edge} {g : Option (Nat × Bool)}
theorem OpOK.litO3 {α : Type} [Enc α] [EncLen α] (v1 v2 v3 : α) {t e : Nat} {zs : List Value} {o1 o2 o3 : Operand} {x1 x2 x3 : AV} {ys : List CA} (ht : tySlice E.P t = some (e, Enc.sz α)) (hze : tyZero E.P e = some zs) (hzl : zs.length = Enc.sz α) (hz : zs.all (·.oneCell') = true) (hlen : 3 * Enc.sz α ≤ 16777216)
    (h1 : ev st.tm o1 = some (.v x1)) (h2 : ev st.tm o2 = some (.v x2)) (h3 : ev st.tm o3 = some (.v x3)) (hf : fillL (rowPlaces (Enc.sz α) 3) (zeroRow zs 3) [(0, x1), (1, x2), (2, x3)] = some ys) (hs : CLs ys (flatE [v1, v2, v3])) :
    OpOK E ⟨d, .buildSlice t 3 #[(0, o1), (1, o2), (2, o3)], ty, pos, af, g⟩ st (.v (.one (.osl st.nx 0 3 3))) ⟨(st.nx, .cells e (flatE [v1, v2, v3])) :: st.hp, st.tk, st.nx + 1⟩ := by
  have ok := OpOK.litOsl (E := E) (st := st) (dd := d) (ty := ty) (pos := pos) (af := af) (g := g) (len := 3) (avs := [(0, x1), (1, x2), (2, x3)]) (parts := #[(0, o1), (1, o2), (2, o3)]) ht hze hzl hz hlen rfl (fun j i x hx => by
    match j, hx with
    | 0, hx => cases hx; exact ⟨o1, rfl, h1⟩
    | 1, hx => cases hx; exact ⟨o2, rfl, h2⟩
    | 2, hx => cases hx; exact ⟨o3, rfl, h3⟩) hf
  intro V a w hr ro n K Q hK
  refine ok V a w hr ro n K Q (fun V' w' v H hnx L hx => ?_)
  exact hK V' w' v (H.swapLe (.cells hs)) hnx L hx
theorem OpOK.storeOP {α : Type} [Enc α] [EncLen α] (l' : List α) {t n i off : Nat} {ag : Bool} {T : TypeId} {o1 o2 : Operand} {y y' : AV} {l : List α} (ht : tyAgg E.P t = some (ag, n)) (h1 : ev st.tm o1 = some (.v (.one (.ptr i off)))) (h2 : ev st.tm o2 = some (.v y)) (hs : ASub y y') (hn : y'.cells.length = n)
    (hi : lk st.hp i = some (.cells T (flatE l))) (hoff : Nat.ble (off + n) (l.length * Enc.sz α) = true) (e : setL (flatE l) off y'.cells = flatE l') (hdd : d = none) :
    OpOK E ⟨d, .store t o1 o2, ty, pos, af, g⟩ st (.tup []) ⟨(i, .cells T (flatE l')) :: dropK i st.hp, st.tk, st.nx⟩ := by
  have := OpOK.storeS (E := E) (st := st) (dd := d) (ty := ty) (pos := pos) (af := af) (g := g) ht h1 h2 hs hi hn (by rw [flatE_len]; exact Nat.le_of_ble_eq_true hoff) hdd
  rw [e] at this; exact this
theorem OpOK.data6E {α : Type} [Enc α] (v1 v2 v3 v4 v5 v6 : α) {t e : Nat} {zs : List Value} {o1 o2 o3 o4 o5 o6 : Operand} {x1 x2 x3 x4 x5 x6 : AV} {ys : List CA} (ht : tySlice E.P t = some (e, Enc.sz α)) (hze : tyZero E.P e = some zs) (hzl : zs.length = Enc.sz α) (hz : zs.all (·.oneCell') = true) (hlen : 6 * Enc.sz α ≤ 16777216)
    (h1 : ev st.tm o1 = some (.v x1)) (h2 : ev st.tm o2 = some (.v x2)) (h3 : ev st.tm o3 = some (.v x3)) (h4 : ev st.tm o4 = some (.v x4)) (h5 : ev st.tm o5 = some (.v x5)) (h6 : ev st.tm o6 = some (.v x6)) (hf : fillL (rowPlaces (Enc.sz α) 6) (zeroRow zs 6) [(0, x1), (1, x2), (2, x3), (3, x4), (4, x5), (5, x6)] = some ys) (hs : CSubs ys (Enc.enc v1 ++ (Enc.enc v2 ++ (Enc.enc v3 ++ (Enc.enc v4 ++ (Enc.enc v5 ++ (Enc.enc v6))))))) (hel : (Enc.enc v1).length = Enc.sz α ∧ (Enc.enc v2).length = Enc.sz α ∧ (Enc.enc v3).length = Enc.sz α ∧ (Enc.enc v4).length = Enc.sz α ∧ (Enc.enc v5).length = Enc.sz α ∧ (Enc.enc v6).length = Enc.sz α) :
    OpOK E ⟨d, .buildSlice t 6 #[(0, o1), (1, o2), (2, o3), (3, o4), (4, o5), (5, o6)], ty, pos, af, g⟩ st (.v (.one (.d (.sl (Enc.sz α) (Enc.encL [v1, v2, v3, v4, v5, v6]))))) ⟨st.hp, st.tk, st.nx⟩ :=
  OpOK.litData (avs := [(0, x1), (1, x2), (2, x3), (3, x4), (4, x5), (5, x6)]) (Enc.encL [v1, v2, v3, v4, v5, v6]) ht hze hzl hz hlen rfl (fun j i x hx => by
    match j, hx with
    | 0, hx => cases hx; exact ⟨o1, rfl, h1⟩
    | 1, hx => cases hx; exact ⟨o2, rfl, h2⟩
    | 2, hx => cases hx; exact ⟨o3, rfl, h3⟩
    | 3, hx => cases hx; exact ⟨o4, rfl, h4⟩
    | 4, hx => cases hx; exact ⟨o5, rfl, h5⟩
    | 5, hx => cases hx; exact ⟨o6, rfl, h6⟩) hf (by rw [Enc.cons, Enc.cons, Enc.cons, Enc.cons, Enc.cons, Enc.one]; simpa using hs) (fun x hx => by
      rw [Enc.cons, Enc.cons, Enc.cons, Enc.cons, Enc.cons, Enc.one] at hx; simp at hx
      rcases hx with rfl | rfl | rfl | rfl | rfl | rfl
      · exact hel.1
      · exact hel.2.1
      · exact hel.2.2.1
      · exact hel.2.2.2.1
      · exact hel.2.2.2.2.1
      · exact hel.2.2.2.2.2) (by rw [Enc.len]; rfl)
end
end Go.Proofs.Ytijcchddnnnmdaa
