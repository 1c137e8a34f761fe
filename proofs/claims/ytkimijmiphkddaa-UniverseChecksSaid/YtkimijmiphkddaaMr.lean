/- Mirrors of layer 2: raise. -/
import Derived.Test.YtkimijmiphkddaaMq
namespace Go.Proofs.Ytkimijmiphkddaa
open Go.RowKit Go.Shelf
set_option linter.unusedSimpArgs false
set_option linter.unusedVariables false

theorem ag_4 : tyAgg Try.prog 4 = some (false, 1) := by kernel_rfl
theorem ag_25 : tyAgg Try.prog 25 = some (false, 1) := by kernel_rfl
theorem ag_31 : tyAgg Try.prog 31 = some (false, 1) := by kernel_rfl
theorem z_4 : tyZero Try.prog 4 = some [.bool false] := by kernel_rfl
theorem z_25 : tyZero Try.prog 25 = some [.int .i64 0] := by kernel_rfl
theorem en_31 : Enters Try.prog 31 := enters_of Try.func31 (by kernel_rfl) rfl
theorem en_40 : Enters Try.prog 40 := enters_of Try.func40 (by kernel_rfl) rfl
theorem en_62 : Enters Try.prog 62 := enters_of Try.func62 (by kernel_rfl) rfl
noncomputable def m31o_c0 : Code := (cA (cA (cB (cA (cB (cB (cB (cB (bodyC Try.f31)))))))))

noncomputable def m31o_c1 : Code := (cB (cA (cB (cA (cB (cB (cB (cB (bodyC Try.f31)))))))))

def m31o_l0 (x1 : Int × Int × (List LV)) (a1 : Bnd) (nn : Nat) (s2 : Int × (List Lvl) × Bool) : Option (LO (Int × (List Lvl) × Bool) (((List Lvl) × Bool) ⊕ (((List Lvl) × Bool) ⊕ ((List Lvl) × Bool)))) :=
  cond (decide (s2.1 < (x1.2.2.length : Int)))
    (Option.bind (idx x1.2.2 s2.1) fun (x13 : LV) =>
  Option.bind (Option.bind (m48o a1.hi s2.2.1 nn) fun (x19 : Int × Int × (List LV)) =>
  cond (x19.1 != 0)
    (some (.inr ()))
    (guardO ((cond (Nat.ble (⟨0, [x13]⟩ : Lvl).vs.length 100000) (Nat.ble (⟨x19.2.1, x19.2.2⟩ : Lvl).vs.length 100000) false))
  (cond (leqB (⟨0, [x13]⟩ : Lvl) (⟨x19.2.1, x19.2.2⟩ : Lvl))
    (some (.inl (s2.2.1, s2.2.2)))
    (Option.bind (m54 a1.hi) fun (x23 : Int × Int) =>
  cond (decide (x23.1 < 0))
    (some (.inr ()))
    (Option.bind (idx s2.2.1 x23.1) fun (x25 : Lvl) =>
  guardO (Nat.beq s2.2.1.length nn)
  (Option.bind (m56 (⟨0, [x13]⟩ : Lvl) x23.2) fun (x27 : Lvl) =>
  Option.bind (m55 x25 x27) fun (x28 : Lvl × Int) =>
  cond (x28.2 != 0)
    (some (.inr ()))
    (Option.bind (idx s2.2.1 x23.1) fun (x30 : Lvl) =>
  guardO (Nat.beq s2.2.1.length nn)
  (some (.inl ((s2.2.1.set x23.1.toNat x28.1), true)))))))))) (Sum.elim (fun (y14 : (List Lvl) × Bool) => some (.next ((w64 (s2.1 + 1)), y14.1, y14.2))) (fun (y15 : Unit) => some (.done (.inr (.inr (s2.2.1, s2.2.2)))))))
    (some (.done (.inl (s2.2.1, s2.2.2))))

/-- euclid/universe.raise, its slice lent -/
def m31o (a0 : List Lvl) (a1 : Bnd) (nn : Nat) : Option ((List Lvl) × Bool × Int) :=
  Option.bind (m48o a1.lo a0 nn) fun (x1 : Int × Int × (List LV)) =>
  cond (x1.1 != 0)
    (some (a0, false, 15))
    (Option.bind (some ()) (fun (y3 : Unit) => Option.bind (Option.bind (cond (decide (0 < x1.2.1))
    (Option.bind (Option.bind (m48o a1.hi a0 nn) fun (x17 : Int × Int × (List LV)) =>
  cond (x17.1 != 0)
    (some (.inr ()))
    (guardO ((cond (Nat.ble (⟨x1.2.1, ([] : List LV)⟩ : Lvl).vs.length 100000) (Nat.ble (⟨x17.2.1, x17.2.2⟩ : Lvl).vs.length 100000) false))
  (cond (leqB (⟨x1.2.1, ([] : List LV)⟩ : Lvl) (⟨x17.2.1, x17.2.2⟩ : Lvl))
    (some (.inl (a0, false)))
    (Option.bind (m54 a1.hi) fun (x21 : Int × Int) =>
  cond (decide (x21.1 < 0))
    (some (.inr ()))
    (Option.bind (idx a0 x21.1) fun (x23 : Lvl) =>
  guardO (Nat.beq a0.length nn)
  (Option.bind (m56 (⟨x1.2.1, ([] : List LV)⟩ : Lvl) x21.2) fun (x25 : Lvl) =>
  Option.bind (m55 x23 x25) fun (x26 : Lvl × Int) =>
  cond (x26.2 != 0)
    (some (.inr ()))
    (Option.bind (idx a0 x21.1) fun (x28 : Lvl) =>
  guardO (Nat.beq a0.length nn)
  (some (.inl ((a0.set x21.1.toNat x26.1), true)))))))))) (Sum.elim (fun (y12 : (List Lvl) × Bool) => some (.inl (y12.1, y12.2))) (fun (y13 : Unit) => some (.inr ()))))
    (cond ((x1.2.2.length : Int) == 0)
    (Option.bind (Option.bind (m48o a1.hi a0 nn) fun (x36 : Int × Int × (List LV)) =>
  cond (x36.1 != 0)
    (some (.inr ()))
    (guardO ((cond (Nat.ble (⟨x1.2.1, ([] : List LV)⟩ : Lvl).vs.length 100000) (Nat.ble (⟨x36.2.1, x36.2.2⟩ : Lvl).vs.length 100000) false))
  (cond (leqB (⟨x1.2.1, ([] : List LV)⟩ : Lvl) (⟨x36.2.1, x36.2.2⟩ : Lvl))
    (some (.inl (a0, false)))
    (Option.bind (m54 a1.hi) fun (x40 : Int × Int) =>
  cond (decide (x40.1 < 0))
    (some (.inr ()))
    (Option.bind (idx a0 x40.1) fun (x42 : Lvl) =>
  guardO (Nat.beq a0.length nn)
  (Option.bind (m56 (⟨x1.2.1, ([] : List LV)⟩ : Lvl) x40.2) fun (x44 : Lvl) =>
  Option.bind (m55 x42 x44) fun (x45 : Lvl × Int) =>
  cond (x45.2 != 0)
    (some (.inr ()))
    (Option.bind (idx a0 x40.1) fun (x47 : Lvl) =>
  guardO (Nat.beq a0.length nn)
  (some (.inl ((a0.set x40.1.toNat x45.1), true)))))))))) (Sum.elim (fun (y31 : (List Lvl) × Bool) => some (.inl (y31.1, y31.2))) (fun (y32 : Unit) => some (.inr ()))))
    (some (.inl (a0, false))))) (Sum.elim (fun (v9 : (List Lvl) × Bool) => Option.bind (loopN (m31o_l0 x1 a1 nn) FUEL (0, v9.1, v9.2)) (Sum.elim (fun (o11 : (List Lvl) × Bool) => some (.inl (o11.1, o11.2))) (fun o => some o))) (fun (v10 : Unit) => some (.inr (a0, false))))) (Sum.elim (fun (y5 : (List Lvl) × Bool) => some (y5.1, y5.2, 0)) (fun (y6 : (List Lvl) × Bool) => some (y6.1, false, 15)))))

set_option maxRecDepth 100000 in
set_option maxHeartbeats 8000000 in
theorem m31o_ok (a0 : List Lvl) (a1 : Bnd) (nn : Nat) (r : (List Lvl) × Bool × Int) (h0 : m31o a0 a1 nn = some r) : CallM Try.prog 31 [.one (.osl 0 0 nn nn), .agg (cE a1)] ⟨[(0, .cells 39 (flatE a0))], [], 1⟩ (resOf [.one (dB r.2.1), .one (dI r.2.2)]) ⟨[(0, .cells 39 (flatE r.1)), (3, .cells 4 [dB r.2.1]), (4, .cells 25 [dI r.2.2])], [], 6⟩ := by
  unfold m31o at h0
  refine CallM.of_bodyD ⟨[(4, .v (.one (.ptr 3 0))), (5, .v (.one (.ptr 4 0)))], [(0, .cells 39 (flatE r.1)), (3, .cells 4 [dB r.2.1]), (4, .cells 25 [dI r.2.2])], [], 6, 65, []⟩ rfl rfl en_31 (lb rfl) rfl (RAs.cell ag_4 rfl rfl rfl (RAs.cell ag_25 rfl rfl rfl .nil)) (fun w0 M V0 Q hv0 hQ0 => ?_)
  simp only [entry]
  refine XC.seq ?_
  refine XC.region ?_
  refine XL.put rfl rfl (lb rfl) (OpOK.box rfl) ?_
  refine XL.put rfl rfl (lb rfl) (OpOK.box rfl) ?_
  refine XL.put rfl rfl (lb rfl) (OpOK.alloc z_4 rfl) ?_
  refine XL.put rfl rfl (lb rfl) (OpOK.alloc z_25 rfl) ?_
  refine XL.nil ?_
  refine XQ.seq ?_
  refine XC.seq ?_
  refine XC.region ?_
  refine XL.rd rfl rfl (lb rfl) (RO.fieldOwn fo_41_0 rfl) ?_
  refine XL.rd rfl rfl (lb rfl) (RO.loadOwnAgg ag_39 rfl rfl rfl rfl) ?_
  refine XL.rd rfl rfl (lb rfl) (RO.loadOwn ag_31 rfl rfl rfl) ?_
  refine bindK h0 (fun x1 hx1 h0 => ?_)
  refine XL.put rfl rfl (lb rfl) (OpOK.callO (b := 0) (m48o_ok a1.lo a0 nn x1 hx1) rfl (.agg (.cons (.d _) (.cons (.d _) .nil)) (.osl .nil)) rfl rfl rfl) ?_
  refine XL.rd rfl rfl (lb rfl) (RO.move rfl) ?_
  refine XL.rd rfl rfl (lb rfl) (RO.extract rfl rfl) ?_
  refine XL.rd rfl rfl (lb rfl) (RO.extract rfl rfl) ?_
  refine XL.put rfl rfl (lb rfl) (OpOK.alloc z_39 rfl) ?_
  refine XL.eff rfl rfl (OpOK.store ag_39 rfl rfl rfl rfl (lb rfl) rfl) ?_
  refine XL.rd rfl rfl (lb rfl) (RO.assign rfl) ?_
  refine XL.nil ?_
  refine XQ.seq ?_
  refine XC.seq ?_
  refine XC.seq ?_
  refine XC.region ?_
  refine XL.rd rfl rfl (lb rfl) (RO.move rfl) ?_
  refine XL.rd rfl rfl (lb rfl) (RO.binInt rfl rfl rfl) ?_
  refine XL.nil ?_
  refine XQ.seq ?_
  refine XC.cond (b := (x1.1 != 0)) rfl (fun c2 => ?_) (fun c2 => ?_)
  ·
   replace h0 := condT c2 h0
   refine XC.seq ?_
   refine XC.region ?_
   refine XL.eff rfl rfl (OpOK.store ag_4 rfl rfl rfl rfl (lb rfl) rfl) ?_
   refine XL.eff rfl rfl (OpOK.store ag_25 rfl rfl rfl rfl (lb rfl) rfl) ?_
   refine XL.nil ?_
   refine XQ.seq ?_
   refine XC.ret ?_
   have e_ := Option.some.inj h0
   subst e_
   exact hQ0 _ _ _ (.inr rfl) rfl (stle (tR rfl (tR rfl tZ)) (hR rfl (hR rfl (hR rfl hZ))) kZ rfl (Nat.le_trans hv0 (lb rfl)) rfl rfl rfl (bF rfl (bB rfl rfl (bB rfl rfl bZ))) rfl rfl)
  ·
   replace h0 := condF c2 h0
   refine XC.skip ?_
   refine XQ.seq ?_
   refine XC.seq ?_
   refine XC.region ?_
   refine XL.put rfl rfl (lb rfl) (OpOK.alloc z_4 rfl) ?_
   refine XL.eff rfl rfl (OpOK.store ag_4 rfl rfl rfl rfl (lb rfl) rfl) ?_
   refine XL.nil ?_
   refine XQ.seq ?_
   refine XC.seq ?_
   refine XC.seq ?_
   refine XC.region ?_
   refine XL.rd rfl rfl (lb rfl) (RO.loadOwnAgg ag_39 rfl rfl rfl rfl) ?_
   refine bindK h0 (fun y3 h1 h0 => ?_)
   have hc4 : CallM Try.prog 40 [.agg [dI x1.2.1, dS x1.2.2]] ⟨[(0, .cells 39 (flatE a0)), (1, .cells 31 [.osl 0 0 nn nn]), (2, .cells 41 (cE a1)), (3, .cells 4 [dB false]), (4, .cells 25 [dI 0]), (5, .cells 39 [dI x1.2.1, dS x1.2.2]), (6, .cells 4 [dB false])], [], 7⟩ (resOf [.one (.fn 62 [(7, 0)])]) ⟨[(0, .cells 39 (flatE a0)), (1, .cells 31 [.osl 0 0 nn nn]), (2, .cells 41 (cE a1)), (3, .cells 4 [dB false]), (4, .cells 25 [dI 0]), (5, .cells 39 [dI x1.2.1, dS x1.2.2]), (6, .cells 4 [dB false]), (7, .cells 39 [dI x1.2.1, dS x1.2.2])], [], 8⟩ := by
    refine CallM.of_bodyD ⟨[(2, .v (.one (.fn 62 [(7, 0)])))], [(0, .cells 39 (flatE a0)), (1, .cells 31 [.osl 0 0 nn nn]), (2, .cells 41 (cE a1)), (3, .cells 4 [dB false]), (4, .cells 25 [dI 0]), (5, .cells 39 [dI x1.2.1, dS x1.2.2]), (6, .cells 4 [dB false]), (7, .cells 39 [dI x1.2.1, dS x1.2.2])], [], 8, 4, []⟩ rfl rfl en_40 (lb rfl) rfl (RAs.tmp rfl .nil) (fun w0 M V0 Q hv1 hQ1 => ?_)
    simp only [entry]
    refine XC.seq ?_
    refine XC.region ?_
    refine XL.put rfl rfl (lb rfl) (OpOK.box rfl) ?_
    refine XL.rd rfl rfl (lb rfl) (RO.assign rfl) ?_
    refine XL.nil ?_
    refine XQ.seq ?_
    refine XC.seq ?_
    refine XC.region ?_
    refine XL.rd rfl rfl (lb rfl) (RO.makeFunc1 rfl) ?_
    refine XL.rd rfl rfl (lb rfl) (RO.assign rfl) ?_
    refine XL.nil ?_
    refine XQ.seq ?_
    refine XC.ret ?_
    have e_ := Option.some.inj h1
    subst e_
    exact hQ1 _ _ _ (.inr rfl) rfl (stle (tR rfl tZ) (hR rfl (hR rfl (hR rfl (hR rfl (hR rfl (hR rfl (hR rfl (hR rfl hZ)))))))) kZ rfl (Nat.le_trans hv1 (lb rfl)) rfl rfl rfl (bF rfl (bB rfl rfl (bB rfl rfl (bB rfl rfl (bB rfl rfl (bB rfl rfl (bB rfl rfl (bB rfl rfl bZ)))))))) rfl rfl)
   refine XL.put rfl rfl (lb rfl) (OpOK.callW rfl rfl rfl hc4 rfl (hR rfl (hR rfl (hR rfl (hR rfl (hR rfl (hR rfl (hR rfl hZ))))))) kZ) ?_
   refine XL.nil ?_
   refine XQ.seq ?_
   refine XC.block ?_
   refine XC.less (st' := ⟨[(2, .v (.one (.ptr 1 0))), (3, .v (.one (.ptr 2 0))), (4, .v (.one (.ptr 3 0))), (5, .v (.one (.ptr 4 0))), (8, .v (.one (.ptr 6 0))), (25, .v (.one (.fn 62 [(7, 0)])))], [(0, .cells 39 (flatE a0)), (1, .cells 31 [.osl 0 0 nn nn]), (2, .cells 41 (cE a1)), (3, .cells 4 [dB false]), (4, .cells 25 [dI 0]), (5, .cells 39 [dI x1.2.1, dS x1.2.2]), (6, .cells 4 [dB false]), (7, .cells 39 [dI x1.2.1, dS x1.2.2])], [], 8, 65, []⟩) (stle (tR rfl (tR rfl (tR rfl (tR rfl (tR rfl (tR rfl tZ)))))) (hR rfl (hR rfl (hR rfl (hR rfl (hR rfl (hR rfl (hR rfl (hR rfl hZ)))))))) kZ rfl (Nat.le_trans hv0 (lb rfl)) rfl rfl rfl (bF rfl (bB rfl rfl (bB rfl rfl (bB rfl rfl (bB rfl rfl (bB rfl rfl (bB rfl rfl (bB rfl rfl bZ)))))))) rfl rfl) ?_
   refine bindK h0 (fun y8 h1 h0 => ?_)
   have hc7 : CallM Try.prog 62 [.one (.yld 9), .one (.ptr 7 0)] ⟨[(9, .loop .ready none [(2, .v (.one (.ptr 1 0))), (3, .v (.one (.ptr 2 0))), (4, .v (.one (.ptr 3 0))), (5, .v (.one (.ptr 4 0))), (8, .v (.one (.ptr 6 0))), (25, .v (.one (.fn 62 [(7, 0)])))] 65 #[26] m31o_c0 m31o_c1 8), (8, .obj (.deferred (some []))), (0, .cells 39 (flatE a0)), (1, .cells 31 [.osl 0 0 nn nn]), (2, .cells 41 (cE a1)), (3, .cells 4 [dB false]), (4, .cells 25 [dI 0]), (5, .cells 39 [dI x1.2.1, dS x1.2.2]), (6, .cells 4 [dB false]), (7, .cells 39 [dI x1.2.1, dS x1.2.2])], [], 10⟩ (resOf []) ⟨(((Sum.elim (fun (y5 : (List Lvl) × Bool) => (⟨[], [(0, .cells 39 (flatE y5.1)), (1, .cells 31 [.osl 0 0 nn nn]), (2, .cells 41 (cE a1)), (3, .cells 4 [dB false]), (4, .cells 25 [dI 0]), (5, .cells 39 [dI x1.2.1, dS x1.2.2]), (6, .cells 4 [dB y5.2]), (7, .cells 39 [dI x1.2.1, dS x1.2.2]), (8, .obj (.deferred (some []))), (9, .loop .ready none [(2, .v (.one (.ptr 1 0))), (3, .v (.one (.ptr 2 0))), (4, .v (.one (.ptr 3 0))), (5, .v (.one (.ptr 4 0))), (8, .v (.one (.ptr 6 0))), (25, .v (.one (.fn 62 [(7, 0)])))] 65 #[26] m31o_c0 m31o_c1 8)], [], 10, 36, []⟩ : St)) (fun (y6 : (List Lvl) × Bool) => (⟨[], [(0, .cells 39 (flatE y6.1)), (1, .cells 31 [.osl 0 0 nn nn]), (2, .cells 41 (cE a1)), (3, .cells 4 [dB false]), (4, .cells 25 [dI 15]), (5, .cells 39 [dI x1.2.1, dS x1.2.2]), (6, .cells 4 [dB y6.2]), (7, .cells 39 [dI x1.2.1, dS x1.2.2]), (8, .obj (.deferred (some []))), (9, .loop .done (some .ret) [(2, .v (.one (.ptr 1 0))), (3, .v (.one (.ptr 2 0))), (4, .v (.one (.ptr 3 0))), (5, .v (.one (.ptr 4 0))), (8, .v (.one (.ptr 6 0))), (25, .v (.one (.fn 62 [(7, 0)])))] 65 #[26] m31o_c0 m31o_c1 8)], [], 12, 36, []⟩ : St)))) y8).hp, (((Sum.elim (fun (y5 : (List Lvl) × Bool) => (⟨[], [(0, .cells 39 (flatE y5.1)), (1, .cells 31 [.osl 0 0 nn nn]), (2, .cells 41 (cE a1)), (3, .cells 4 [dB false]), (4, .cells 25 [dI 0]), (5, .cells 39 [dI x1.2.1, dS x1.2.2]), (6, .cells 4 [dB y5.2]), (7, .cells 39 [dI x1.2.1, dS x1.2.2]), (8, .obj (.deferred (some []))), (9, .loop .ready none [(2, .v (.one (.ptr 1 0))), (3, .v (.one (.ptr 2 0))), (4, .v (.one (.ptr 3 0))), (5, .v (.one (.ptr 4 0))), (8, .v (.one (.ptr 6 0))), (25, .v (.one (.fn 62 [(7, 0)])))] 65 #[26] m31o_c0 m31o_c1 8)], [], 10, 36, []⟩ : St)) (fun (y6 : (List Lvl) × Bool) => (⟨[], [(0, .cells 39 (flatE y6.1)), (1, .cells 31 [.osl 0 0 nn nn]), (2, .cells 41 (cE a1)), (3, .cells 4 [dB false]), (4, .cells 25 [dI 15]), (5, .cells 39 [dI x1.2.1, dS x1.2.2]), (6, .cells 4 [dB y6.2]), (7, .cells 39 [dI x1.2.1, dS x1.2.2]), (8, .obj (.deferred (some []))), (9, .loop .done (some .ret) [(2, .v (.one (.ptr 1 0))), (3, .v (.one (.ptr 2 0))), (4, .v (.one (.ptr 3 0))), (5, .v (.one (.ptr 4 0))), (8, .v (.one (.ptr 6 0))), (25, .v (.one (.fn 62 [(7, 0)])))] 65 #[26] m31o_c0 m31o_c1 8)], [], 12, 36, []⟩ : St)))) y8).tk, (((Sum.elim (fun (y5 : (List Lvl) × Bool) => (⟨[], [(0, .cells 39 (flatE y5.1)), (1, .cells 31 [.osl 0 0 nn nn]), (2, .cells 41 (cE a1)), (3, .cells 4 [dB false]), (4, .cells 25 [dI 0]), (5, .cells 39 [dI x1.2.1, dS x1.2.2]), (6, .cells 4 [dB y5.2]), (7, .cells 39 [dI x1.2.1, dS x1.2.2]), (8, .obj (.deferred (some []))), (9, .loop .ready none [(2, .v (.one (.ptr 1 0))), (3, .v (.one (.ptr 2 0))), (4, .v (.one (.ptr 3 0))), (5, .v (.one (.ptr 4 0))), (8, .v (.one (.ptr 6 0))), (25, .v (.one (.fn 62 [(7, 0)])))] 65 #[26] m31o_c0 m31o_c1 8)], [], 10, 36, []⟩ : St)) (fun (y6 : (List Lvl) × Bool) => (⟨[], [(0, .cells 39 (flatE y6.1)), (1, .cells 31 [.osl 0 0 nn nn]), (2, .cells 41 (cE a1)), (3, .cells 4 [dB false]), (4, .cells 25 [dI 15]), (5, .cells 39 [dI x1.2.1, dS x1.2.2]), (6, .cells 4 [dB y6.2]), (7, .cells 39 [dI x1.2.1, dS x1.2.2]), (8, .obj (.deferred (some []))), (9, .loop .done (some .ret) [(2, .v (.one (.ptr 1 0))), (3, .v (.one (.ptr 2 0))), (4, .v (.one (.ptr 3 0))), (5, .v (.one (.ptr 4 0))), (8, .v (.one (.ptr 6 0))), (25, .v (.one (.fn 62 [(7, 0)])))] 65 #[26] m31o_c0 m31o_c1 8)], [], 12, 36, []⟩ : St)))) y8).nx⟩ := by
    refine CallM.of_bodyS y8 ((Sum.elim (fun (y5 : (List Lvl) × Bool) => (⟨[], [(0, .cells 39 (flatE y5.1)), (1, .cells 31 [.osl 0 0 nn nn]), (2, .cells 41 (cE a1)), (3, .cells 4 [dB false]), (4, .cells 25 [dI 0]), (5, .cells 39 [dI x1.2.1, dS x1.2.2]), (6, .cells 4 [dB y5.2]), (7, .cells 39 [dI x1.2.1, dS x1.2.2]), (8, .obj (.deferred (some []))), (9, .loop .ready none [(2, .v (.one (.ptr 1 0))), (3, .v (.one (.ptr 2 0))), (4, .v (.one (.ptr 3 0))), (5, .v (.one (.ptr 4 0))), (8, .v (.one (.ptr 6 0))), (25, .v (.one (.fn 62 [(7, 0)])))] 65 #[26] m31o_c0 m31o_c1 8)], [], 10, 36, []⟩ : St)) (fun (y6 : (List Lvl) × Bool) => (⟨[], [(0, .cells 39 (flatE y6.1)), (1, .cells 31 [.osl 0 0 nn nn]), (2, .cells 41 (cE a1)), (3, .cells 4 [dB false]), (4, .cells 25 [dI 15]), (5, .cells 39 [dI x1.2.1, dS x1.2.2]), (6, .cells 4 [dB y6.2]), (7, .cells 39 [dI x1.2.1, dS x1.2.2]), (8, .obj (.deferred (some []))), (9, .loop .done (some .ret) [(2, .v (.one (.ptr 1 0))), (3, .v (.one (.ptr 2 0))), (4, .v (.one (.ptr 3 0))), (5, .v (.one (.ptr 4 0))), (8, .v (.one (.ptr 6 0))), (25, .v (.one (.fn 62 [(7, 0)])))] 65 #[26] m31o_c0 m31o_c1 8)], [], 12, 36, []⟩ : St)))) rfl rfl en_62 (lb rfl) (fun z_ => by cases z_ <;> rfl) (fun z_ => .nil) (fun w0 M V0 Q hv1 hQ1 => ?_)
    simp only [entry]
    refine XC.seq ?_
    refine XC.seq ?_
    refine XC.joinR2 (fun (v9 : (List Lvl) × Bool) => ⟨[(0, .v (.one (.yld 9))), (1, .v (.one (.ptr 7 0))), (21, .v (.one (dB false)))], [(0, .cells 39 (flatE v9.1)), (1, .cells 31 [.osl 0 0 nn nn]), (2, .cells 41 (cE a1)), (3, .cells 4 [dB false]), (4, .cells 25 [dI 0]), (5, .cells 39 [dI x1.2.1, dS x1.2.2]), (6, .cells 4 [dB v9.2]), (7, .cells 39 [dI x1.2.1, dS x1.2.2]), (8, .obj (.deferred (some []))), (9, .loop .ready none [(2, .v (.one (.ptr 1 0))), (3, .v (.one (.ptr 2 0))), (4, .v (.one (.ptr 3 0))), (5, .v (.one (.ptr 4 0))), (8, .v (.one (.ptr 6 0))), (25, .v (.one (.fn 62 [(7, 0)])))] 65 #[26] m31o_c0 m31o_c1 8)], [], 10, 36, []⟩) (fun (v10 : Unit) => ⟨[(0, .v (.one (.yld 9))), (1, .v (.one (.ptr 7 0))), (21, .v (.one (dB true)))], [(0, .cells 39 (flatE a0)), (1, .cells 31 [.osl 0 0 nn nn]), (2, .cells 41 (cE a1)), (3, .cells 4 [dB false]), (4, .cells 25 [dI 15]), (5, .cells 39 [dI x1.2.1, dS x1.2.2]), (6, .cells 4 [dB false]), (7, .cells 39 [dI x1.2.1, dS x1.2.2]), (8, .obj (.deferred (some []))), (9, .loop .done (some .ret) [(2, .v (.one (.ptr 1 0))), (3, .v (.one (.ptr 2 0))), (4, .v (.one (.ptr 3 0))), (5, .v (.one (.ptr 4 0))), (8, .v (.one (.ptr 6 0))), (25, .v (.one (.fn 62 [(7, 0)])))] 65 #[26] m31o_c0 m31o_c1 8)], [], 12, 36, []⟩) (fun (v9 : (List Lvl) × Bool) => (Option.bind (loopN (m31o_l0 x1 a1 nn) FUEL (0, v9.1, v9.2)) (Sum.elim (fun (o11 : (List Lvl) × Bool) => some (.inl (o11.1, o11.2))) (fun o => some o))) = some y8) (fun (v10 : Unit) => (some (.inr (a0, false))) = some y8) ?_ ?_ ?_
    ·
     refine bindK h1 (fun v_ h2 h1 => ?_)
     refine XC.region ?_
     refine XL.rd rfl rfl (lb rfl) (RO.fieldOwn fo_39_0 rfl) ?_
     refine XL.rd rfl rfl (lb rfl) (RO.loadOwn ag_3 rfl rfl rfl) ?_
     refine XL.rd rfl rfl (lb rfl) (RO.binInt rfl rfl rfl) ?_
     refine XL.rd rfl rfl (lb rfl) (RO.move rfl) ?_
     refine XL.case (d := 8) (c := (decide (0 < x1.2.1))) rfl (fun c11 => ?_) (fun c11 => ?_)
     ·
      replace h2 := condT c11 h2
      refine XL.no rfl rfl ?_
      refine XL.no rfl rfl ?_
      refine XL.no rfl rfl ?_
      refine XL.no rfl rfl ?_
      refine XL.rd rfl rfl (lb rfl) (RO.pickT rfl rfl) ?_
      refine XL.rd rfl rfl (lb rfl) (RO.move rfl) ?_
      refine XL.rd rfl rfl (lb rfl) (RO.move rfl) ?_
      refine XL.rd rfl rfl (lb rfl) (RO.fieldOwn fo_39_0 rfl) ?_
      refine XL.rd rfl rfl (lb rfl) (RO.loadOwn ag_3 rfl rfl rfl) ?_
      refine XL.rd rfl rfl (lb rfl) (RO.build1 bd_39 rfl rfl rfl) ?_
      refine bindK h2 (fun y14 h3 h2 => ?_)
      have ha15 : ExecOK Try.prog (some 9) m31o_c0 ⟨[(2, .v (.one (.ptr 1 0))), (3, .v (.one (.ptr 2 0))), (4, .v (.one (.ptr 3 0))), (5, .v (.one (.ptr 4 0))), (8, .v (.one (.ptr 6 0))), (25, .v (.one (.fn 62 [(7, 0)]))), (26, .v (.agg [dI x1.2.1, dN]))], [(0, .cells 39 (flatE a0)), (1, .cells 31 [.osl 0 0 nn nn]), (2, .cells 41 (cE a1)), (3, .cells 4 [dB false]), (4, .cells 25 [dI 0]), (5, .cells 39 [dI x1.2.1, dS x1.2.2]), (6, .cells 4 [dB false]), (7, .cells 39 [dI x1.2.1, dS x1.2.2]), (8, .obj (.deferred (some []))), (9, .loop .ready none [(2, .v (.one (.ptr 1 0))), (3, .v (.one (.ptr 2 0))), (4, .v (.one (.ptr 3 0))), (5, .v (.one (.ptr 4 0))), (8, .v (.one (.ptr 6 0))), (25, .v (.one (.fn 62 [(7, 0)])))] 65 #[26] m31o_c0 m31o_c1 8)], [], 10, 65, []⟩ .normal ⟨[(2, .v (.one (.ptr 1 0))), (3, .v (.one (.ptr 2 0))), (4, .v (.one (.ptr 3 0))), (5, .v (.one (.ptr 4 0))), (8, .v (.one (.ptr 6 0))), (9, .v (.one (.ptr 10 0)))], [(0, .cells 39 (flatE a0)), (1, .cells 31 [.osl 0 0 nn nn]), (2, .cells 41 (cE a1)), (3, .cells 4 [dB false]), (4, .cells 25 [dI 0]), (5, .cells 39 [dI x1.2.1, dS x1.2.2]), (6, .cells 4 [dB false]), (7, .cells 39 [dI x1.2.1, dS x1.2.2]), (8, .obj (.deferred (some []))), (9, .loop .ready none [(2, .v (.one (.ptr 1 0))), (3, .v (.one (.ptr 2 0))), (4, .v (.one (.ptr 3 0))), (5, .v (.one (.ptr 4 0))), (8, .v (.one (.ptr 6 0))), (25, .v (.one (.fn 62 [(7, 0)])))] 65 #[26] m31o_c0 m31o_c1 8), (10, .cells 39 [dI x1.2.1, dN])], [], 11, 65, []⟩ := by
       refine ExecOK.walk (fun w0 M V0 ro n Q hv3 hro3 hQn3 => ?_)
       refine XC.region ?_
       refine XL.put rfl rfl (lb rfl) (OpOK.alloc z_39 rfl) ?_
       refine XL.eff rfl rfl (OpOK.store ag_39 rfl rfl rfl rfl (lb rfl) rfl) ?_
       refine XL.nil ?_
       exact XQ.of hQn3 (stle (tR rfl (tR rfl (tR rfl (tR rfl (tR rfl (tR rfl tZ)))))) (hR rfl (hR rfl (hR rfl (hR rfl (hR rfl (hR rfl (hR rfl (hR rfl (hR rfl (hR rfl (hR rfl hZ))))))))))) kZ rfl (Nat.le_trans hv3 (lb rfl)) rfl rfl rfl (bF rfl (bB rfl rfl (bB rfl rfl (bB rfl rfl (bB rfl rfl (bB rfl rfl (bB rfl rfl (bB rfl rfl (bB rfl rfl (bB rfl rfl (bB rfl rfl bZ))))))))))) rfl rfl)
      have hb16 : ExecOK Try.prog (some 9) m31o_c1 ⟨[(2, .v (.one (.ptr 1 0))), (3, .v (.one (.ptr 2 0))), (4, .v (.one (.ptr 3 0))), (5, .v (.one (.ptr 4 0))), (8, .v (.one (.ptr 6 0))), (9, .v (.one (.ptr 10 0)))], [(0, .cells 39 (flatE a0)), (1, .cells 31 [.osl 0 0 nn nn]), (2, .cells 41 (cE a1)), (3, .cells 4 [dB false]), (4, .cells 25 [dI 0]), (5, .cells 39 [dI x1.2.1, dS x1.2.2]), (6, .cells 4 [dB false]), (7, .cells 39 [dI x1.2.1, dS x1.2.2]), (8, .obj (.deferred (some []))), (9, .loop .busy none [(2, .v (.one (.ptr 1 0))), (3, .v (.one (.ptr 2 0))), (4, .v (.one (.ptr 3 0))), (5, .v (.one (.ptr 4 0))), (8, .v (.one (.ptr 6 0))), (25, .v (.one (.fn 62 [(7, 0)])))] 65 #[26] m31o_c0 m31o_c1 8), (10, .cells 39 [dI x1.2.1, dN])], [], 11, 65, []⟩ ((Sum.elim (fun (_ : (List Lvl) × Bool) => (.normal : Exit)) (fun (_ : Unit) => (.ret : Exit))) y14) ((Sum.elim (fun (y12 : (List Lvl) × Bool) => (⟨[], [(0, .cells 39 (flatE y12.1)), (1, .cells 31 [.osl 0 0 nn nn]), (2, .cells 41 (cE a1)), (3, .cells 4 [dB false]), (4, .cells 25 [dI 0]), (5, .cells 39 [dI x1.2.1, dS x1.2.2]), (6, .cells 4 [dB y12.2]), (7, .cells 39 [dI x1.2.1, dS x1.2.2]), (8, .obj (.deferred (some []))), (9, .loop .busy none [(2, .v (.one (.ptr 1 0))), (3, .v (.one (.ptr 2 0))), (4, .v (.one (.ptr 3 0))), (5, .v (.one (.ptr 4 0))), (8, .v (.one (.ptr 6 0))), (25, .v (.one (.fn 62 [(7, 0)])))] 65 #[26] m31o_c0 m31o_c1 8)], [], 12, 65, []⟩ : St)) (fun (y13 : Unit) => (⟨[], [(0, .cells 39 (flatE a0)), (1, .cells 31 [.osl 0 0 nn nn]), (2, .cells 41 (cE a1)), (3, .cells 4 [dB false]), (4, .cells 25 [dI 15]), (5, .cells 39 [dI x1.2.1, dS x1.2.2]), (6, .cells 4 [dB false]), (7, .cells 39 [dI x1.2.1, dS x1.2.2]), (8, .obj (.deferred (some []))), (9, .loop .busy none [(2, .v (.one (.ptr 1 0))), (3, .v (.one (.ptr 2 0))), (4, .v (.one (.ptr 3 0))), (5, .v (.one (.ptr 4 0))), (8, .v (.one (.ptr 6 0))), (25, .v (.one (.fn 62 [(7, 0)])))] 65 #[26] m31o_c0 m31o_c1 8)], [], 12, 65, []⟩ : St))) y14) := by
       refine ExecOK.walk (fun w0 M V0 ro n Q hv3 hro3 hQn3 => ?_)
       refine XC.block ?_
       refine XC.seq ?_
       refine XC.region ?_
       refine XL.rd rfl rfl (lb rfl) (RO.fieldOwn fo_41_1 rfl) ?_
       refine XL.rd rfl rfl (lb rfl) (RO.loadOwnAgg ag_39 rfl rfl rfl rfl) ?_
       refine XL.rd rfl rfl (lb rfl) (RO.loadOwn ag_31 rfl rfl rfl) ?_
       refine bindK h3 (fun x17 hx17 h3 => ?_)
       refine XL.put rfl rfl (lb rfl) (OpOK.callO (b := 0) (m48o_ok a1.hi a0 nn x17 hx17) rfl (.agg (.cons (.d _) (.cons (.d _) .nil)) (.osl .nil)) rfl rfl rfl) ?_
       refine XL.rd rfl rfl (lb rfl) (RO.move rfl) ?_
       refine XL.rd rfl rfl (lb rfl) (RO.extract rfl rfl) ?_
       refine XL.rd rfl rfl (lb rfl) (RO.extract rfl rfl) ?_
       refine XL.put rfl rfl (lb rfl) (OpOK.alloc z_39 rfl) ?_
       refine XL.eff rfl rfl (OpOK.store ag_39 rfl rfl rfl rfl (lb rfl) rfl) ?_
       refine XL.rd rfl rfl (lb rfl) (RO.assign rfl) ?_
       refine XL.nil ?_
       refine XQ.seq ?_
       refine XC.seq ?_
       refine XC.seq ?_
       refine XC.region ?_
       refine XL.rd rfl rfl (lb rfl) (RO.move rfl) ?_
       refine XL.rd rfl rfl (lb rfl) (RO.binInt rfl rfl rfl) ?_
       refine XL.nil ?_
       refine XQ.seq ?_
       refine XC.cond (b := (x17.1 != 0)) rfl (fun c18 => ?_) (fun c18 => ?_)
       ·
        replace h3 := condT c18 h3
        refine XC.seq ?_
        refine XC.region ?_
        refine XL.eff rfl rfl (OpOK.store ag_4 rfl rfl rfl rfl (lb rfl) rfl) ?_
        refine XL.eff rfl rfl (OpOK.store ag_25 rfl rfl rfl rfl (lb rfl) rfl) ?_
        refine XL.nil ?_
        refine XQ.seq ?_
        refine XC.ret ?_
        have e_ := Option.some.inj h3
        subst e_
        exact XQ.of (e := .ret) (st' := ⟨[], [(0, .cells 39 (flatE a0)), (1, .cells 31 [.osl 0 0 nn nn]), (2, .cells 41 (cE a1)), (3, .cells 4 [dB false]), (4, .cells 25 [dI 15]), (5, .cells 39 [dI x1.2.1, dS x1.2.2]), (6, .cells 4 [dB false]), (7, .cells 39 [dI x1.2.1, dS x1.2.2]), (8, .obj (.deferred (some []))), (9, .loop .busy none [(2, .v (.one (.ptr 1 0))), (3, .v (.one (.ptr 2 0))), (4, .v (.one (.ptr 3 0))), (5, .v (.one (.ptr 4 0))), (8, .v (.one (.ptr 6 0))), (25, .v (.one (.fn 62 [(7, 0)])))] 65 #[26] m31o_c0 m31o_c1 8)], [], 12, 65, []⟩) hQn3 (stle tZ (hR rfl (hR rfl (hR rfl (hR rfl (hR rfl (hR rfl (hR rfl (hR rfl (hR rfl (hR rfl hZ)))))))))) kZ rfl (Nat.le_trans hv3 (lb rfl)) rfl rfl rfl (bF rfl (bB rfl rfl (bB rfl rfl (bB rfl rfl (bB rfl rfl (bB rfl rfl (bB rfl rfl (bB rfl rfl (bB rfl rfl (bB rfl rfl bZ)))))))))) rfl rfl)
       ·
        replace h3 := condF c18 h3
        refine XC.skip ?_
        refine XQ.seq ?_
        refine XC.seq ?_
        refine XC.seq ?_
        refine XC.region ?_
        refine XL.rd rfl rfl (lb rfl) (RO.loadOwnAgg ag_39 rfl rfl rfl rfl) ?_
        refine XL.rd rfl rfl (lb rfl) (RO.loadOwnAgg ag_39 rfl rfl rfl rfl) ?_
        refine guardK h3 (fun g19 h3 => ?_)
        refine XL.put rfl rfl (lb rfl) (OpOK.callFun (leq_fun (⟨x1.2.1, ([] : List LV)⟩ : Lvl) (⟨x17.2.1, x17.2.2⟩ : Lvl) (Nat.le_of_ble_eq_true (cond_left g19)) (Nat.le_of_ble_eq_true (cond_right g19))) rfl (.cons (.agg (.cons (.d _) (.cons (.nil _) .nil))) (.cons (.agg (.cons (.d _) (.cons (.d _) .nil))) .nil))) ?_
        refine XL.nil ?_
        refine XQ.seq ?_
        refine XC.cond (b := (leqB (⟨x1.2.1, ([] : List LV)⟩ : Lvl) (⟨x17.2.1, x17.2.2⟩ : Lvl))) rfl (fun c20 => ?_) (fun c20 => ?_)
        ·
         replace h3 := condT c20 h3
         refine XC.exit ?_
         refine XQ.thenE ?_
         refine XQ.blockX ?_
         have e_ := Option.some.inj h3
         subst e_
         exact XQ.of (e := .normal) (st' := ⟨[], [(0, .cells 39 (flatE a0)), (1, .cells 31 [.osl 0 0 nn nn]), (2, .cells 41 (cE a1)), (3, .cells 4 [dB false]), (4, .cells 25 [dI 0]), (5, .cells 39 [dI x1.2.1, dS x1.2.2]), (6, .cells 4 [dB false]), (7, .cells 39 [dI x1.2.1, dS x1.2.2]), (8, .obj (.deferred (some []))), (9, .loop .busy none [(2, .v (.one (.ptr 1 0))), (3, .v (.one (.ptr 2 0))), (4, .v (.one (.ptr 3 0))), (5, .v (.one (.ptr 4 0))), (8, .v (.one (.ptr 6 0))), (25, .v (.one (.fn 62 [(7, 0)])))] 65 #[26] m31o_c0 m31o_c1 8)], [], 12, 65, []⟩) hQn3 (stle tZ (hR rfl (hR rfl (hR rfl (hR rfl (hR rfl (hR rfl (hR rfl (hR rfl (hR rfl (hR rfl hZ)))))))))) kZ rfl (Nat.le_trans hv3 (lb rfl)) rfl rfl rfl (bF rfl (bB rfl rfl (bB rfl rfl (bB rfl rfl (bB rfl rfl (bB rfl rfl (bB rfl rfl (bB rfl rfl (bB rfl rfl (bB rfl rfl bZ)))))))))) rfl rfl)
        ·
         replace h3 := condF c20 h3
         refine XC.skip ?_
         refine XQ.seq ?_
         refine XC.seq ?_
         refine XC.region ?_
         refine XL.rd rfl rfl (lb rfl) (RO.fieldOwn fo_41_1 rfl) ?_
         refine XL.rd rfl rfl (lb rfl) (RO.loadOwnAgg ag_39 rfl rfl rfl rfl) ?_
         refine bindK h3 (fun x21 hx21 h3 => ?_)
         refine XL.put rfl rfl (lb rfl) (OpOK.callFun (m54_ok a1.hi x21 hx21) rfl (.cons (.agg (.cons (.d _) (.cons (.d _) .nil))) .nil)) ?_
         refine XL.rd rfl rfl (lb rfl) (RO.move rfl) ?_
         refine XL.rd rfl rfl (lb rfl) (RO.extract rfl rfl) ?_
         refine XL.rd rfl rfl (lb rfl) (RO.extract rfl rfl) ?_
         refine XL.rd rfl rfl (lb rfl) (RO.assign rfl) ?_
         refine XL.rd rfl rfl (lb rfl) (RO.assign rfl) ?_
         refine XL.nil ?_
         refine XQ.seq ?_
         refine XC.seq ?_
         refine XC.seq ?_
         refine XC.region ?_
         refine XL.rd rfl rfl (lb rfl) (RO.move rfl) ?_
         refine XL.rd rfl rfl (lb rfl) (RO.binInt rfl rfl rfl) ?_
         refine XL.nil ?_
         refine XQ.seq ?_
         refine XC.cond (b := (decide (x21.1 < 0))) rfl (fun c22 => ?_) (fun c22 => ?_)
         ·
          replace h3 := condT c22 h3
          refine XC.seq ?_
          refine XC.region ?_
          refine XL.eff rfl rfl (OpOK.store ag_4 rfl rfl rfl rfl (lb rfl) rfl) ?_
          refine XL.eff rfl rfl (OpOK.store ag_25 rfl rfl rfl rfl (lb rfl) rfl) ?_
          refine XL.nil ?_
          refine XQ.seq ?_
          refine XC.ret ?_
          have e_ := Option.some.inj h3
          subst e_
          exact XQ.of (e := .ret) (st' := ⟨[], [(0, .cells 39 (flatE a0)), (1, .cells 31 [.osl 0 0 nn nn]), (2, .cells 41 (cE a1)), (3, .cells 4 [dB false]), (4, .cells 25 [dI 15]), (5, .cells 39 [dI x1.2.1, dS x1.2.2]), (6, .cells 4 [dB false]), (7, .cells 39 [dI x1.2.1, dS x1.2.2]), (8, .obj (.deferred (some []))), (9, .loop .busy none [(2, .v (.one (.ptr 1 0))), (3, .v (.one (.ptr 2 0))), (4, .v (.one (.ptr 3 0))), (5, .v (.one (.ptr 4 0))), (8, .v (.one (.ptr 6 0))), (25, .v (.one (.fn 62 [(7, 0)])))] 65 #[26] m31o_c0 m31o_c1 8)], [], 12, 65, []⟩) hQn3 (stle tZ (hR rfl (hR rfl (hR rfl (hR rfl (hR rfl (hR rfl (hR rfl (hR rfl (hR rfl (hR rfl hZ)))))))))) kZ rfl (Nat.le_trans hv3 (lb rfl)) rfl rfl rfl (bF rfl (bB rfl rfl (bB rfl rfl (bB rfl rfl (bB rfl rfl (bB rfl rfl (bB rfl rfl (bB rfl rfl (bB rfl rfl (bB rfl rfl bZ)))))))))) rfl rfl)
         ·
          replace h3 := condF c22 h3
          refine XC.skip ?_
          refine XQ.seq ?_
          refine XC.seq ?_
          refine XC.anyRun [11, 12] [(0, 1), (1, 1), (2, 1), (3, 1), (4, 1), (5, 1), (6, 1), (7, 1), (8, 1), (9, 1), (10, 1), (10, 2)] mixed (by kernel_rfl) (by kernel_rfl) (by kernel_rfl) ?_
          refine RunA.rd rfl rfl rfl (OpOK.of_ro (RO.loadOwn ag_31 rfl rfl rfl)) rfl ?_
          refine RunA.rd rfl rfl rfl (OpOK.of_ro (RO.move rfl)) rfl ?_
          refine bindK h3 (fun x23 hx23 h3 => ?_)
          refine guardK h3 (fun g24 h3 => ?_)
          refine RunA.rd rfl rfl rfl (OpOK.of_ro (RO.indexO (α := Lvl) sl_31 rfl rfl hx23 g24)) rfl ?_
          refine RunA.rd rfl rfl rfl (OpOK.of_ro (RO.loadOE (α := Lvl) (ys := [dI x23.c, dS x23.vs]) ag_39 rfl rfl hx23 rfl)) rfl ?_
          refine RunA.rd rfl rfl rfl (OpOK.of_ro (RO.loadOwnAgg ag_39 rfl rfl rfl rfl)) rfl ?_
          refine RunA.rd rfl rfl rfl (OpOK.of_ro (RO.move rfl)) rfl ?_
          refine bindK h3 (fun x25 hx25 h3 => ?_)
          refine RunA.rd rfl rfl rfl (OpOK.callFun (m56_ok (⟨x1.2.1, ([] : List LV)⟩ : Lvl) x21.2 x25 hx25) rfl (.cons (.agg (.cons (.d _) (.cons (.nil _) .nil))) (.cons (.one (.d _)) .nil))) rfl ?_
          refine bindK h3 (fun x26 hx26 h3 => ?_)
          refine RunA.rd rfl rfl rfl (OpOK.callFun (m55_ok x23 x25 x26 hx26) rfl (.cons (.agg (.cons (.d _) (.cons (.d _) .nil))) (.cons (.agg (.cons (.d _) (.cons (.d _) .nil))) .nil))) rfl ?_
          refine RunA.rd rfl rfl rfl (OpOK.of_ro (RO.move rfl)) rfl ?_
          refine RunA.rd rfl rfl rfl (OpOK.of_ro (RO.extract rfl rfl)) rfl ?_
          refine RunA.rd rfl rfl rfl (OpOK.of_ro (RO.extract rfl rfl)) rfl ?_
          refine RunA.eff rfl rfl rfl (OpOK.alloc z_39 rfl) rfl ?_
          refine RunA.eff rfl rfl rfl (OpOK.store ag_39 rfl rfl rfl rfl (lb rfl) rfl) rfl ?_
          refine RunA.rd rfl rfl rfl (OpOK.of_ro (RO.assign rfl)) rfl ?_
          refine RunA.nil ⟨?ex, _, _, rfl, ?_⟩
          case ex => exact ⟨⟨_, rfl, _, _, rfl, rfl, rfl, .inl ⟨rfl, _, OpOK.of_ro (RO.loadOwn ag_31 rfl rfl rfl), rfl⟩⟩, ⟨_, rfl, _, _, rfl, rfl, rfl, .inl ⟨rfl, _, OpOK.of_ro (RO.move rfl), rfl⟩⟩, ⟨_, rfl, _, _, rfl, rfl, rfl, .inl ⟨rfl, _, OpOK.of_ro (RO.indexO (α := Lvl) sl_31 rfl rfl hx23 g24), rfl⟩⟩, ⟨_, rfl, _, _, rfl, rfl, rfl, .inl ⟨rfl, _, OpOK.of_ro (RO.loadOE (α := Lvl) (ys := [dI x23.c, dS x23.vs]) ag_39 rfl rfl hx23 rfl), rfl⟩⟩, ⟨_, rfl, _, _, rfl, rfl, rfl, .inl ⟨rfl, _, OpOK.of_ro (RO.loadOwnAgg ag_39 rfl rfl rfl rfl), rfl⟩⟩, ⟨_, rfl, _, _, rfl, rfl, rfl, .inl ⟨rfl, _, OpOK.of_ro (RO.move rfl), rfl⟩⟩, ⟨_, rfl, _, _, rfl, rfl, rfl, .inl ⟨rfl, _, OpOK.callFun (m56_ok (⟨x1.2.1, ([] : List LV)⟩ : Lvl) x21.2 x25 hx25) rfl (.cons (.agg (.cons (.d _) (.cons (.nil _) .nil))) (.cons (.one (.d _)) .nil)), rfl⟩⟩, ⟨_, rfl, _, _, rfl, rfl, rfl, .inl ⟨rfl, _, OpOK.callFun (m55_ok x23 x25 x26 hx26) rfl (.cons (.agg (.cons (.d _) (.cons (.d _) .nil))) (.cons (.agg (.cons (.d _) (.cons (.d _) .nil))) .nil)), rfl⟩⟩, ⟨_, rfl, _, _, rfl, rfl, rfl, .inl ⟨rfl, _, OpOK.of_ro (RO.move rfl), rfl⟩⟩, ⟨_, rfl, _, _, rfl, rfl, rfl, .inl ⟨rfl, _, OpOK.of_ro (RO.extract rfl rfl), rfl⟩⟩, ⟨_, rfl, _, _, rfl, rfl, rfl, .inl ⟨rfl, _, OpOK.of_ro (RO.extract rfl rfl), rfl⟩⟩, ⟨_, rfl, _, _, rfl, rfl, rfl, .inl ⟨rfl, _, OpOK.of_ro (RO.extract rfl rfl), rfl⟩⟩, trivial⟩
          refine XQ.less (st' := ⟨[(2, .v (.one (.ptr 1 0))), (4, .v (.one (.ptr 3 0))), (5, .v (.one (.ptr 4 0))), (8, .v (.one (.ptr 6 0))), (11, .v (.one (dI x26.2))), (12, .v (.one (dI x21.1))), (14, .v (.one (.ptr 12 0)))], [(0, .cells 39 (flatE a0)), (1, .cells 31 [.osl 0 0 nn nn]), (2, .cells 41 (cE a1)), (3, .cells 4 [dB false]), (4, .cells 25 [dI 0]), (5, .cells 39 [dI x1.2.1, dS x1.2.2]), (6, .cells 4 [dB false]), (7, .cells 39 [dI x1.2.1, dS x1.2.2]), (8, .obj (.deferred (some []))), (9, .loop .busy none [(2, .v (.one (.ptr 1 0))), (3, .v (.one (.ptr 2 0))), (4, .v (.one (.ptr 3 0))), (5, .v (.one (.ptr 4 0))), (8, .v (.one (.ptr 6 0))), (25, .v (.one (.fn 62 [(7, 0)])))] 65 #[26] m31o_c0 m31o_c1 8), (10, .cells 39 [dI x1.2.1, dN]), (11, .cells 39 [dI x17.2.1, dS x17.2.2]), (12, .cells 39 (cE x26.1))], [], 13, 65, []⟩) (stle (tR rfl (tR rfl (tR rfl (tR rfl (tR rfl (tR rfl (tR rfl tZ))))))) (hR rfl (hR rfl (hR rfl (hR rfl (hR rfl (hR rfl (hR rfl (hR rfl (hR rfl (hR rfl (hR rfl (hR rfl (hR rfl hZ))))))))))))) kZ rfl (Nat.le_trans hv3 (lb rfl)) rfl rfl rfl (bF rfl (bB rfl rfl (bB rfl rfl (bB rfl rfl (bB rfl rfl (bB rfl rfl (bB rfl rfl (bB rfl rfl (bB rfl rfl (bB rfl rfl (bB rfl rfl (bB rfl rfl (bB rfl rfl bZ))))))))))))) rfl rfl) ?_
          refine XQ.seq ?_
          refine XC.seq ?_
          refine XC.seq ?_
          refine XC.region ?_
          refine XL.rd rfl rfl (lb rfl) (RO.move rfl) ?_
          refine XL.rd rfl rfl (lb rfl) (RO.binInt rfl rfl rfl) ?_
          refine XL.nil ?_
          refine XQ.seq ?_
          refine XC.cond (b := (x26.2 != 0)) rfl (fun c27 => ?_) (fun c27 => ?_)
          ·
           replace h3 := condT c27 h3
           refine XC.seq ?_
           refine XC.region ?_
           refine XL.eff rfl rfl (OpOK.store ag_4 rfl rfl rfl rfl (lb rfl) rfl) ?_
           refine XL.eff rfl rfl (OpOK.store ag_25 rfl rfl rfl rfl (lb rfl) rfl) ?_
           refine XL.nil ?_
           refine XQ.seq ?_
           refine XC.ret ?_
           have e_ := Option.some.inj h3
           subst e_
           exact XQ.of (e := .ret) (st' := ⟨[], [(0, .cells 39 (flatE a0)), (1, .cells 31 [.osl 0 0 nn nn]), (2, .cells 41 (cE a1)), (3, .cells 4 [dB false]), (4, .cells 25 [dI 15]), (5, .cells 39 [dI x1.2.1, dS x1.2.2]), (6, .cells 4 [dB false]), (7, .cells 39 [dI x1.2.1, dS x1.2.2]), (8, .obj (.deferred (some []))), (9, .loop .busy none [(2, .v (.one (.ptr 1 0))), (3, .v (.one (.ptr 2 0))), (4, .v (.one (.ptr 3 0))), (5, .v (.one (.ptr 4 0))), (8, .v (.one (.ptr 6 0))), (25, .v (.one (.fn 62 [(7, 0)])))] 65 #[26] m31o_c0 m31o_c1 8)], [], 12, 65, []⟩) hQn3 (stle tZ (hR rfl (hR rfl (hR rfl (hR rfl (hR rfl (hR rfl (hR rfl (hR rfl (hR rfl (hR rfl hZ)))))))))) kZ rfl (Nat.le_trans hv3 (lb rfl)) rfl rfl rfl (bF rfl (bB rfl rfl (bB rfl rfl (bB rfl rfl (bB rfl rfl (bB rfl rfl (bB rfl rfl (bB rfl rfl (bB rfl rfl (bB rfl rfl bZ)))))))))) rfl rfl)
          ·
           replace h3 := condF c27 h3
           refine XC.skip ?_
           refine XQ.seq ?_
           refine XC.region ?_
           refine XL.rd rfl rfl (lb rfl) (RO.loadOwn ag_31 rfl rfl rfl) ?_
           refine XL.rd rfl rfl (lb rfl) (RO.move rfl) ?_
           refine XL.rd rfl rfl (lb rfl) (RO.loadOwnAgg ag_39 rfl rfl rfl rfl) ?_
           refine bindK h3 (fun x28 hx28 h3 => ?_)
           refine guardK h3 (fun g29 h3 => ?_)
           refine XL.rd rfl rfl (lb rfl) (RO.indexO (α := Lvl) sl_31 rfl rfl hx28 g29) ?_
           refine XL.eff rfl rfl (OpOK.storeOE (α := Lvl) (y' := .agg [dI x26.1.c, dS x26.1.vs]) (v := x26.1) ag_39 rfl rfl (.agg (.cons (.d _) (.cons (.d _) .nil))) rfl rfl hx28 rfl) ?_
           refine XL.eff rfl rfl (OpOK.store ag_4 rfl rfl rfl rfl (lb rfl) rfl) ?_
           refine XL.nil ?_
           refine XQ.inBlock ?_
           have e_ := Option.some.inj h3
           subst e_
           exact XQ.of (e := .normal) (st' := ⟨[], [(0, .cells 39 (flatE ((a0.set x21.1.toNat x26.1) : List Lvl))), (1, .cells 31 [.osl 0 0 nn nn]), (2, .cells 41 (cE a1)), (3, .cells 4 [dB false]), (4, .cells 25 [dI 0]), (5, .cells 39 [dI x1.2.1, dS x1.2.2]), (6, .cells 4 [dB true]), (7, .cells 39 [dI x1.2.1, dS x1.2.2]), (8, .obj (.deferred (some []))), (9, .loop .busy none [(2, .v (.one (.ptr 1 0))), (3, .v (.one (.ptr 2 0))), (4, .v (.one (.ptr 3 0))), (5, .v (.one (.ptr 4 0))), (8, .v (.one (.ptr 6 0))), (25, .v (.one (.fn 62 [(7, 0)])))] 65 #[26] m31o_c0 m31o_c1 8)], [], 12, 65, []⟩) hQn3 (stle tZ (hR rfl (hR rfl (hR rfl (hR rfl (hR rfl (hR rfl (hR rfl (hR rfl (hR rfl (hR rfl hZ)))))))))) kZ rfl (Nat.le_trans hv3 (lb rfl)) rfl rfl rfl (bF rfl (bB rfl rfl (bB rfl rfl (bB rfl rfl (bB rfl rfl (bB rfl rfl (bB rfl rfl (bB rfl rfl (bB rfl rfl (bB rfl rfl bZ)))))))))) rfl rfl)
      refine sumK (C := fun q_ => ExecOK Try.prog (some 9) m31o_c1 ⟨[(2, .v (.one (.ptr 1 0))), (3, .v (.one (.ptr 2 0))), (4, .v (.one (.ptr 3 0))), (5, .v (.one (.ptr 4 0))), (8, .v (.one (.ptr 6 0))), (9, .v (.one (.ptr 10 0)))], [(0, .cells 39 (flatE a0)), (1, .cells 31 [.osl 0 0 nn nn]), (2, .cells 41 (cE a1)), (3, .cells 4 [dB false]), (4, .cells 25 [dI 0]), (5, .cells 39 [dI x1.2.1, dS x1.2.2]), (6, .cells 4 [dB false]), (7, .cells 39 [dI x1.2.1, dS x1.2.2]), (8, .obj (.deferred (some []))), (9, .loop .busy none [(2, .v (.one (.ptr 1 0))), (3, .v (.one (.ptr 2 0))), (4, .v (.one (.ptr 3 0))), (5, .v (.one (.ptr 4 0))), (8, .v (.one (.ptr 6 0))), (25, .v (.one (.fn 62 [(7, 0)])))] 65 #[26] m31o_c0 m31o_c1 8), (10, .cells 39 [dI x1.2.1, dN])], [], 11, 65, []⟩ ((Sum.elim (fun (_ : (List Lvl) × Bool) => (.normal : Exit)) (fun (_ : Unit) => (.ret : Exit))) q_) ((Sum.elim (fun (y12 : (List Lvl) × Bool) => (⟨[], [(0, .cells 39 (flatE y12.1)), (1, .cells 31 [.osl 0 0 nn nn]), (2, .cells 41 (cE a1)), (3, .cells 4 [dB false]), (4, .cells 25 [dI 0]), (5, .cells 39 [dI x1.2.1, dS x1.2.2]), (6, .cells 4 [dB y12.2]), (7, .cells 39 [dI x1.2.1, dS x1.2.2]), (8, .obj (.deferred (some []))), (9, .loop .busy none [(2, .v (.one (.ptr 1 0))), (3, .v (.one (.ptr 2 0))), (4, .v (.one (.ptr 3 0))), (5, .v (.one (.ptr 4 0))), (8, .v (.one (.ptr 6 0))), (25, .v (.one (.fn 62 [(7, 0)])))] 65 #[26] m31o_c0 m31o_c1 8)], [], 12, 65, []⟩ : St)) (fun (y13 : Unit) => (⟨[], [(0, .cells 39 (flatE a0)), (1, .cells 31 [.osl 0 0 nn nn]), (2, .cells 41 (cE a1)), (3, .cells 4 [dB false]), (4, .cells 25 [dI 15]), (5, .cells 39 [dI x1.2.1, dS x1.2.2]), (6, .cells 4 [dB false]), (7, .cells 39 [dI x1.2.1, dS x1.2.2]), (8, .obj (.deferred (some []))), (9, .loop .busy none [(2, .v (.one (.ptr 1 0))), (3, .v (.one (.ptr 2 0))), (4, .v (.one (.ptr 3 0))), (5, .v (.one (.ptr 4 0))), (8, .v (.one (.ptr 6 0))), (25, .v (.one (.fn 62 [(7, 0)])))] 65 #[26] m31o_c0 m31o_c1 8)], [], 12, 65, []⟩ : St))) q_)) hb16 h2 (fun y12 hb16 h2 => ?_) (fun y13 hb16 h2 => ?_)
      ·
       replace hb16 : ExecOK Try.prog (some 9) m31o_c1 ⟨[(2, .v (.one (.ptr 1 0))), (3, .v (.one (.ptr 2 0))), (4, .v (.one (.ptr 3 0))), (5, .v (.one (.ptr 4 0))), (8, .v (.one (.ptr 6 0))), (9, .v (.one (.ptr 10 0)))], [(0, .cells 39 (flatE a0)), (1, .cells 31 [.osl 0 0 nn nn]), (2, .cells 41 (cE a1)), (3, .cells 4 [dB false]), (4, .cells 25 [dI 0]), (5, .cells 39 [dI x1.2.1, dS x1.2.2]), (6, .cells 4 [dB false]), (7, .cells 39 [dI x1.2.1, dS x1.2.2]), (8, .obj (.deferred (some []))), (9, .loop .busy none [(2, .v (.one (.ptr 1 0))), (3, .v (.one (.ptr 2 0))), (4, .v (.one (.ptr 3 0))), (5, .v (.one (.ptr 4 0))), (8, .v (.one (.ptr 6 0))), (25, .v (.one (.fn 62 [(7, 0)])))] 65 #[26] m31o_c0 m31o_c1 8), (10, .cells 39 [dI x1.2.1, dN])], [], 11, 65, []⟩ .normal ⟨[], [(0, .cells 39 (flatE y12.1)), (1, .cells 31 [.osl 0 0 nn nn]), (2, .cells 41 (cE a1)), (3, .cells 4 [dB false]), (4, .cells 25 [dI 0]), (5, .cells 39 [dI x1.2.1, dS x1.2.2]), (6, .cells 4 [dB y12.2]), (7, .cells 39 [dI x1.2.1, dS x1.2.2]), (8, .obj (.deferred (some []))), (9, .loop .busy none [(2, .v (.one (.ptr 1 0))), (3, .v (.one (.ptr 2 0))), (4, .v (.one (.ptr 3 0))), (5, .v (.one (.ptr 4 0))), (8, .v (.one (.ptr 6 0))), (25, .v (.one (.fn 62 [(7, 0)])))] 65 #[26] m31o_c0 m31o_c1 8)], [], 12, 65, []⟩ := hb16
       refine XL.put rfl rfl (lb rfl) (OpOK.yield (jump := none) rfl rfl rfl rfl rfl (ExecOK.from ha15 (fun E hv => (stle (tR rfl (tR rfl (tR rfl (tR rfl (tR rfl (tR rfl (tR rfl tZ))))))) (hR rfl (hR rfl (hR rfl (hR rfl (hR rfl (hR rfl (hR rfl (hR rfl (hR rfl (hR rfl hZ)))))))))) kZ rfl (Nat.le_trans hv (lb rfl)) rfl rfl rfl (bF rfl (bB rfl rfl (bB rfl rfl (bB rfl rfl (bB rfl rfl (bB rfl rfl (bB rfl rfl (bB rfl rfl (bB rfl rfl (bB rfl rfl bZ)))))))))) rfl rfl))) rfl (ExecOK.from hb16 (fun E hv => (stle (tR rfl (tR rfl (tR rfl (tR rfl (tR rfl (tR rfl tZ)))))) (hR rfl (hR rfl (hR rfl (hR rfl (hR rfl (hR rfl (hR rfl (hR rfl (hR rfl (hR rfl (hR rfl hZ))))))))))) kZ rfl (Nat.le_trans hv (lb rfl)) rfl rfl rfl (bF rfl (bB rfl rfl (bB rfl rfl (bB rfl rfl (bB rfl rfl (bB rfl rfl (bB rfl rfl (bB rfl rfl (bB rfl rfl (bB rfl rfl (bB rfl rfl bZ))))))))))) rfl rfl))) rfl rfl) ?_
       refine XL.rd rfl rfl (lb rfl) (RO.not rfl) ?_
       refine XL.rd rfl rfl (lb rfl) (RO.pickT rfl rfl) ?_
       refine XL.nil ?_
       have e_ := Option.some.inj h2
       subst e_
       exact XQ.joinRl (y12.1, y12.2) (stle (tR rfl (tR rfl (tR rfl tZ))) (hR rfl (hR rfl (hR rfl (hR rfl (hR rfl (hR rfl (hR rfl (hR rfl (hR rfl (hR rfl hZ)))))))))) kZ rfl (Nat.le_trans hv1 (lb rfl)) rfl rfl rfl (bF rfl (bB rfl rfl (bB rfl rfl (bB rfl rfl (bB rfl rfl (bB rfl rfl (bB rfl rfl (bB rfl rfl (bB rfl rfl (bB rfl rfl bZ)))))))))) rfl rfl) h1
      ·
       replace hb16 : ExecOK Try.prog (some 9) m31o_c1 ⟨[(2, .v (.one (.ptr 1 0))), (3, .v (.one (.ptr 2 0))), (4, .v (.one (.ptr 3 0))), (5, .v (.one (.ptr 4 0))), (8, .v (.one (.ptr 6 0))), (9, .v (.one (.ptr 10 0)))], [(0, .cells 39 (flatE a0)), (1, .cells 31 [.osl 0 0 nn nn]), (2, .cells 41 (cE a1)), (3, .cells 4 [dB false]), (4, .cells 25 [dI 0]), (5, .cells 39 [dI x1.2.1, dS x1.2.2]), (6, .cells 4 [dB false]), (7, .cells 39 [dI x1.2.1, dS x1.2.2]), (8, .obj (.deferred (some []))), (9, .loop .busy none [(2, .v (.one (.ptr 1 0))), (3, .v (.one (.ptr 2 0))), (4, .v (.one (.ptr 3 0))), (5, .v (.one (.ptr 4 0))), (8, .v (.one (.ptr 6 0))), (25, .v (.one (.fn 62 [(7, 0)])))] 65 #[26] m31o_c0 m31o_c1 8), (10, .cells 39 [dI x1.2.1, dN])], [], 11, 65, []⟩ .ret ⟨[], [(0, .cells 39 (flatE a0)), (1, .cells 31 [.osl 0 0 nn nn]), (2, .cells 41 (cE a1)), (3, .cells 4 [dB false]), (4, .cells 25 [dI 15]), (5, .cells 39 [dI x1.2.1, dS x1.2.2]), (6, .cells 4 [dB false]), (7, .cells 39 [dI x1.2.1, dS x1.2.2]), (8, .obj (.deferred (some []))), (9, .loop .busy none [(2, .v (.one (.ptr 1 0))), (3, .v (.one (.ptr 2 0))), (4, .v (.one (.ptr 3 0))), (5, .v (.one (.ptr 4 0))), (8, .v (.one (.ptr 6 0))), (25, .v (.one (.fn 62 [(7, 0)])))] 65 #[26] m31o_c0 m31o_c1 8)], [], 12, 65, []⟩ := hb16
       refine XL.put rfl rfl (lb rfl) (OpOK.yield (jump := (some .ret)) rfl rfl rfl rfl rfl (ExecOK.from ha15 (fun E hv => (stle (tR rfl (tR rfl (tR rfl (tR rfl (tR rfl (tR rfl (tR rfl tZ))))))) (hR rfl (hR rfl (hR rfl (hR rfl (hR rfl (hR rfl (hR rfl (hR rfl (hR rfl (hR rfl hZ)))))))))) kZ rfl (Nat.le_trans hv (lb rfl)) rfl rfl rfl (bF rfl (bB rfl rfl (bB rfl rfl (bB rfl rfl (bB rfl rfl (bB rfl rfl (bB rfl rfl (bB rfl rfl (bB rfl rfl (bB rfl rfl bZ)))))))))) rfl rfl))) rfl (ExecOK.from hb16 (fun E hv => (stle (tR rfl (tR rfl (tR rfl (tR rfl (tR rfl (tR rfl tZ)))))) (hR rfl (hR rfl (hR rfl (hR rfl (hR rfl (hR rfl (hR rfl (hR rfl (hR rfl (hR rfl (hR rfl hZ))))))))))) kZ rfl (Nat.le_trans hv (lb rfl)) rfl rfl rfl (bF rfl (bB rfl rfl (bB rfl rfl (bB rfl rfl (bB rfl rfl (bB rfl rfl (bB rfl rfl (bB rfl rfl (bB rfl rfl (bB rfl rfl (bB rfl rfl bZ))))))))))) rfl rfl))) rfl rfl) ?_
       refine XL.rd rfl rfl (lb rfl) (RO.not rfl) ?_
       refine XL.rd rfl rfl (lb rfl) (RO.pickT rfl rfl) ?_
       refine XL.nil ?_
       have e_ := Option.some.inj h2
       subst e_
       exact XQ.joinRr () (stle (tR rfl (tR rfl (tR rfl tZ))) (hR rfl (hR rfl (hR rfl (hR rfl (hR rfl (hR rfl (hR rfl (hR rfl (hR rfl (hR rfl hZ)))))))))) kZ rfl (Nat.le_trans hv1 (lb rfl)) rfl rfl rfl (bF rfl (bB rfl rfl (bB rfl rfl (bB rfl rfl (bB rfl rfl (bB rfl rfl (bB rfl rfl (bB rfl rfl (bB rfl rfl (bB rfl rfl bZ)))))))))) rfl rfl) h1
     ·
      replace h2 := condF c11 h2
      refine XL.rd rfl rfl (lb rfl) (RO.fieldOwn fo_39_1 rfl) ?_
      refine XL.rd rfl rfl (lb rfl) (RO.loadOwn ag_37 rfl rfl rfl) ?_
      refine XL.rd rfl rfl (lb rfl) (RO.lenE (α := LV) sl_37 rfl (.d _)) ?_
      refine XL.rd rfl rfl (lb rfl) (RO.binInt rfl rfl rfl) ?_
      refine XL.rd rfl rfl (lb rfl) (RO.pickF rfl rfl) ?_
      refine XL.rd rfl rfl (lb rfl) (RO.move rfl) ?_
      refine XL.case (d := 14) (c := ((x1.2.2.length : Int) == 0)) rfl (fun c30 => ?_) (fun c30 => ?_)
      ·
       replace h2 := condT c30 h2
       refine XL.rd rfl rfl (lb rfl) (RO.move rfl) ?_
       refine XL.rd rfl rfl (lb rfl) (RO.fieldOwn fo_39_0 rfl) ?_
       refine XL.rd rfl rfl (lb rfl) (RO.loadOwn ag_3 rfl rfl rfl) ?_
       refine XL.rd rfl rfl (lb rfl) (RO.build1 bd_39 rfl rfl rfl) ?_
       refine bindK h2 (fun y33 h3 h2 => ?_)
       have ha34 : ExecOK Try.prog (some 9) m31o_c0 ⟨[(2, .v (.one (.ptr 1 0))), (3, .v (.one (.ptr 2 0))), (4, .v (.one (.ptr 3 0))), (5, .v (.one (.ptr 4 0))), (8, .v (.one (.ptr 6 0))), (25, .v (.one (.fn 62 [(7, 0)]))), (26, .v (.agg [dI x1.2.1, dN]))], [(0, .cells 39 (flatE a0)), (1, .cells 31 [.osl 0 0 nn nn]), (2, .cells 41 (cE a1)), (3, .cells 4 [dB false]), (4, .cells 25 [dI 0]), (5, .cells 39 [dI x1.2.1, dS x1.2.2]), (6, .cells 4 [dB false]), (7, .cells 39 [dI x1.2.1, dS x1.2.2]), (8, .obj (.deferred (some []))), (9, .loop .ready none [(2, .v (.one (.ptr 1 0))), (3, .v (.one (.ptr 2 0))), (4, .v (.one (.ptr 3 0))), (5, .v (.one (.ptr 4 0))), (8, .v (.one (.ptr 6 0))), (25, .v (.one (.fn 62 [(7, 0)])))] 65 #[26] m31o_c0 m31o_c1 8)], [], 10, 65, []⟩ .normal ⟨[(2, .v (.one (.ptr 1 0))), (3, .v (.one (.ptr 2 0))), (4, .v (.one (.ptr 3 0))), (5, .v (.one (.ptr 4 0))), (8, .v (.one (.ptr 6 0))), (9, .v (.one (.ptr 10 0)))], [(0, .cells 39 (flatE a0)), (1, .cells 31 [.osl 0 0 nn nn]), (2, .cells 41 (cE a1)), (3, .cells 4 [dB false]), (4, .cells 25 [dI 0]), (5, .cells 39 [dI x1.2.1, dS x1.2.2]), (6, .cells 4 [dB false]), (7, .cells 39 [dI x1.2.1, dS x1.2.2]), (8, .obj (.deferred (some []))), (9, .loop .ready none [(2, .v (.one (.ptr 1 0))), (3, .v (.one (.ptr 2 0))), (4, .v (.one (.ptr 3 0))), (5, .v (.one (.ptr 4 0))), (8, .v (.one (.ptr 6 0))), (25, .v (.one (.fn 62 [(7, 0)])))] 65 #[26] m31o_c0 m31o_c1 8), (10, .cells 39 [dI x1.2.1, dN])], [], 11, 65, []⟩ := by
        refine ExecOK.walk (fun w0 M V0 ro n Q hv3 hro3 hQn3 => ?_)
        refine XC.region ?_
        refine XL.put rfl rfl (lb rfl) (OpOK.alloc z_39 rfl) ?_
        refine XL.eff rfl rfl (OpOK.store ag_39 rfl rfl rfl rfl (lb rfl) rfl) ?_
        refine XL.nil ?_
        exact XQ.of hQn3 (stle (tR rfl (tR rfl (tR rfl (tR rfl (tR rfl (tR rfl tZ)))))) (hR rfl (hR rfl (hR rfl (hR rfl (hR rfl (hR rfl (hR rfl (hR rfl (hR rfl (hR rfl (hR rfl hZ))))))))))) kZ rfl (Nat.le_trans hv3 (lb rfl)) rfl rfl rfl (bF rfl (bB rfl rfl (bB rfl rfl (bB rfl rfl (bB rfl rfl (bB rfl rfl (bB rfl rfl (bB rfl rfl (bB rfl rfl (bB rfl rfl (bB rfl rfl bZ))))))))))) rfl rfl)
       have hb35 : ExecOK Try.prog (some 9) m31o_c1 ⟨[(2, .v (.one (.ptr 1 0))), (3, .v (.one (.ptr 2 0))), (4, .v (.one (.ptr 3 0))), (5, .v (.one (.ptr 4 0))), (8, .v (.one (.ptr 6 0))), (9, .v (.one (.ptr 10 0)))], [(0, .cells 39 (flatE a0)), (1, .cells 31 [.osl 0 0 nn nn]), (2, .cells 41 (cE a1)), (3, .cells 4 [dB false]), (4, .cells 25 [dI 0]), (5, .cells 39 [dI x1.2.1, dS x1.2.2]), (6, .cells 4 [dB false]), (7, .cells 39 [dI x1.2.1, dS x1.2.2]), (8, .obj (.deferred (some []))), (9, .loop .busy none [(2, .v (.one (.ptr 1 0))), (3, .v (.one (.ptr 2 0))), (4, .v (.one (.ptr 3 0))), (5, .v (.one (.ptr 4 0))), (8, .v (.one (.ptr 6 0))), (25, .v (.one (.fn 62 [(7, 0)])))] 65 #[26] m31o_c0 m31o_c1 8), (10, .cells 39 [dI x1.2.1, dN])], [], 11, 65, []⟩ ((Sum.elim (fun (_ : (List Lvl) × Bool) => (.normal : Exit)) (fun (_ : Unit) => (.ret : Exit))) y33) ((Sum.elim (fun (y31 : (List Lvl) × Bool) => (⟨[], [(0, .cells 39 (flatE y31.1)), (1, .cells 31 [.osl 0 0 nn nn]), (2, .cells 41 (cE a1)), (3, .cells 4 [dB false]), (4, .cells 25 [dI 0]), (5, .cells 39 [dI x1.2.1, dS x1.2.2]), (6, .cells 4 [dB y31.2]), (7, .cells 39 [dI x1.2.1, dS x1.2.2]), (8, .obj (.deferred (some []))), (9, .loop .busy none [(2, .v (.one (.ptr 1 0))), (3, .v (.one (.ptr 2 0))), (4, .v (.one (.ptr 3 0))), (5, .v (.one (.ptr 4 0))), (8, .v (.one (.ptr 6 0))), (25, .v (.one (.fn 62 [(7, 0)])))] 65 #[26] m31o_c0 m31o_c1 8)], [], 12, 65, []⟩ : St)) (fun (y32 : Unit) => (⟨[], [(0, .cells 39 (flatE a0)), (1, .cells 31 [.osl 0 0 nn nn]), (2, .cells 41 (cE a1)), (3, .cells 4 [dB false]), (4, .cells 25 [dI 15]), (5, .cells 39 [dI x1.2.1, dS x1.2.2]), (6, .cells 4 [dB false]), (7, .cells 39 [dI x1.2.1, dS x1.2.2]), (8, .obj (.deferred (some []))), (9, .loop .busy none [(2, .v (.one (.ptr 1 0))), (3, .v (.one (.ptr 2 0))), (4, .v (.one (.ptr 3 0))), (5, .v (.one (.ptr 4 0))), (8, .v (.one (.ptr 6 0))), (25, .v (.one (.fn 62 [(7, 0)])))] 65 #[26] m31o_c0 m31o_c1 8)], [], 12, 65, []⟩ : St))) y33) := by
        refine ExecOK.walk (fun w0 M V0 ro n Q hv3 hro3 hQn3 => ?_)
        refine XC.block ?_
        refine XC.seq ?_
        refine XC.region ?_
        refine XL.rd rfl rfl (lb rfl) (RO.fieldOwn fo_41_1 rfl) ?_
        refine XL.rd rfl rfl (lb rfl) (RO.loadOwnAgg ag_39 rfl rfl rfl rfl) ?_
        refine XL.rd rfl rfl (lb rfl) (RO.loadOwn ag_31 rfl rfl rfl) ?_
        refine bindK h3 (fun x36 hx36 h3 => ?_)
        refine XL.put rfl rfl (lb rfl) (OpOK.callO (b := 0) (m48o_ok a1.hi a0 nn x36 hx36) rfl (.agg (.cons (.d _) (.cons (.d _) .nil)) (.osl .nil)) rfl rfl rfl) ?_
        refine XL.rd rfl rfl (lb rfl) (RO.move rfl) ?_
        refine XL.rd rfl rfl (lb rfl) (RO.extract rfl rfl) ?_
        refine XL.rd rfl rfl (lb rfl) (RO.extract rfl rfl) ?_
        refine XL.put rfl rfl (lb rfl) (OpOK.alloc z_39 rfl) ?_
        refine XL.eff rfl rfl (OpOK.store ag_39 rfl rfl rfl rfl (lb rfl) rfl) ?_
        refine XL.rd rfl rfl (lb rfl) (RO.assign rfl) ?_
        refine XL.nil ?_
        refine XQ.seq ?_
        refine XC.seq ?_
        refine XC.seq ?_
        refine XC.region ?_
        refine XL.rd rfl rfl (lb rfl) (RO.move rfl) ?_
        refine XL.rd rfl rfl (lb rfl) (RO.binInt rfl rfl rfl) ?_
        refine XL.nil ?_
        refine XQ.seq ?_
        refine XC.cond (b := (x36.1 != 0)) rfl (fun c37 => ?_) (fun c37 => ?_)
        ·
         replace h3 := condT c37 h3
         refine XC.seq ?_
         refine XC.region ?_
         refine XL.eff rfl rfl (OpOK.store ag_4 rfl rfl rfl rfl (lb rfl) rfl) ?_
         refine XL.eff rfl rfl (OpOK.store ag_25 rfl rfl rfl rfl (lb rfl) rfl) ?_
         refine XL.nil ?_
         refine XQ.seq ?_
         refine XC.ret ?_
         have e_ := Option.some.inj h3
         subst e_
         exact XQ.of (e := .ret) (st' := ⟨[], [(0, .cells 39 (flatE a0)), (1, .cells 31 [.osl 0 0 nn nn]), (2, .cells 41 (cE a1)), (3, .cells 4 [dB false]), (4, .cells 25 [dI 15]), (5, .cells 39 [dI x1.2.1, dS x1.2.2]), (6, .cells 4 [dB false]), (7, .cells 39 [dI x1.2.1, dS x1.2.2]), (8, .obj (.deferred (some []))), (9, .loop .busy none [(2, .v (.one (.ptr 1 0))), (3, .v (.one (.ptr 2 0))), (4, .v (.one (.ptr 3 0))), (5, .v (.one (.ptr 4 0))), (8, .v (.one (.ptr 6 0))), (25, .v (.one (.fn 62 [(7, 0)])))] 65 #[26] m31o_c0 m31o_c1 8)], [], 12, 65, []⟩) hQn3 (stle tZ (hR rfl (hR rfl (hR rfl (hR rfl (hR rfl (hR rfl (hR rfl (hR rfl (hR rfl (hR rfl hZ)))))))))) kZ rfl (Nat.le_trans hv3 (lb rfl)) rfl rfl rfl (bF rfl (bB rfl rfl (bB rfl rfl (bB rfl rfl (bB rfl rfl (bB rfl rfl (bB rfl rfl (bB rfl rfl (bB rfl rfl (bB rfl rfl bZ)))))))))) rfl rfl)
        ·
         replace h3 := condF c37 h3
         refine XC.skip ?_
         refine XQ.seq ?_
         refine XC.seq ?_
         refine XC.seq ?_
         refine XC.region ?_
         refine XL.rd rfl rfl (lb rfl) (RO.loadOwnAgg ag_39 rfl rfl rfl rfl) ?_
         refine XL.rd rfl rfl (lb rfl) (RO.loadOwnAgg ag_39 rfl rfl rfl rfl) ?_
         refine guardK h3 (fun g38 h3 => ?_)
         refine XL.put rfl rfl (lb rfl) (OpOK.callFun (leq_fun (⟨x1.2.1, ([] : List LV)⟩ : Lvl) (⟨x36.2.1, x36.2.2⟩ : Lvl) (Nat.le_of_ble_eq_true (cond_left g38)) (Nat.le_of_ble_eq_true (cond_right g38))) rfl (.cons (.agg (.cons (.d _) (.cons (.nil _) .nil))) (.cons (.agg (.cons (.d _) (.cons (.d _) .nil))) .nil))) ?_
         refine XL.nil ?_
         refine XQ.seq ?_
         refine XC.cond (b := (leqB (⟨x1.2.1, ([] : List LV)⟩ : Lvl) (⟨x36.2.1, x36.2.2⟩ : Lvl))) rfl (fun c39 => ?_) (fun c39 => ?_)
         ·
          replace h3 := condT c39 h3
          refine XC.exit ?_
          refine XQ.thenE ?_
          refine XQ.blockX ?_
          have e_ := Option.some.inj h3
          subst e_
          exact XQ.of (e := .normal) (st' := ⟨[], [(0, .cells 39 (flatE a0)), (1, .cells 31 [.osl 0 0 nn nn]), (2, .cells 41 (cE a1)), (3, .cells 4 [dB false]), (4, .cells 25 [dI 0]), (5, .cells 39 [dI x1.2.1, dS x1.2.2]), (6, .cells 4 [dB false]), (7, .cells 39 [dI x1.2.1, dS x1.2.2]), (8, .obj (.deferred (some []))), (9, .loop .busy none [(2, .v (.one (.ptr 1 0))), (3, .v (.one (.ptr 2 0))), (4, .v (.one (.ptr 3 0))), (5, .v (.one (.ptr 4 0))), (8, .v (.one (.ptr 6 0))), (25, .v (.one (.fn 62 [(7, 0)])))] 65 #[26] m31o_c0 m31o_c1 8)], [], 12, 65, []⟩) hQn3 (stle tZ (hR rfl (hR rfl (hR rfl (hR rfl (hR rfl (hR rfl (hR rfl (hR rfl (hR rfl (hR rfl hZ)))))))))) kZ rfl (Nat.le_trans hv3 (lb rfl)) rfl rfl rfl (bF rfl (bB rfl rfl (bB rfl rfl (bB rfl rfl (bB rfl rfl (bB rfl rfl (bB rfl rfl (bB rfl rfl (bB rfl rfl (bB rfl rfl bZ)))))))))) rfl rfl)
         ·
          replace h3 := condF c39 h3
          refine XC.skip ?_
          refine XQ.seq ?_
          refine XC.seq ?_
          refine XC.region ?_
          refine XL.rd rfl rfl (lb rfl) (RO.fieldOwn fo_41_1 rfl) ?_
          refine XL.rd rfl rfl (lb rfl) (RO.loadOwnAgg ag_39 rfl rfl rfl rfl) ?_
          refine bindK h3 (fun x40 hx40 h3 => ?_)
          refine XL.put rfl rfl (lb rfl) (OpOK.callFun (m54_ok a1.hi x40 hx40) rfl (.cons (.agg (.cons (.d _) (.cons (.d _) .nil))) .nil)) ?_
          refine XL.rd rfl rfl (lb rfl) (RO.move rfl) ?_
          refine XL.rd rfl rfl (lb rfl) (RO.extract rfl rfl) ?_
          refine XL.rd rfl rfl (lb rfl) (RO.extract rfl rfl) ?_
          refine XL.rd rfl rfl (lb rfl) (RO.assign rfl) ?_
          refine XL.rd rfl rfl (lb rfl) (RO.assign rfl) ?_
          refine XL.nil ?_
          refine XQ.seq ?_
          refine XC.seq ?_
          refine XC.seq ?_
          refine XC.region ?_
          refine XL.rd rfl rfl (lb rfl) (RO.move rfl) ?_
          refine XL.rd rfl rfl (lb rfl) (RO.binInt rfl rfl rfl) ?_
          refine XL.nil ?_
          refine XQ.seq ?_
          refine XC.cond (b := (decide (x40.1 < 0))) rfl (fun c41 => ?_) (fun c41 => ?_)
          ·
           replace h3 := condT c41 h3
           refine XC.seq ?_
           refine XC.region ?_
           refine XL.eff rfl rfl (OpOK.store ag_4 rfl rfl rfl rfl (lb rfl) rfl) ?_
           refine XL.eff rfl rfl (OpOK.store ag_25 rfl rfl rfl rfl (lb rfl) rfl) ?_
           refine XL.nil ?_
           refine XQ.seq ?_
           refine XC.ret ?_
           have e_ := Option.some.inj h3
           subst e_
           exact XQ.of (e := .ret) (st' := ⟨[], [(0, .cells 39 (flatE a0)), (1, .cells 31 [.osl 0 0 nn nn]), (2, .cells 41 (cE a1)), (3, .cells 4 [dB false]), (4, .cells 25 [dI 15]), (5, .cells 39 [dI x1.2.1, dS x1.2.2]), (6, .cells 4 [dB false]), (7, .cells 39 [dI x1.2.1, dS x1.2.2]), (8, .obj (.deferred (some []))), (9, .loop .busy none [(2, .v (.one (.ptr 1 0))), (3, .v (.one (.ptr 2 0))), (4, .v (.one (.ptr 3 0))), (5, .v (.one (.ptr 4 0))), (8, .v (.one (.ptr 6 0))), (25, .v (.one (.fn 62 [(7, 0)])))] 65 #[26] m31o_c0 m31o_c1 8)], [], 12, 65, []⟩) hQn3 (stle tZ (hR rfl (hR rfl (hR rfl (hR rfl (hR rfl (hR rfl (hR rfl (hR rfl (hR rfl (hR rfl hZ)))))))))) kZ rfl (Nat.le_trans hv3 (lb rfl)) rfl rfl rfl (bF rfl (bB rfl rfl (bB rfl rfl (bB rfl rfl (bB rfl rfl (bB rfl rfl (bB rfl rfl (bB rfl rfl (bB rfl rfl (bB rfl rfl bZ)))))))))) rfl rfl)
          ·
           replace h3 := condF c41 h3
           refine XC.skip ?_
           refine XQ.seq ?_
           refine XC.seq ?_
           refine XC.anyRun [11, 12] [(0, 1), (1, 1), (2, 1), (3, 1), (4, 1), (5, 1), (6, 1), (7, 1), (8, 1), (9, 1), (10, 1), (10, 2)] mixed (by kernel_rfl) (by kernel_rfl) (by kernel_rfl) ?_
           refine RunA.rd rfl rfl rfl (OpOK.of_ro (RO.loadOwn ag_31 rfl rfl rfl)) rfl ?_
           refine RunA.rd rfl rfl rfl (OpOK.of_ro (RO.move rfl)) rfl ?_
           refine bindK h3 (fun x42 hx42 h3 => ?_)
           refine guardK h3 (fun g43 h3 => ?_)
           refine RunA.rd rfl rfl rfl (OpOK.of_ro (RO.indexO (α := Lvl) sl_31 rfl rfl hx42 g43)) rfl ?_
           refine RunA.rd rfl rfl rfl (OpOK.of_ro (RO.loadOE (α := Lvl) (ys := [dI x42.c, dS x42.vs]) ag_39 rfl rfl hx42 rfl)) rfl ?_
           refine RunA.rd rfl rfl rfl (OpOK.of_ro (RO.loadOwnAgg ag_39 rfl rfl rfl rfl)) rfl ?_
           refine RunA.rd rfl rfl rfl (OpOK.of_ro (RO.move rfl)) rfl ?_
           refine bindK h3 (fun x44 hx44 h3 => ?_)
           refine RunA.rd rfl rfl rfl (OpOK.callFun (m56_ok (⟨x1.2.1, ([] : List LV)⟩ : Lvl) x40.2 x44 hx44) rfl (.cons (.agg (.cons (.d _) (.cons (.nil _) .nil))) (.cons (.one (.d _)) .nil))) rfl ?_
           refine bindK h3 (fun x45 hx45 h3 => ?_)
           refine RunA.rd rfl rfl rfl (OpOK.callFun (m55_ok x42 x44 x45 hx45) rfl (.cons (.agg (.cons (.d _) (.cons (.d _) .nil))) (.cons (.agg (.cons (.d _) (.cons (.d _) .nil))) .nil))) rfl ?_
           refine RunA.rd rfl rfl rfl (OpOK.of_ro (RO.move rfl)) rfl ?_
           refine RunA.rd rfl rfl rfl (OpOK.of_ro (RO.extract rfl rfl)) rfl ?_
           refine RunA.rd rfl rfl rfl (OpOK.of_ro (RO.extract rfl rfl)) rfl ?_
           refine RunA.eff rfl rfl rfl (OpOK.alloc z_39 rfl) rfl ?_
           refine RunA.eff rfl rfl rfl (OpOK.store ag_39 rfl rfl rfl rfl (lb rfl) rfl) rfl ?_
           refine RunA.rd rfl rfl rfl (OpOK.of_ro (RO.assign rfl)) rfl ?_
           refine RunA.nil ⟨?ex, _, _, rfl, ?_⟩
           case ex => exact ⟨⟨_, rfl, _, _, rfl, rfl, rfl, .inl ⟨rfl, _, OpOK.of_ro (RO.loadOwn ag_31 rfl rfl rfl), rfl⟩⟩, ⟨_, rfl, _, _, rfl, rfl, rfl, .inl ⟨rfl, _, OpOK.of_ro (RO.move rfl), rfl⟩⟩, ⟨_, rfl, _, _, rfl, rfl, rfl, .inl ⟨rfl, _, OpOK.of_ro (RO.indexO (α := Lvl) sl_31 rfl rfl hx42 g43), rfl⟩⟩, ⟨_, rfl, _, _, rfl, rfl, rfl, .inl ⟨rfl, _, OpOK.of_ro (RO.loadOE (α := Lvl) (ys := [dI x42.c, dS x42.vs]) ag_39 rfl rfl hx42 rfl), rfl⟩⟩, ⟨_, rfl, _, _, rfl, rfl, rfl, .inl ⟨rfl, _, OpOK.of_ro (RO.loadOwnAgg ag_39 rfl rfl rfl rfl), rfl⟩⟩, ⟨_, rfl, _, _, rfl, rfl, rfl, .inl ⟨rfl, _, OpOK.of_ro (RO.move rfl), rfl⟩⟩, ⟨_, rfl, _, _, rfl, rfl, rfl, .inl ⟨rfl, _, OpOK.callFun (m56_ok (⟨x1.2.1, ([] : List LV)⟩ : Lvl) x40.2 x44 hx44) rfl (.cons (.agg (.cons (.d _) (.cons (.nil _) .nil))) (.cons (.one (.d _)) .nil)), rfl⟩⟩, ⟨_, rfl, _, _, rfl, rfl, rfl, .inl ⟨rfl, _, OpOK.callFun (m55_ok x42 x44 x45 hx45) rfl (.cons (.agg (.cons (.d _) (.cons (.d _) .nil))) (.cons (.agg (.cons (.d _) (.cons (.d _) .nil))) .nil)), rfl⟩⟩, ⟨_, rfl, _, _, rfl, rfl, rfl, .inl ⟨rfl, _, OpOK.of_ro (RO.move rfl), rfl⟩⟩, ⟨_, rfl, _, _, rfl, rfl, rfl, .inl ⟨rfl, _, OpOK.of_ro (RO.extract rfl rfl), rfl⟩⟩, ⟨_, rfl, _, _, rfl, rfl, rfl, .inl ⟨rfl, _, OpOK.of_ro (RO.extract rfl rfl), rfl⟩⟩, ⟨_, rfl, _, _, rfl, rfl, rfl, .inl ⟨rfl, _, OpOK.of_ro (RO.extract rfl rfl), rfl⟩⟩, trivial⟩
           refine XQ.less (st' := ⟨[(2, .v (.one (.ptr 1 0))), (4, .v (.one (.ptr 3 0))), (5, .v (.one (.ptr 4 0))), (8, .v (.one (.ptr 6 0))), (11, .v (.one (dI x45.2))), (12, .v (.one (dI x40.1))), (14, .v (.one (.ptr 12 0)))], [(0, .cells 39 (flatE a0)), (1, .cells 31 [.osl 0 0 nn nn]), (2, .cells 41 (cE a1)), (3, .cells 4 [dB false]), (4, .cells 25 [dI 0]), (5, .cells 39 [dI x1.2.1, dS x1.2.2]), (6, .cells 4 [dB false]), (7, .cells 39 [dI x1.2.1, dS x1.2.2]), (8, .obj (.deferred (some []))), (9, .loop .busy none [(2, .v (.one (.ptr 1 0))), (3, .v (.one (.ptr 2 0))), (4, .v (.one (.ptr 3 0))), (5, .v (.one (.ptr 4 0))), (8, .v (.one (.ptr 6 0))), (25, .v (.one (.fn 62 [(7, 0)])))] 65 #[26] m31o_c0 m31o_c1 8), (10, .cells 39 [dI x1.2.1, dN]), (11, .cells 39 [dI x36.2.1, dS x36.2.2]), (12, .cells 39 (cE x45.1))], [], 13, 65, []⟩) (stle (tR rfl (tR rfl (tR rfl (tR rfl (tR rfl (tR rfl (tR rfl tZ))))))) (hR rfl (hR rfl (hR rfl (hR rfl (hR rfl (hR rfl (hR rfl (hR rfl (hR rfl (hR rfl (hR rfl (hR rfl (hR rfl hZ))))))))))))) kZ rfl (Nat.le_trans hv3 (lb rfl)) rfl rfl rfl (bF rfl (bB rfl rfl (bB rfl rfl (bB rfl rfl (bB rfl rfl (bB rfl rfl (bB rfl rfl (bB rfl rfl (bB rfl rfl (bB rfl rfl (bB rfl rfl (bB rfl rfl (bB rfl rfl bZ))))))))))))) rfl rfl) ?_
           refine XQ.seq ?_
           refine XC.seq ?_
           refine XC.seq ?_
           refine XC.region ?_
           refine XL.rd rfl rfl (lb rfl) (RO.move rfl) ?_
           refine XL.rd rfl rfl (lb rfl) (RO.binInt rfl rfl rfl) ?_
           refine XL.nil ?_
           refine XQ.seq ?_
           refine XC.cond (b := (x45.2 != 0)) rfl (fun c46 => ?_) (fun c46 => ?_)
           ·
            replace h3 := condT c46 h3
            refine XC.seq ?_
            refine XC.region ?_
            refine XL.eff rfl rfl (OpOK.store ag_4 rfl rfl rfl rfl (lb rfl) rfl) ?_
            refine XL.eff rfl rfl (OpOK.store ag_25 rfl rfl rfl rfl (lb rfl) rfl) ?_
            refine XL.nil ?_
            refine XQ.seq ?_
            refine XC.ret ?_
            have e_ := Option.some.inj h3
            subst e_
            exact XQ.of (e := .ret) (st' := ⟨[], [(0, .cells 39 (flatE a0)), (1, .cells 31 [.osl 0 0 nn nn]), (2, .cells 41 (cE a1)), (3, .cells 4 [dB false]), (4, .cells 25 [dI 15]), (5, .cells 39 [dI x1.2.1, dS x1.2.2]), (6, .cells 4 [dB false]), (7, .cells 39 [dI x1.2.1, dS x1.2.2]), (8, .obj (.deferred (some []))), (9, .loop .busy none [(2, .v (.one (.ptr 1 0))), (3, .v (.one (.ptr 2 0))), (4, .v (.one (.ptr 3 0))), (5, .v (.one (.ptr 4 0))), (8, .v (.one (.ptr 6 0))), (25, .v (.one (.fn 62 [(7, 0)])))] 65 #[26] m31o_c0 m31o_c1 8)], [], 12, 65, []⟩) hQn3 (stle tZ (hR rfl (hR rfl (hR rfl (hR rfl (hR rfl (hR rfl (hR rfl (hR rfl (hR rfl (hR rfl hZ)))))))))) kZ rfl (Nat.le_trans hv3 (lb rfl)) rfl rfl rfl (bF rfl (bB rfl rfl (bB rfl rfl (bB rfl rfl (bB rfl rfl (bB rfl rfl (bB rfl rfl (bB rfl rfl (bB rfl rfl (bB rfl rfl bZ)))))))))) rfl rfl)
           ·
            replace h3 := condF c46 h3
            refine XC.skip ?_
            refine XQ.seq ?_
            refine XC.region ?_
            refine XL.rd rfl rfl (lb rfl) (RO.loadOwn ag_31 rfl rfl rfl) ?_
            refine XL.rd rfl rfl (lb rfl) (RO.move rfl) ?_
            refine XL.rd rfl rfl (lb rfl) (RO.loadOwnAgg ag_39 rfl rfl rfl rfl) ?_
            refine bindK h3 (fun x47 hx47 h3 => ?_)
            refine guardK h3 (fun g48 h3 => ?_)
            refine XL.rd rfl rfl (lb rfl) (RO.indexO (α := Lvl) sl_31 rfl rfl hx47 g48) ?_
            refine XL.eff rfl rfl (OpOK.storeOE (α := Lvl) (y' := .agg [dI x45.1.c, dS x45.1.vs]) (v := x45.1) ag_39 rfl rfl (.agg (.cons (.d _) (.cons (.d _) .nil))) rfl rfl hx47 rfl) ?_
            refine XL.eff rfl rfl (OpOK.store ag_4 rfl rfl rfl rfl (lb rfl) rfl) ?_
            refine XL.nil ?_
            refine XQ.inBlock ?_
            have e_ := Option.some.inj h3
            subst e_
            exact XQ.of (e := .normal) (st' := ⟨[], [(0, .cells 39 (flatE ((a0.set x40.1.toNat x45.1) : List Lvl))), (1, .cells 31 [.osl 0 0 nn nn]), (2, .cells 41 (cE a1)), (3, .cells 4 [dB false]), (4, .cells 25 [dI 0]), (5, .cells 39 [dI x1.2.1, dS x1.2.2]), (6, .cells 4 [dB true]), (7, .cells 39 [dI x1.2.1, dS x1.2.2]), (8, .obj (.deferred (some []))), (9, .loop .busy none [(2, .v (.one (.ptr 1 0))), (3, .v (.one (.ptr 2 0))), (4, .v (.one (.ptr 3 0))), (5, .v (.one (.ptr 4 0))), (8, .v (.one (.ptr 6 0))), (25, .v (.one (.fn 62 [(7, 0)])))] 65 #[26] m31o_c0 m31o_c1 8)], [], 12, 65, []⟩) hQn3 (stle tZ (hR rfl (hR rfl (hR rfl (hR rfl (hR rfl (hR rfl (hR rfl (hR rfl (hR rfl (hR rfl hZ)))))))))) kZ rfl (Nat.le_trans hv3 (lb rfl)) rfl rfl rfl (bF rfl (bB rfl rfl (bB rfl rfl (bB rfl rfl (bB rfl rfl (bB rfl rfl (bB rfl rfl (bB rfl rfl (bB rfl rfl (bB rfl rfl bZ)))))))))) rfl rfl)
       refine sumK (C := fun q_ => ExecOK Try.prog (some 9) m31o_c1 ⟨[(2, .v (.one (.ptr 1 0))), (3, .v (.one (.ptr 2 0))), (4, .v (.one (.ptr 3 0))), (5, .v (.one (.ptr 4 0))), (8, .v (.one (.ptr 6 0))), (9, .v (.one (.ptr 10 0)))], [(0, .cells 39 (flatE a0)), (1, .cells 31 [.osl 0 0 nn nn]), (2, .cells 41 (cE a1)), (3, .cells 4 [dB false]), (4, .cells 25 [dI 0]), (5, .cells 39 [dI x1.2.1, dS x1.2.2]), (6, .cells 4 [dB false]), (7, .cells 39 [dI x1.2.1, dS x1.2.2]), (8, .obj (.deferred (some []))), (9, .loop .busy none [(2, .v (.one (.ptr 1 0))), (3, .v (.one (.ptr 2 0))), (4, .v (.one (.ptr 3 0))), (5, .v (.one (.ptr 4 0))), (8, .v (.one (.ptr 6 0))), (25, .v (.one (.fn 62 [(7, 0)])))] 65 #[26] m31o_c0 m31o_c1 8), (10, .cells 39 [dI x1.2.1, dN])], [], 11, 65, []⟩ ((Sum.elim (fun (_ : (List Lvl) × Bool) => (.normal : Exit)) (fun (_ : Unit) => (.ret : Exit))) q_) ((Sum.elim (fun (y31 : (List Lvl) × Bool) => (⟨[], [(0, .cells 39 (flatE y31.1)), (1, .cells 31 [.osl 0 0 nn nn]), (2, .cells 41 (cE a1)), (3, .cells 4 [dB false]), (4, .cells 25 [dI 0]), (5, .cells 39 [dI x1.2.1, dS x1.2.2]), (6, .cells 4 [dB y31.2]), (7, .cells 39 [dI x1.2.1, dS x1.2.2]), (8, .obj (.deferred (some []))), (9, .loop .busy none [(2, .v (.one (.ptr 1 0))), (3, .v (.one (.ptr 2 0))), (4, .v (.one (.ptr 3 0))), (5, .v (.one (.ptr 4 0))), (8, .v (.one (.ptr 6 0))), (25, .v (.one (.fn 62 [(7, 0)])))] 65 #[26] m31o_c0 m31o_c1 8)], [], 12, 65, []⟩ : St)) (fun (y32 : Unit) => (⟨[], [(0, .cells 39 (flatE a0)), (1, .cells 31 [.osl 0 0 nn nn]), (2, .cells 41 (cE a1)), (3, .cells 4 [dB false]), (4, .cells 25 [dI 15]), (5, .cells 39 [dI x1.2.1, dS x1.2.2]), (6, .cells 4 [dB false]), (7, .cells 39 [dI x1.2.1, dS x1.2.2]), (8, .obj (.deferred (some []))), (9, .loop .busy none [(2, .v (.one (.ptr 1 0))), (3, .v (.one (.ptr 2 0))), (4, .v (.one (.ptr 3 0))), (5, .v (.one (.ptr 4 0))), (8, .v (.one (.ptr 6 0))), (25, .v (.one (.fn 62 [(7, 0)])))] 65 #[26] m31o_c0 m31o_c1 8)], [], 12, 65, []⟩ : St))) q_)) hb35 h2 (fun y31 hb35 h2 => ?_) (fun y32 hb35 h2 => ?_)
       ·
        replace hb35 : ExecOK Try.prog (some 9) m31o_c1 ⟨[(2, .v (.one (.ptr 1 0))), (3, .v (.one (.ptr 2 0))), (4, .v (.one (.ptr 3 0))), (5, .v (.one (.ptr 4 0))), (8, .v (.one (.ptr 6 0))), (9, .v (.one (.ptr 10 0)))], [(0, .cells 39 (flatE a0)), (1, .cells 31 [.osl 0 0 nn nn]), (2, .cells 41 (cE a1)), (3, .cells 4 [dB false]), (4, .cells 25 [dI 0]), (5, .cells 39 [dI x1.2.1, dS x1.2.2]), (6, .cells 4 [dB false]), (7, .cells 39 [dI x1.2.1, dS x1.2.2]), (8, .obj (.deferred (some []))), (9, .loop .busy none [(2, .v (.one (.ptr 1 0))), (3, .v (.one (.ptr 2 0))), (4, .v (.one (.ptr 3 0))), (5, .v (.one (.ptr 4 0))), (8, .v (.one (.ptr 6 0))), (25, .v (.one (.fn 62 [(7, 0)])))] 65 #[26] m31o_c0 m31o_c1 8), (10, .cells 39 [dI x1.2.1, dN])], [], 11, 65, []⟩ .normal ⟨[], [(0, .cells 39 (flatE y31.1)), (1, .cells 31 [.osl 0 0 nn nn]), (2, .cells 41 (cE a1)), (3, .cells 4 [dB false]), (4, .cells 25 [dI 0]), (5, .cells 39 [dI x1.2.1, dS x1.2.2]), (6, .cells 4 [dB y31.2]), (7, .cells 39 [dI x1.2.1, dS x1.2.2]), (8, .obj (.deferred (some []))), (9, .loop .busy none [(2, .v (.one (.ptr 1 0))), (3, .v (.one (.ptr 2 0))), (4, .v (.one (.ptr 3 0))), (5, .v (.one (.ptr 4 0))), (8, .v (.one (.ptr 6 0))), (25, .v (.one (.fn 62 [(7, 0)])))] 65 #[26] m31o_c0 m31o_c1 8)], [], 12, 65, []⟩ := hb35
        refine XL.put rfl rfl (lb rfl) (OpOK.yield (jump := none) rfl rfl rfl rfl rfl (ExecOK.from ha34 (fun E hv => (stle (tR rfl (tR rfl (tR rfl (tR rfl (tR rfl (tR rfl (tR rfl tZ))))))) (hR rfl (hR rfl (hR rfl (hR rfl (hR rfl (hR rfl (hR rfl (hR rfl (hR rfl (hR rfl hZ)))))))))) kZ rfl (Nat.le_trans hv (lb rfl)) rfl rfl rfl (bF rfl (bB rfl rfl (bB rfl rfl (bB rfl rfl (bB rfl rfl (bB rfl rfl (bB rfl rfl (bB rfl rfl (bB rfl rfl (bB rfl rfl bZ)))))))))) rfl rfl))) rfl (ExecOK.from hb35 (fun E hv => (stle (tR rfl (tR rfl (tR rfl (tR rfl (tR rfl (tR rfl tZ)))))) (hR rfl (hR rfl (hR rfl (hR rfl (hR rfl (hR rfl (hR rfl (hR rfl (hR rfl (hR rfl (hR rfl hZ))))))))))) kZ rfl (Nat.le_trans hv (lb rfl)) rfl rfl rfl (bF rfl (bB rfl rfl (bB rfl rfl (bB rfl rfl (bB rfl rfl (bB rfl rfl (bB rfl rfl (bB rfl rfl (bB rfl rfl (bB rfl rfl (bB rfl rfl bZ))))))))))) rfl rfl))) rfl rfl) ?_
        refine XL.rd rfl rfl (lb rfl) (RO.not rfl) ?_
        refine XL.rd rfl rfl (lb rfl) (RO.pickT rfl rfl) ?_
        refine XL.nil ?_
        have e_ := Option.some.inj h2
        subst e_
        exact XQ.joinRl (y31.1, y31.2) (stle (tR rfl (tR rfl (tR rfl tZ))) (hR rfl (hR rfl (hR rfl (hR rfl (hR rfl (hR rfl (hR rfl (hR rfl (hR rfl (hR rfl hZ)))))))))) kZ rfl (Nat.le_trans hv1 (lb rfl)) rfl rfl rfl (bF rfl (bB rfl rfl (bB rfl rfl (bB rfl rfl (bB rfl rfl (bB rfl rfl (bB rfl rfl (bB rfl rfl (bB rfl rfl (bB rfl rfl bZ)))))))))) rfl rfl) h1
       ·
        replace hb35 : ExecOK Try.prog (some 9) m31o_c1 ⟨[(2, .v (.one (.ptr 1 0))), (3, .v (.one (.ptr 2 0))), (4, .v (.one (.ptr 3 0))), (5, .v (.one (.ptr 4 0))), (8, .v (.one (.ptr 6 0))), (9, .v (.one (.ptr 10 0)))], [(0, .cells 39 (flatE a0)), (1, .cells 31 [.osl 0 0 nn nn]), (2, .cells 41 (cE a1)), (3, .cells 4 [dB false]), (4, .cells 25 [dI 0]), (5, .cells 39 [dI x1.2.1, dS x1.2.2]), (6, .cells 4 [dB false]), (7, .cells 39 [dI x1.2.1, dS x1.2.2]), (8, .obj (.deferred (some []))), (9, .loop .busy none [(2, .v (.one (.ptr 1 0))), (3, .v (.one (.ptr 2 0))), (4, .v (.one (.ptr 3 0))), (5, .v (.one (.ptr 4 0))), (8, .v (.one (.ptr 6 0))), (25, .v (.one (.fn 62 [(7, 0)])))] 65 #[26] m31o_c0 m31o_c1 8), (10, .cells 39 [dI x1.2.1, dN])], [], 11, 65, []⟩ .ret ⟨[], [(0, .cells 39 (flatE a0)), (1, .cells 31 [.osl 0 0 nn nn]), (2, .cells 41 (cE a1)), (3, .cells 4 [dB false]), (4, .cells 25 [dI 15]), (5, .cells 39 [dI x1.2.1, dS x1.2.2]), (6, .cells 4 [dB false]), (7, .cells 39 [dI x1.2.1, dS x1.2.2]), (8, .obj (.deferred (some []))), (9, .loop .busy none [(2, .v (.one (.ptr 1 0))), (3, .v (.one (.ptr 2 0))), (4, .v (.one (.ptr 3 0))), (5, .v (.one (.ptr 4 0))), (8, .v (.one (.ptr 6 0))), (25, .v (.one (.fn 62 [(7, 0)])))] 65 #[26] m31o_c0 m31o_c1 8)], [], 12, 65, []⟩ := hb35
        refine XL.put rfl rfl (lb rfl) (OpOK.yield (jump := (some .ret)) rfl rfl rfl rfl rfl (ExecOK.from ha34 (fun E hv => (stle (tR rfl (tR rfl (tR rfl (tR rfl (tR rfl (tR rfl (tR rfl tZ))))))) (hR rfl (hR rfl (hR rfl (hR rfl (hR rfl (hR rfl (hR rfl (hR rfl (hR rfl (hR rfl hZ)))))))))) kZ rfl (Nat.le_trans hv (lb rfl)) rfl rfl rfl (bF rfl (bB rfl rfl (bB rfl rfl (bB rfl rfl (bB rfl rfl (bB rfl rfl (bB rfl rfl (bB rfl rfl (bB rfl rfl (bB rfl rfl bZ)))))))))) rfl rfl))) rfl (ExecOK.from hb35 (fun E hv => (stle (tR rfl (tR rfl (tR rfl (tR rfl (tR rfl (tR rfl tZ)))))) (hR rfl (hR rfl (hR rfl (hR rfl (hR rfl (hR rfl (hR rfl (hR rfl (hR rfl (hR rfl (hR rfl hZ))))))))))) kZ rfl (Nat.le_trans hv (lb rfl)) rfl rfl rfl (bF rfl (bB rfl rfl (bB rfl rfl (bB rfl rfl (bB rfl rfl (bB rfl rfl (bB rfl rfl (bB rfl rfl (bB rfl rfl (bB rfl rfl (bB rfl rfl bZ))))))))))) rfl rfl))) rfl rfl) ?_
        refine XL.rd rfl rfl (lb rfl) (RO.not rfl) ?_
        refine XL.rd rfl rfl (lb rfl) (RO.pickT rfl rfl) ?_
        refine XL.nil ?_
        have e_ := Option.some.inj h2
        subst e_
        exact XQ.joinRr () (stle (tR rfl (tR rfl (tR rfl tZ))) (hR rfl (hR rfl (hR rfl (hR rfl (hR rfl (hR rfl (hR rfl (hR rfl (hR rfl (hR rfl hZ)))))))))) kZ rfl (Nat.le_trans hv1 (lb rfl)) rfl rfl rfl (bF rfl (bB rfl rfl (bB rfl rfl (bB rfl rfl (bB rfl rfl (bB rfl rfl (bB rfl rfl (bB rfl rfl (bB rfl rfl (bB rfl rfl bZ)))))))))) rfl rfl) h1
      ·
       replace h2 := condF c30 h2
       refine XL.no rfl rfl ?_
       refine XL.no rfl rfl ?_
       refine XL.no rfl rfl ?_
       refine XL.no rfl rfl ?_
       refine XL.no rfl rfl ?_
       refine XL.no rfl rfl ?_
       refine XL.rd rfl rfl (lb rfl) (RO.pickF rfl rfl) ?_
       refine XL.nil ?_
       have e_ := Option.some.inj h2
       subst e_
       exact XQ.joinRl (a0, false) (stle (tR rfl (tR rfl (tR rfl tZ))) (hR rfl (hR rfl (hR rfl (hR rfl (hR rfl (hR rfl (hR rfl (hR rfl (hR rfl (hR rfl hZ)))))))))) kZ rfl (Nat.le_trans hv1 (lb rfl)) rfl rfl rfl (bF rfl (bB rfl rfl (bB rfl rfl (bB rfl rfl (bB rfl rfl (bB rfl rfl (bB rfl rfl (bB rfl rfl (bB rfl rfl (bB rfl rfl bZ)))))))))) rfl rfl) h1
    ·
     intro v9 h1
     refine XQ.seq ?_
     refine XC.cond rfl (fun h => nomatch h) (fun _ => ?_)
     refine XC.skip ?_
     refine XQ.seq ?_
     refine XC.seq ?_
     refine XC.region ?_
     refine XL.rd rfl rfl (lb rfl) (RO.fieldOwn fo_39_1 rfl) ?_
     refine XL.rd rfl rfl (lb rfl) (RO.loadOwn ag_37 rfl rfl rfl) ?_
     refine XL.rd rfl rfl (lb rfl) (RO.lenE (α := LV) sl_37 rfl (.d _)) ?_
     refine XL.rd rfl rfl (lb rfl) (RO.move rfl) ?_
     refine XL.nil ?_
     refine XQ.seq ?_
     refine XC.block ?_
     refine XC.joinX 0 (fun (o49 : (List Lvl) × Bool) => ⟨[], [(0, .cells 39 (flatE o49.1)), (1, .cells 31 [.osl 0 0 nn nn]), (2, .cells 41 (cE a1)), (3, .cells 4 [dB false]), (4, .cells 25 [dI 0]), (5, .cells 39 [dI x1.2.1, dS x1.2.2]), (6, .cells 4 [dB o49.2]), (7, .cells 39 [dI x1.2.1, dS x1.2.2]), (8, .obj (.deferred (some []))), (9, .loop .ready none [(2, .v (.one (.ptr 1 0))), (3, .v (.one (.ptr 2 0))), (4, .v (.one (.ptr 3 0))), (5, .v (.one (.ptr 4 0))), (8, .v (.one (.ptr 6 0))), (25, .v (.one (.fn 62 [(7, 0)])))] 65 #[26] m31o_c0 m31o_c1 8)], [], 10, 36, []⟩) (fun (o49 : (List Lvl) × Bool) => (some (.inl (o49.1, o49.2))) = some y8) ?_ ?_
     ·
      refine bindK h1 (fun o50 hl2 h1 => ?_)
      refine XC.loopM (m31o_l0 x1 a1 nn) (fun s2 => ⟨[(0, .v (.one (.yld 9))), (23, .v (.one (dS x1.2.2))), (24, .v (.one (dI (x1.2.2.length : Int)))), (25, .v (.one (dI s2.1)))], [(0, .cells 39 (flatE s2.2.1)), (1, .cells 31 [.osl 0 0 nn nn]), (2, .cells 41 (cE a1)), (3, .cells 4 [dB false]), (4, .cells 25 [dI 0]), (5, .cells 39 [dI x1.2.1, dS x1.2.2]), (6, .cells 4 [dB s2.2.2]), (7, .cells 39 [dI x1.2.1, dS x1.2.2]), (8, .obj (.deferred (some []))), (9, .loop .ready none [(2, .v (.one (.ptr 1 0))), (3, .v (.one (.ptr 2 0))), (4, .v (.one (.ptr 3 0))), (5, .v (.one (.ptr 4 0))), (8, .v (.one (.ptr 6 0))), (25, .v (.one (.fn 62 [(7, 0)])))] 65 #[26] m31o_c0 m31o_c1 8)], [], 10, 36, []⟩) (0, v9.1, v9.2) o50 (stle (tR rfl (tR rfl (tR rfl (tR rfl tZ)))) (hR rfl (hR rfl (hR rfl (hR rfl (hR rfl (hR rfl (hR rfl (hR rfl (hR rfl (hR rfl hZ)))))))))) kZ rfl (Nat.le_trans hv1 (lb rfl)) rfl rfl rfl (bF rfl (bB rfl rfl (bB rfl rfl (bB rfl rfl (bB rfl rfl (bB rfl rfl (bB rfl rfl (bB rfl rfl (bB rfl rfl (bB rfl rfl bZ)))))))))) rfl rfl) hl2 (fun s2 n2 oo2 h2 ho2 => ?_)
      unfold m31o_l0 at h2
      refine XC.seq ?_
      refine XC.region ?_
      refine XL.rd rfl rfl (lb rfl) (RO.binInt rfl rfl rfl) ?_
      refine XL.nil ?_
      refine XQ.seq ?_
      refine XC.seq ?_
      refine XC.cond (b := (decide (s2.1 < (x1.2.2.length : Int)))) rfl (fun c51 => ?_) (fun c51 => ?_)
      ·
       replace h2 := condT c51 h2
       refine XC.skip ?_
       refine XQ.seq ?_
       refine XC.seq ?_
       refine XC.block ?_
       refine XC.seq ?_
       refine XC.region ?_
       refine bindK h2 (fun x52 hx52 h2 => ?_)
       refine XL.rd rfl rfl (lb rfl) (RO.indexE (α := LV) sl_37 rfl (.d _) rfl hx52) ?_
       refine XL.rd rfl rfl (lb rfl) (RO.loadPelAgg ag_59 rfl rfl rfl) ?_
       refine XL.put rfl rfl (lb rfl) (OpOK.alloc z_59 rfl) ?_
       refine XL.eff rfl rfl (OpOK.store ag_59 rfl rfl rfl rfl (lb rfl) rfl) ?_
       refine XL.nil ?_
       refine XQ.seq ?_
       refine XC.seq ?_
       refine XC.region ?_
       refine XL.rd rfl rfl (lb rfl) (RO.move rfl) ?_
       refine XL.rd rfl rfl (lb rfl) (RO.loadOwnAgg ag_59 rfl rfl rfl rfl) ?_
       refine XL.put rfl rfl (lb rfl) (OpOK.lit1E (α := LV) (x52) sl_37 z_59 rfl rfl (lb rfl) (lb rfl) rfl rfl (.cons (.d _) (.cons (.d _) .nil)) rfl) ?_
       refine XL.rd rfl rfl (lb rfl) (RO.build1 bd_39 rfl rfl rfl) ?_
       refine bindK h2 (fun y55 h3 h2 => ?_)
       have ha56 : ExecOK Try.prog (some 9) m31o_c0 ⟨[(2, .v (.one (.ptr 1 0))), (3, .v (.one (.ptr 2 0))), (4, .v (.one (.ptr 3 0))), (5, .v (.one (.ptr 4 0))), (8, .v (.one (.ptr 6 0))), (25, .v (.one (.fn 62 [(7, 0)]))), (26, .v (.agg [dI 0, dA 11 ([x52] : List LV)]))], [(0, .cells 39 (flatE s2.2.1)), (1, .cells 31 [.osl 0 0 nn nn]), (2, .cells 41 (cE a1)), (3, .cells 4 [dB false]), (4, .cells 25 [dI 0]), (5, .cells 39 [dI x1.2.1, dS x1.2.2]), (6, .cells 4 [dB s2.2.2]), (7, .cells 39 [dI x1.2.1, dS x1.2.2]), (8, .obj (.deferred (some []))), (9, .loop .ready none [(2, .v (.one (.ptr 1 0))), (3, .v (.one (.ptr 2 0))), (4, .v (.one (.ptr 3 0))), (5, .v (.one (.ptr 4 0))), (8, .v (.one (.ptr 6 0))), (25, .v (.one (.fn 62 [(7, 0)])))] 65 #[26] m31o_c0 m31o_c1 8), (10, .cells 59 (cE x52))], [(11, some ⟨59, 2, (Enc.encL ([x52] : List LV)).length⟩)], 12, 65, []⟩ .normal ⟨[(2, .v (.one (.ptr 1 0))), (3, .v (.one (.ptr 2 0))), (4, .v (.one (.ptr 3 0))), (5, .v (.one (.ptr 4 0))), (8, .v (.one (.ptr 6 0))), (9, .v (.one (.ptr 12 0)))], [(0, .cells 39 (flatE s2.2.1)), (1, .cells 31 [.osl 0 0 nn nn]), (2, .cells 41 (cE a1)), (3, .cells 4 [dB false]), (4, .cells 25 [dI 0]), (5, .cells 39 [dI x1.2.1, dS x1.2.2]), (6, .cells 4 [dB s2.2.2]), (7, .cells 39 [dI x1.2.1, dS x1.2.2]), (8, .obj (.deferred (some []))), (9, .loop .ready none [(2, .v (.one (.ptr 1 0))), (3, .v (.one (.ptr 2 0))), (4, .v (.one (.ptr 3 0))), (5, .v (.one (.ptr 4 0))), (8, .v (.one (.ptr 6 0))), (25, .v (.one (.fn 62 [(7, 0)])))] 65 #[26] m31o_c0 m31o_c1 8), (10, .cells 59 (cE x52)), (12, .cells 39 [dI 0, dA 11 ([x52] : List LV)])], [(11, some ⟨59, 2, (Enc.encL ([x52] : List LV)).length⟩)], 13, 65, []⟩ := by
        refine ExecOK.walk (fun w0 M V0 ro n Q hv3 hro3 hQn3 => ?_)
        refine XC.region ?_
        refine XL.put rfl rfl (lb rfl) (OpOK.alloc z_39 rfl) ?_
        refine XL.eff rfl rfl (OpOK.store ag_39 rfl rfl rfl rfl (lb rfl) rfl) ?_
        refine XL.nil ?_
        exact XQ.of hQn3 (stle (tR rfl (tR rfl (tR rfl (tR rfl (tR rfl (tR rfl tZ)))))) (hR rfl (hR rfl (hR rfl (hR rfl (hR rfl (hR rfl (hR rfl (hR rfl (hR rfl (hR rfl (hR rfl (hR rfl hZ)))))))))))) (kR rfl kZ) rfl (Nat.le_trans hv3 (lb rfl)) rfl rfl rfl (bF rfl (bB rfl rfl (bB rfl rfl (bB rfl rfl (bB rfl rfl (bB rfl rfl (bB rfl rfl (bB rfl rfl (bB rfl rfl (bB rfl rfl (bB rfl rfl (bB rfl rfl bZ)))))))))))) rfl rfl)
       have hb57 : ExecOK Try.prog (some 9) m31o_c1 ⟨[(2, .v (.one (.ptr 1 0))), (3, .v (.one (.ptr 2 0))), (4, .v (.one (.ptr 3 0))), (5, .v (.one (.ptr 4 0))), (8, .v (.one (.ptr 6 0))), (9, .v (.one (.ptr 12 0)))], [(0, .cells 39 (flatE s2.2.1)), (1, .cells 31 [.osl 0 0 nn nn]), (2, .cells 41 (cE a1)), (3, .cells 4 [dB false]), (4, .cells 25 [dI 0]), (5, .cells 39 [dI x1.2.1, dS x1.2.2]), (6, .cells 4 [dB s2.2.2]), (7, .cells 39 [dI x1.2.1, dS x1.2.2]), (8, .obj (.deferred (some []))), (9, .loop .busy none [(2, .v (.one (.ptr 1 0))), (3, .v (.one (.ptr 2 0))), (4, .v (.one (.ptr 3 0))), (5, .v (.one (.ptr 4 0))), (8, .v (.one (.ptr 6 0))), (25, .v (.one (.fn 62 [(7, 0)])))] 65 #[26] m31o_c0 m31o_c1 8), (10, .cells 59 (cE x52)), (12, .cells 39 [dI 0, dA 11 ([x52] : List LV)])], [(11, some ⟨59, 2, (Enc.encL ([x52] : List LV)).length⟩)], 13, 65, []⟩ ((Sum.elim (fun (_ : (List Lvl) × Bool) => (.normal : Exit)) (fun (_ : Unit) => (.ret : Exit))) y55) ((Sum.elim (fun (y53 : (List Lvl) × Bool) => (⟨[], [(0, .cells 39 (flatE y53.1)), (1, .cells 31 [.osl 0 0 nn nn]), (2, .cells 41 (cE a1)), (3, .cells 4 [dB false]), (4, .cells 25 [dI 0]), (5, .cells 39 [dI x1.2.1, dS x1.2.2]), (6, .cells 4 [dB y53.2]), (7, .cells 39 [dI x1.2.1, dS x1.2.2]), (8, .obj (.deferred (some []))), (9, .loop .busy none [(2, .v (.one (.ptr 1 0))), (3, .v (.one (.ptr 2 0))), (4, .v (.one (.ptr 3 0))), (5, .v (.one (.ptr 4 0))), (8, .v (.one (.ptr 6 0))), (25, .v (.one (.fn 62 [(7, 0)])))] 65 #[26] m31o_c0 m31o_c1 8), (10, .cells 59 (cE x52))], [(11, some ⟨59, 2, (Enc.encL ([x52] : List LV)).length⟩)], 14, 65, []⟩ : St)) (fun (y54 : Unit) => (⟨[], [(0, .cells 39 (flatE s2.2.1)), (1, .cells 31 [.osl 0 0 nn nn]), (2, .cells 41 (cE a1)), (3, .cells 4 [dB false]), (4, .cells 25 [dI 15]), (5, .cells 39 [dI x1.2.1, dS x1.2.2]), (6, .cells 4 [dB s2.2.2]), (7, .cells 39 [dI x1.2.1, dS x1.2.2]), (8, .obj (.deferred (some []))), (9, .loop .busy none [(2, .v (.one (.ptr 1 0))), (3, .v (.one (.ptr 2 0))), (4, .v (.one (.ptr 3 0))), (5, .v (.one (.ptr 4 0))), (8, .v (.one (.ptr 6 0))), (25, .v (.one (.fn 62 [(7, 0)])))] 65 #[26] m31o_c0 m31o_c1 8), (10, .cells 59 (cE x52))], [(11, some ⟨59, 2, (Enc.encL ([x52] : List LV)).length⟩)], 14, 65, []⟩ : St))) y55) := by
        refine ExecOK.walk (fun w0 M V0 ro n Q hv3 hro3 hQn3 => ?_)
        refine XC.block ?_
        refine XC.seq ?_
        refine XC.region ?_
        refine XL.rd rfl rfl (lb rfl) (RO.fieldOwn fo_41_1 rfl) ?_
        refine XL.rd rfl rfl (lb rfl) (RO.loadOwnAgg ag_39 rfl rfl rfl rfl) ?_
        refine XL.rd rfl rfl (lb rfl) (RO.loadOwn ag_31 rfl rfl rfl) ?_
        refine bindK h3 (fun x58 hx58 h3 => ?_)
        refine XL.put rfl rfl (lb rfl) (OpOK.callO (b := 0) (m48o_ok a1.hi s2.2.1 nn x58 hx58) rfl (.agg (.cons (.d _) (.cons (.d _) .nil)) (.osl .nil)) rfl rfl rfl) ?_
        refine XL.rd rfl rfl (lb rfl) (RO.move rfl) ?_
        refine XL.rd rfl rfl (lb rfl) (RO.extract rfl rfl) ?_
        refine XL.rd rfl rfl (lb rfl) (RO.extract rfl rfl) ?_
        refine XL.put rfl rfl (lb rfl) (OpOK.alloc z_39 rfl) ?_
        refine XL.eff rfl rfl (OpOK.store ag_39 rfl rfl rfl rfl (lb rfl) rfl) ?_
        refine XL.rd rfl rfl (lb rfl) (RO.assign rfl) ?_
        refine XL.nil ?_
        refine XQ.seq ?_
        refine XC.seq ?_
        refine XC.seq ?_
        refine XC.region ?_
        refine XL.rd rfl rfl (lb rfl) (RO.move rfl) ?_
        refine XL.rd rfl rfl (lb rfl) (RO.binInt rfl rfl rfl) ?_
        refine XL.nil ?_
        refine XQ.seq ?_
        refine XC.cond (b := (x58.1 != 0)) rfl (fun c59 => ?_) (fun c59 => ?_)
        ·
         replace h3 := condT c59 h3
         refine XC.seq ?_
         refine XC.region ?_
         refine XL.eff rfl rfl (OpOK.store ag_4 rfl rfl rfl rfl (lb rfl) rfl) ?_
         refine XL.eff rfl rfl (OpOK.store ag_25 rfl rfl rfl rfl (lb rfl) rfl) ?_
         refine XL.nil ?_
         refine XQ.seq ?_
         refine XC.ret ?_
         have e_ := Option.some.inj h3
         subst e_
         exact XQ.of (e := .ret) (st' := ⟨[], [(0, .cells 39 (flatE s2.2.1)), (1, .cells 31 [.osl 0 0 nn nn]), (2, .cells 41 (cE a1)), (3, .cells 4 [dB false]), (4, .cells 25 [dI 15]), (5, .cells 39 [dI x1.2.1, dS x1.2.2]), (6, .cells 4 [dB s2.2.2]), (7, .cells 39 [dI x1.2.1, dS x1.2.2]), (8, .obj (.deferred (some []))), (9, .loop .busy none [(2, .v (.one (.ptr 1 0))), (3, .v (.one (.ptr 2 0))), (4, .v (.one (.ptr 3 0))), (5, .v (.one (.ptr 4 0))), (8, .v (.one (.ptr 6 0))), (25, .v (.one (.fn 62 [(7, 0)])))] 65 #[26] m31o_c0 m31o_c1 8), (10, .cells 59 (cE x52))], [(11, some ⟨59, 2, (Enc.encL ([x52] : List LV)).length⟩)], 14, 65, []⟩) hQn3 (stle tZ (hR rfl (hR rfl (hR rfl (hR rfl (hR rfl (hR rfl (hR rfl (hR rfl (hR rfl (hR rfl (hR rfl hZ))))))))))) (kR rfl kZ) rfl (Nat.le_trans hv3 (lb rfl)) rfl rfl rfl (bF rfl (bB rfl rfl (bB rfl rfl (bB rfl rfl (bB rfl rfl (bB rfl rfl (bB rfl rfl (bB rfl rfl (bB rfl rfl (bB rfl rfl (bB rfl rfl bZ))))))))))) rfl rfl)
        ·
         replace h3 := condF c59 h3
         refine XC.skip ?_
         refine XQ.seq ?_
         refine XC.seq ?_
         refine XC.seq ?_
         refine XC.region ?_
         refine XL.rd rfl rfl (lb rfl) (RO.loadOwnAgg ag_39 rfl rfl rfl rfl) ?_
         refine XL.rd rfl rfl (lb rfl) (RO.loadOwnAgg ag_39 rfl rfl rfl rfl) ?_
         refine guardK h3 (fun g60 h3 => ?_)
         refine XL.put rfl rfl (lb rfl) (OpOK.callFun (leq_fun (⟨0, [x52]⟩ : Lvl) (⟨x58.2.1, x58.2.2⟩ : Lvl) (Nat.le_of_ble_eq_true (cond_left g60)) (Nat.le_of_ble_eq_true (cond_right g60))) rfl (.cons (.agg (.cons (.d _) (.cons (.app _ _ _) .nil))) (.cons (.agg (.cons (.d _) (.cons (.d _) .nil))) .nil))) ?_
         refine XL.nil ?_
         refine XQ.seq ?_
         refine XC.cond (b := (leqB (⟨0, [x52]⟩ : Lvl) (⟨x58.2.1, x58.2.2⟩ : Lvl))) rfl (fun c61 => ?_) (fun c61 => ?_)
         ·
          replace h3 := condT c61 h3
          refine XC.exit ?_
          refine XQ.thenE ?_
          refine XQ.blockX ?_
          have e_ := Option.some.inj h3
          subst e_
          exact XQ.of (e := .normal) (st' := ⟨[], [(0, .cells 39 (flatE s2.2.1)), (1, .cells 31 [.osl 0 0 nn nn]), (2, .cells 41 (cE a1)), (3, .cells 4 [dB false]), (4, .cells 25 [dI 0]), (5, .cells 39 [dI x1.2.1, dS x1.2.2]), (6, .cells 4 [dB s2.2.2]), (7, .cells 39 [dI x1.2.1, dS x1.2.2]), (8, .obj (.deferred (some []))), (9, .loop .busy none [(2, .v (.one (.ptr 1 0))), (3, .v (.one (.ptr 2 0))), (4, .v (.one (.ptr 3 0))), (5, .v (.one (.ptr 4 0))), (8, .v (.one (.ptr 6 0))), (25, .v (.one (.fn 62 [(7, 0)])))] 65 #[26] m31o_c0 m31o_c1 8), (10, .cells 59 (cE x52))], [(11, some ⟨59, 2, (Enc.encL ([x52] : List LV)).length⟩)], 14, 65, []⟩) hQn3 (stle tZ (hR rfl (hR rfl (hR rfl (hR rfl (hR rfl (hR rfl (hR rfl (hR rfl (hR rfl (hR rfl (hR rfl hZ))))))))))) (kR rfl kZ) rfl (Nat.le_trans hv3 (lb rfl)) rfl rfl rfl (bF rfl (bB rfl rfl (bB rfl rfl (bB rfl rfl (bB rfl rfl (bB rfl rfl (bB rfl rfl (bB rfl rfl (bB rfl rfl (bB rfl rfl (bB rfl rfl bZ))))))))))) rfl rfl)
         ·
          replace h3 := condF c61 h3
          refine XC.skip ?_
          refine XQ.seq ?_
          refine XC.seq ?_
          refine XC.region ?_
          refine XL.rd rfl rfl (lb rfl) (RO.fieldOwn fo_41_1 rfl) ?_
          refine XL.rd rfl rfl (lb rfl) (RO.loadOwnAgg ag_39 rfl rfl rfl rfl) ?_
          refine bindK h3 (fun x62 hx62 h3 => ?_)
          refine XL.put rfl rfl (lb rfl) (OpOK.callFun (m54_ok a1.hi x62 hx62) rfl (.cons (.agg (.cons (.d _) (.cons (.d _) .nil))) .nil)) ?_
          refine XL.rd rfl rfl (lb rfl) (RO.move rfl) ?_
          refine XL.rd rfl rfl (lb rfl) (RO.extract rfl rfl) ?_
          refine XL.rd rfl rfl (lb rfl) (RO.extract rfl rfl) ?_
          refine XL.rd rfl rfl (lb rfl) (RO.assign rfl) ?_
          refine XL.rd rfl rfl (lb rfl) (RO.assign rfl) ?_
          refine XL.nil ?_
          refine XQ.seq ?_
          refine XC.seq ?_
          refine XC.seq ?_
          refine XC.region ?_
          refine XL.rd rfl rfl (lb rfl) (RO.move rfl) ?_
          refine XL.rd rfl rfl (lb rfl) (RO.binInt rfl rfl rfl) ?_
          refine XL.nil ?_
          refine XQ.seq ?_
          refine XC.cond (b := (decide (x62.1 < 0))) rfl (fun c63 => ?_) (fun c63 => ?_)
          ·
           replace h3 := condT c63 h3
           refine XC.seq ?_
           refine XC.region ?_
           refine XL.eff rfl rfl (OpOK.store ag_4 rfl rfl rfl rfl (lb rfl) rfl) ?_
           refine XL.eff rfl rfl (OpOK.store ag_25 rfl rfl rfl rfl (lb rfl) rfl) ?_
           refine XL.nil ?_
           refine XQ.seq ?_
           refine XC.ret ?_
           have e_ := Option.some.inj h3
           subst e_
           exact XQ.of (e := .ret) (st' := ⟨[], [(0, .cells 39 (flatE s2.2.1)), (1, .cells 31 [.osl 0 0 nn nn]), (2, .cells 41 (cE a1)), (3, .cells 4 [dB false]), (4, .cells 25 [dI 15]), (5, .cells 39 [dI x1.2.1, dS x1.2.2]), (6, .cells 4 [dB s2.2.2]), (7, .cells 39 [dI x1.2.1, dS x1.2.2]), (8, .obj (.deferred (some []))), (9, .loop .busy none [(2, .v (.one (.ptr 1 0))), (3, .v (.one (.ptr 2 0))), (4, .v (.one (.ptr 3 0))), (5, .v (.one (.ptr 4 0))), (8, .v (.one (.ptr 6 0))), (25, .v (.one (.fn 62 [(7, 0)])))] 65 #[26] m31o_c0 m31o_c1 8), (10, .cells 59 (cE x52))], [(11, some ⟨59, 2, (Enc.encL ([x52] : List LV)).length⟩)], 14, 65, []⟩) hQn3 (stle tZ (hR rfl (hR rfl (hR rfl (hR rfl (hR rfl (hR rfl (hR rfl (hR rfl (hR rfl (hR rfl (hR rfl hZ))))))))))) (kR rfl kZ) rfl (Nat.le_trans hv3 (lb rfl)) rfl rfl rfl (bF rfl (bB rfl rfl (bB rfl rfl (bB rfl rfl (bB rfl rfl (bB rfl rfl (bB rfl rfl (bB rfl rfl (bB rfl rfl (bB rfl rfl (bB rfl rfl bZ))))))))))) rfl rfl)
          ·
           replace h3 := condF c63 h3
           refine XC.skip ?_
           refine XQ.seq ?_
           refine XC.seq ?_
           refine XC.anyRun [11, 12] [(0, 1), (1, 1), (2, 1), (3, 1), (4, 1), (5, 1), (6, 1), (7, 1), (8, 1), (9, 1), (10, 1), (10, 2)] mixed (by kernel_rfl) (by kernel_rfl) (by kernel_rfl) ?_
           refine RunA.rd rfl rfl rfl (OpOK.of_ro (RO.loadOwn ag_31 rfl rfl rfl)) rfl ?_
           refine RunA.rd rfl rfl rfl (OpOK.of_ro (RO.move rfl)) rfl ?_
           refine bindK h3 (fun x64 hx64 h3 => ?_)
           refine guardK h3 (fun g65 h3 => ?_)
           refine RunA.rd rfl rfl rfl (OpOK.of_ro (RO.indexO (α := Lvl) sl_31 rfl rfl hx64 g65)) rfl ?_
           refine RunA.rd rfl rfl rfl (OpOK.of_ro (RO.loadOE (α := Lvl) (ys := [dI x64.c, dS x64.vs]) ag_39 rfl rfl hx64 rfl)) rfl ?_
           refine RunA.rd rfl rfl rfl (OpOK.of_ro (RO.loadOwnAgg ag_39 rfl rfl rfl rfl)) rfl ?_
           refine RunA.rd rfl rfl rfl (OpOK.of_ro (RO.move rfl)) rfl ?_
           refine bindK h3 (fun x66 hx66 h3 => ?_)
           refine RunA.rd rfl rfl rfl (OpOK.callFun (m56_ok (⟨0, [x52]⟩ : Lvl) x62.2 x66 hx66) rfl (.cons (.agg (.cons (.d _) (.cons (.app _ _ _) .nil))) (.cons (.one (.d _)) .nil))) rfl ?_
           refine bindK h3 (fun x67 hx67 h3 => ?_)
           refine RunA.rd rfl rfl rfl (OpOK.callFun (m55_ok x64 x66 x67 hx67) rfl (.cons (.agg (.cons (.d _) (.cons (.d _) .nil))) (.cons (.agg (.cons (.d _) (.cons (.d _) .nil))) .nil))) rfl ?_
           refine RunA.rd rfl rfl rfl (OpOK.of_ro (RO.move rfl)) rfl ?_
           refine RunA.rd rfl rfl rfl (OpOK.of_ro (RO.extract rfl rfl)) rfl ?_
           refine RunA.rd rfl rfl rfl (OpOK.of_ro (RO.extract rfl rfl)) rfl ?_
           refine RunA.eff rfl rfl rfl (OpOK.alloc z_39 rfl) rfl ?_
           refine RunA.eff rfl rfl rfl (OpOK.store ag_39 rfl rfl rfl rfl (lb rfl) rfl) rfl ?_
           refine RunA.rd rfl rfl rfl (OpOK.of_ro (RO.assign rfl)) rfl ?_
           refine RunA.nil ⟨?ex, _, _, rfl, ?_⟩
           case ex => exact ⟨⟨_, rfl, _, _, rfl, rfl, rfl, .inl ⟨rfl, _, OpOK.of_ro (RO.loadOwn ag_31 rfl rfl rfl), rfl⟩⟩, ⟨_, rfl, _, _, rfl, rfl, rfl, .inl ⟨rfl, _, OpOK.of_ro (RO.move rfl), rfl⟩⟩, ⟨_, rfl, _, _, rfl, rfl, rfl, .inl ⟨rfl, _, OpOK.of_ro (RO.indexO (α := Lvl) sl_31 rfl rfl hx64 g65), rfl⟩⟩, ⟨_, rfl, _, _, rfl, rfl, rfl, .inl ⟨rfl, _, OpOK.of_ro (RO.loadOE (α := Lvl) (ys := [dI x64.c, dS x64.vs]) ag_39 rfl rfl hx64 rfl), rfl⟩⟩, ⟨_, rfl, _, _, rfl, rfl, rfl, .inl ⟨rfl, _, OpOK.of_ro (RO.loadOwnAgg ag_39 rfl rfl rfl rfl), rfl⟩⟩, ⟨_, rfl, _, _, rfl, rfl, rfl, .inl ⟨rfl, _, OpOK.of_ro (RO.move rfl), rfl⟩⟩, ⟨_, rfl, _, _, rfl, rfl, rfl, .inl ⟨rfl, _, OpOK.callFun (m56_ok (⟨0, [x52]⟩ : Lvl) x62.2 x66 hx66) rfl (.cons (.agg (.cons (.d _) (.cons (.app _ _ _) .nil))) (.cons (.one (.d _)) .nil)), rfl⟩⟩, ⟨_, rfl, _, _, rfl, rfl, rfl, .inl ⟨rfl, _, OpOK.callFun (m55_ok x64 x66 x67 hx67) rfl (.cons (.agg (.cons (.d _) (.cons (.d _) .nil))) (.cons (.agg (.cons (.d _) (.cons (.d _) .nil))) .nil)), rfl⟩⟩, ⟨_, rfl, _, _, rfl, rfl, rfl, .inl ⟨rfl, _, OpOK.of_ro (RO.move rfl), rfl⟩⟩, ⟨_, rfl, _, _, rfl, rfl, rfl, .inl ⟨rfl, _, OpOK.of_ro (RO.extract rfl rfl), rfl⟩⟩, ⟨_, rfl, _, _, rfl, rfl, rfl, .inl ⟨rfl, _, OpOK.of_ro (RO.extract rfl rfl), rfl⟩⟩, ⟨_, rfl, _, _, rfl, rfl, rfl, .inl ⟨rfl, _, OpOK.of_ro (RO.extract rfl rfl), rfl⟩⟩, trivial⟩
           refine XQ.less (st' := ⟨[(2, .v (.one (.ptr 1 0))), (4, .v (.one (.ptr 3 0))), (5, .v (.one (.ptr 4 0))), (8, .v (.one (.ptr 6 0))), (11, .v (.one (dI x67.2))), (12, .v (.one (dI x62.1))), (14, .v (.one (.ptr 14 0)))], [(0, .cells 39 (flatE s2.2.1)), (1, .cells 31 [.osl 0 0 nn nn]), (2, .cells 41 (cE a1)), (3, .cells 4 [dB false]), (4, .cells 25 [dI 0]), (5, .cells 39 [dI x1.2.1, dS x1.2.2]), (6, .cells 4 [dB s2.2.2]), (7, .cells 39 [dI x1.2.1, dS x1.2.2]), (8, .obj (.deferred (some []))), (9, .loop .busy none [(2, .v (.one (.ptr 1 0))), (3, .v (.one (.ptr 2 0))), (4, .v (.one (.ptr 3 0))), (5, .v (.one (.ptr 4 0))), (8, .v (.one (.ptr 6 0))), (25, .v (.one (.fn 62 [(7, 0)])))] 65 #[26] m31o_c0 m31o_c1 8), (10, .cells 59 (cE x52)), (12, .cells 39 [dI 0, dA 11 ([x52] : List LV)]), (13, .cells 39 [dI x58.2.1, dS x58.2.2]), (14, .cells 39 (cE x67.1))], [(11, some ⟨59, 2, (Enc.encL ([x52] : List LV)).length⟩)], 15, 65, []⟩) (stle (tR rfl (tR rfl (tR rfl (tR rfl (tR rfl (tR rfl (tR rfl tZ))))))) (hR rfl (hR rfl (hR rfl (hR rfl (hR rfl (hR rfl (hR rfl (hR rfl (hR rfl (hR rfl (hR rfl (hR rfl (hR rfl (hR rfl hZ)))))))))))))) (kR rfl kZ) rfl (Nat.le_trans hv3 (lb rfl)) rfl rfl rfl (bF rfl (bB rfl rfl (bB rfl rfl (bB rfl rfl (bB rfl rfl (bB rfl rfl (bB rfl rfl (bB rfl rfl (bB rfl rfl (bB rfl rfl (bB rfl rfl (bB rfl rfl (bB rfl rfl (bB rfl rfl bZ)))))))))))))) rfl rfl) ?_
           refine XQ.seq ?_
           refine XC.seq ?_
           refine XC.seq ?_
           refine XC.region ?_
           refine XL.rd rfl rfl (lb rfl) (RO.move rfl) ?_
           refine XL.rd rfl rfl (lb rfl) (RO.binInt rfl rfl rfl) ?_
           refine XL.nil ?_
           refine XQ.seq ?_
           refine XC.cond (b := (x67.2 != 0)) rfl (fun c68 => ?_) (fun c68 => ?_)
           ·
            replace h3 := condT c68 h3
            refine XC.seq ?_
            refine XC.region ?_
            refine XL.eff rfl rfl (OpOK.store ag_4 rfl rfl rfl rfl (lb rfl) rfl) ?_
            refine XL.eff rfl rfl (OpOK.store ag_25 rfl rfl rfl rfl (lb rfl) rfl) ?_
            refine XL.nil ?_
            refine XQ.seq ?_
            refine XC.ret ?_
            have e_ := Option.some.inj h3
            subst e_
            exact XQ.of (e := .ret) (st' := ⟨[], [(0, .cells 39 (flatE s2.2.1)), (1, .cells 31 [.osl 0 0 nn nn]), (2, .cells 41 (cE a1)), (3, .cells 4 [dB false]), (4, .cells 25 [dI 15]), (5, .cells 39 [dI x1.2.1, dS x1.2.2]), (6, .cells 4 [dB s2.2.2]), (7, .cells 39 [dI x1.2.1, dS x1.2.2]), (8, .obj (.deferred (some []))), (9, .loop .busy none [(2, .v (.one (.ptr 1 0))), (3, .v (.one (.ptr 2 0))), (4, .v (.one (.ptr 3 0))), (5, .v (.one (.ptr 4 0))), (8, .v (.one (.ptr 6 0))), (25, .v (.one (.fn 62 [(7, 0)])))] 65 #[26] m31o_c0 m31o_c1 8), (10, .cells 59 (cE x52))], [(11, some ⟨59, 2, (Enc.encL ([x52] : List LV)).length⟩)], 14, 65, []⟩) hQn3 (stle tZ (hR rfl (hR rfl (hR rfl (hR rfl (hR rfl (hR rfl (hR rfl (hR rfl (hR rfl (hR rfl (hR rfl hZ))))))))))) (kR rfl kZ) rfl (Nat.le_trans hv3 (lb rfl)) rfl rfl rfl (bF rfl (bB rfl rfl (bB rfl rfl (bB rfl rfl (bB rfl rfl (bB rfl rfl (bB rfl rfl (bB rfl rfl (bB rfl rfl (bB rfl rfl (bB rfl rfl bZ))))))))))) rfl rfl)
           ·
            replace h3 := condF c68 h3
            refine XC.skip ?_
            refine XQ.seq ?_
            refine XC.region ?_
            refine XL.rd rfl rfl (lb rfl) (RO.loadOwn ag_31 rfl rfl rfl) ?_
            refine XL.rd rfl rfl (lb rfl) (RO.move rfl) ?_
            refine XL.rd rfl rfl (lb rfl) (RO.loadOwnAgg ag_39 rfl rfl rfl rfl) ?_
            refine bindK h3 (fun x69 hx69 h3 => ?_)
            refine guardK h3 (fun g70 h3 => ?_)
            refine XL.rd rfl rfl (lb rfl) (RO.indexO (α := Lvl) sl_31 rfl rfl hx69 g70) ?_
            refine XL.eff rfl rfl (OpOK.storeOE (α := Lvl) (y' := .agg [dI x67.1.c, dS x67.1.vs]) (v := x67.1) ag_39 rfl rfl (.agg (.cons (.d _) (.cons (.d _) .nil))) rfl rfl hx69 rfl) ?_
            refine XL.eff rfl rfl (OpOK.store ag_4 rfl rfl rfl rfl (lb rfl) rfl) ?_
            refine XL.nil ?_
            refine XQ.inBlock ?_
            have e_ := Option.some.inj h3
            subst e_
            exact XQ.of (e := .normal) (st' := ⟨[], [(0, .cells 39 (flatE ((s2.2.1.set x62.1.toNat x67.1) : List Lvl))), (1, .cells 31 [.osl 0 0 nn nn]), (2, .cells 41 (cE a1)), (3, .cells 4 [dB false]), (4, .cells 25 [dI 0]), (5, .cells 39 [dI x1.2.1, dS x1.2.2]), (6, .cells 4 [dB true]), (7, .cells 39 [dI x1.2.1, dS x1.2.2]), (8, .obj (.deferred (some []))), (9, .loop .busy none [(2, .v (.one (.ptr 1 0))), (3, .v (.one (.ptr 2 0))), (4, .v (.one (.ptr 3 0))), (5, .v (.one (.ptr 4 0))), (8, .v (.one (.ptr 6 0))), (25, .v (.one (.fn 62 [(7, 0)])))] 65 #[26] m31o_c0 m31o_c1 8), (10, .cells 59 (cE x52))], [(11, some ⟨59, 2, (Enc.encL ([x52] : List LV)).length⟩)], 14, 65, []⟩) hQn3 (stle tZ (hR rfl (hR rfl (hR rfl (hR rfl (hR rfl (hR rfl (hR rfl (hR rfl (hR rfl (hR rfl (hR rfl hZ))))))))))) (kR rfl kZ) rfl (Nat.le_trans hv3 (lb rfl)) rfl rfl rfl (bF rfl (bB rfl rfl (bB rfl rfl (bB rfl rfl (bB rfl rfl (bB rfl rfl (bB rfl rfl (bB rfl rfl (bB rfl rfl (bB rfl rfl (bB rfl rfl bZ))))))))))) rfl rfl)
       refine sumK (C := fun q_ => ExecOK Try.prog (some 9) m31o_c1 ⟨[(2, .v (.one (.ptr 1 0))), (3, .v (.one (.ptr 2 0))), (4, .v (.one (.ptr 3 0))), (5, .v (.one (.ptr 4 0))), (8, .v (.one (.ptr 6 0))), (9, .v (.one (.ptr 12 0)))], [(0, .cells 39 (flatE s2.2.1)), (1, .cells 31 [.osl 0 0 nn nn]), (2, .cells 41 (cE a1)), (3, .cells 4 [dB false]), (4, .cells 25 [dI 0]), (5, .cells 39 [dI x1.2.1, dS x1.2.2]), (6, .cells 4 [dB s2.2.2]), (7, .cells 39 [dI x1.2.1, dS x1.2.2]), (8, .obj (.deferred (some []))), (9, .loop .busy none [(2, .v (.one (.ptr 1 0))), (3, .v (.one (.ptr 2 0))), (4, .v (.one (.ptr 3 0))), (5, .v (.one (.ptr 4 0))), (8, .v (.one (.ptr 6 0))), (25, .v (.one (.fn 62 [(7, 0)])))] 65 #[26] m31o_c0 m31o_c1 8), (10, .cells 59 (cE x52)), (12, .cells 39 [dI 0, dA 11 ([x52] : List LV)])], [(11, some ⟨59, 2, (Enc.encL ([x52] : List LV)).length⟩)], 13, 65, []⟩ ((Sum.elim (fun (_ : (List Lvl) × Bool) => (.normal : Exit)) (fun (_ : Unit) => (.ret : Exit))) q_) ((Sum.elim (fun (y53 : (List Lvl) × Bool) => (⟨[], [(0, .cells 39 (flatE y53.1)), (1, .cells 31 [.osl 0 0 nn nn]), (2, .cells 41 (cE a1)), (3, .cells 4 [dB false]), (4, .cells 25 [dI 0]), (5, .cells 39 [dI x1.2.1, dS x1.2.2]), (6, .cells 4 [dB y53.2]), (7, .cells 39 [dI x1.2.1, dS x1.2.2]), (8, .obj (.deferred (some []))), (9, .loop .busy none [(2, .v (.one (.ptr 1 0))), (3, .v (.one (.ptr 2 0))), (4, .v (.one (.ptr 3 0))), (5, .v (.one (.ptr 4 0))), (8, .v (.one (.ptr 6 0))), (25, .v (.one (.fn 62 [(7, 0)])))] 65 #[26] m31o_c0 m31o_c1 8), (10, .cells 59 (cE x52))], [(11, some ⟨59, 2, (Enc.encL ([x52] : List LV)).length⟩)], 14, 65, []⟩ : St)) (fun (y54 : Unit) => (⟨[], [(0, .cells 39 (flatE s2.2.1)), (1, .cells 31 [.osl 0 0 nn nn]), (2, .cells 41 (cE a1)), (3, .cells 4 [dB false]), (4, .cells 25 [dI 15]), (5, .cells 39 [dI x1.2.1, dS x1.2.2]), (6, .cells 4 [dB s2.2.2]), (7, .cells 39 [dI x1.2.1, dS x1.2.2]), (8, .obj (.deferred (some []))), (9, .loop .busy none [(2, .v (.one (.ptr 1 0))), (3, .v (.one (.ptr 2 0))), (4, .v (.one (.ptr 3 0))), (5, .v (.one (.ptr 4 0))), (8, .v (.one (.ptr 6 0))), (25, .v (.one (.fn 62 [(7, 0)])))] 65 #[26] m31o_c0 m31o_c1 8), (10, .cells 59 (cE x52))], [(11, some ⟨59, 2, (Enc.encL ([x52] : List LV)).length⟩)], 14, 65, []⟩ : St))) q_)) hb57 h2 (fun y53 hb57 h2 => ?_) (fun y54 hb57 h2 => ?_)
       ·
        replace hb57 : ExecOK Try.prog (some 9) m31o_c1 ⟨[(2, .v (.one (.ptr 1 0))), (3, .v (.one (.ptr 2 0))), (4, .v (.one (.ptr 3 0))), (5, .v (.one (.ptr 4 0))), (8, .v (.one (.ptr 6 0))), (9, .v (.one (.ptr 12 0)))], [(0, .cells 39 (flatE s2.2.1)), (1, .cells 31 [.osl 0 0 nn nn]), (2, .cells 41 (cE a1)), (3, .cells 4 [dB false]), (4, .cells 25 [dI 0]), (5, .cells 39 [dI x1.2.1, dS x1.2.2]), (6, .cells 4 [dB s2.2.2]), (7, .cells 39 [dI x1.2.1, dS x1.2.2]), (8, .obj (.deferred (some []))), (9, .loop .busy none [(2, .v (.one (.ptr 1 0))), (3, .v (.one (.ptr 2 0))), (4, .v (.one (.ptr 3 0))), (5, .v (.one (.ptr 4 0))), (8, .v (.one (.ptr 6 0))), (25, .v (.one (.fn 62 [(7, 0)])))] 65 #[26] m31o_c0 m31o_c1 8), (10, .cells 59 (cE x52)), (12, .cells 39 [dI 0, dA 11 ([x52] : List LV)])], [(11, some ⟨59, 2, (Enc.encL ([x52] : List LV)).length⟩)], 13, 65, []⟩ .normal ⟨[], [(0, .cells 39 (flatE y53.1)), (1, .cells 31 [.osl 0 0 nn nn]), (2, .cells 41 (cE a1)), (3, .cells 4 [dB false]), (4, .cells 25 [dI 0]), (5, .cells 39 [dI x1.2.1, dS x1.2.2]), (6, .cells 4 [dB y53.2]), (7, .cells 39 [dI x1.2.1, dS x1.2.2]), (8, .obj (.deferred (some []))), (9, .loop .busy none [(2, .v (.one (.ptr 1 0))), (3, .v (.one (.ptr 2 0))), (4, .v (.one (.ptr 3 0))), (5, .v (.one (.ptr 4 0))), (8, .v (.one (.ptr 6 0))), (25, .v (.one (.fn 62 [(7, 0)])))] 65 #[26] m31o_c0 m31o_c1 8), (10, .cells 59 (cE x52))], [(11, some ⟨59, 2, (Enc.encL ([x52] : List LV)).length⟩)], 14, 65, []⟩ := hb57
        refine XL.put rfl rfl (lb rfl) (OpOK.yield (jump := none) rfl rfl rfl rfl rfl (ExecOK.from ha56 (fun E hv => (stle (tR rfl (tR rfl (tR rfl (tR rfl (tR rfl (tR rfl (tR rfl tZ))))))) (hR rfl (hR rfl (hR rfl (hR rfl (hR rfl (hR rfl (hR rfl (hR rfl (hR rfl (hR rfl (hR rfl hZ))))))))))) (kR rfl kZ) rfl (Nat.le_trans hv (lb rfl)) rfl rfl rfl (bF rfl (bB rfl rfl (bB rfl rfl (bB rfl rfl (bB rfl rfl (bB rfl rfl (bB rfl rfl (bB rfl rfl (bB rfl rfl (bB rfl rfl (bB rfl rfl bZ))))))))))) rfl rfl))) rfl (ExecOK.from hb57 (fun E hv => (stle (tR rfl (tR rfl (tR rfl (tR rfl (tR rfl (tR rfl tZ)))))) (hR rfl (hR rfl (hR rfl (hR rfl (hR rfl (hR rfl (hR rfl (hR rfl (hR rfl (hR rfl (hR rfl (hR rfl hZ)))))))))))) (kR rfl kZ) rfl (Nat.le_trans hv (lb rfl)) rfl rfl rfl (bF rfl (bB rfl rfl (bB rfl rfl (bB rfl rfl (bB rfl rfl (bB rfl rfl (bB rfl rfl (bB rfl rfl (bB rfl rfl (bB rfl rfl (bB rfl rfl (bB rfl rfl bZ)))))))))))) rfl rfl))) rfl rfl) ?_
        refine XL.rd rfl rfl (lb rfl) (RO.not rfl) ?_
        refine XL.nil ?_
        refine XQ.seq ?_
        refine XC.cond rfl (fun h => nomatch h) (fun _ => ?_)
        refine XC.skip ?_
        refine XQ.inBlock ?_
        refine XQ.seq ?_
        refine XC.region ?_
        refine XL.rd rfl rfl (lb rfl) (RO.binInt rfl rfl rfl) ?_
        refine XL.rd rfl rfl (lb rfl) (RO.move rfl) ?_
        refine XL.nil ?_
        have e_ := Option.some.inj h2
        subst e_
        refine XQ.nextM ((w64 (s2.1 + 1)), y53.1, y53.2) (stle (tR rfl (tR rfl (tR rfl (tR rfl tZ)))) (hR rfl (hR rfl (hR rfl (hR rfl (hR rfl (hR rfl (hR rfl (hR rfl (hR rfl (hR rfl hZ)))))))))) kZ rfl (Nat.le_trans hv1 (lb rfl)) rfl rfl rfl (bF rfl (bB rfl rfl (bB rfl rfl (bB rfl rfl (bB rfl rfl (bB rfl rfl (bB rfl rfl (bB rfl rfl (bB rfl rfl (bB rfl rfl bZ)))))))))) rfl rfl) ho2
       ·
        replace hb57 : ExecOK Try.prog (some 9) m31o_c1 ⟨[(2, .v (.one (.ptr 1 0))), (3, .v (.one (.ptr 2 0))), (4, .v (.one (.ptr 3 0))), (5, .v (.one (.ptr 4 0))), (8, .v (.one (.ptr 6 0))), (9, .v (.one (.ptr 12 0)))], [(0, .cells 39 (flatE s2.2.1)), (1, .cells 31 [.osl 0 0 nn nn]), (2, .cells 41 (cE a1)), (3, .cells 4 [dB false]), (4, .cells 25 [dI 0]), (5, .cells 39 [dI x1.2.1, dS x1.2.2]), (6, .cells 4 [dB s2.2.2]), (7, .cells 39 [dI x1.2.1, dS x1.2.2]), (8, .obj (.deferred (some []))), (9, .loop .busy none [(2, .v (.one (.ptr 1 0))), (3, .v (.one (.ptr 2 0))), (4, .v (.one (.ptr 3 0))), (5, .v (.one (.ptr 4 0))), (8, .v (.one (.ptr 6 0))), (25, .v (.one (.fn 62 [(7, 0)])))] 65 #[26] m31o_c0 m31o_c1 8), (10, .cells 59 (cE x52)), (12, .cells 39 [dI 0, dA 11 ([x52] : List LV)])], [(11, some ⟨59, 2, (Enc.encL ([x52] : List LV)).length⟩)], 13, 65, []⟩ .ret ⟨[], [(0, .cells 39 (flatE s2.2.1)), (1, .cells 31 [.osl 0 0 nn nn]), (2, .cells 41 (cE a1)), (3, .cells 4 [dB false]), (4, .cells 25 [dI 15]), (5, .cells 39 [dI x1.2.1, dS x1.2.2]), (6, .cells 4 [dB s2.2.2]), (7, .cells 39 [dI x1.2.1, dS x1.2.2]), (8, .obj (.deferred (some []))), (9, .loop .busy none [(2, .v (.one (.ptr 1 0))), (3, .v (.one (.ptr 2 0))), (4, .v (.one (.ptr 3 0))), (5, .v (.one (.ptr 4 0))), (8, .v (.one (.ptr 6 0))), (25, .v (.one (.fn 62 [(7, 0)])))] 65 #[26] m31o_c0 m31o_c1 8), (10, .cells 59 (cE x52))], [(11, some ⟨59, 2, (Enc.encL ([x52] : List LV)).length⟩)], 14, 65, []⟩ := hb57
        refine XL.put rfl rfl (lb rfl) (OpOK.yield (jump := (some .ret)) rfl rfl rfl rfl rfl (ExecOK.from ha56 (fun E hv => (stle (tR rfl (tR rfl (tR rfl (tR rfl (tR rfl (tR rfl (tR rfl tZ))))))) (hR rfl (hR rfl (hR rfl (hR rfl (hR rfl (hR rfl (hR rfl (hR rfl (hR rfl (hR rfl (hR rfl hZ))))))))))) (kR rfl kZ) rfl (Nat.le_trans hv (lb rfl)) rfl rfl rfl (bF rfl (bB rfl rfl (bB rfl rfl (bB rfl rfl (bB rfl rfl (bB rfl rfl (bB rfl rfl (bB rfl rfl (bB rfl rfl (bB rfl rfl (bB rfl rfl bZ))))))))))) rfl rfl))) rfl (ExecOK.from hb57 (fun E hv => (stle (tR rfl (tR rfl (tR rfl (tR rfl (tR rfl (tR rfl tZ)))))) (hR rfl (hR rfl (hR rfl (hR rfl (hR rfl (hR rfl (hR rfl (hR rfl (hR rfl (hR rfl (hR rfl (hR rfl hZ)))))))))))) (kR rfl kZ) rfl (Nat.le_trans hv (lb rfl)) rfl rfl rfl (bF rfl (bB rfl rfl (bB rfl rfl (bB rfl rfl (bB rfl rfl (bB rfl rfl (bB rfl rfl (bB rfl rfl (bB rfl rfl (bB rfl rfl (bB rfl rfl (bB rfl rfl bZ)))))))))))) rfl rfl))) rfl rfl) ?_
        refine XL.rd rfl rfl (lb rfl) (RO.not rfl) ?_
        refine XL.nil ?_
        refine XQ.seq ?_
        refine XC.cond rfl (fun _ => ?_) (fun h => nomatch h)
        refine XC.ret ?_
        have e_ := Option.some.inj h2
        subst e_
        have e_ : _ = _ := ho2
        subst e_
        try dsimp only [Sum.elim_inl, Sum.elim_inr] at h1
        have e_ := Option.some.inj h1
        subst e_
        exact hQ1 _ _ _ (.inr rfl) rfl (show StLe _ _ ⟨[], [(0, .cells 39 (flatE s2.2.1)), (1, .cells 31 [.osl 0 0 nn nn]), (2, .cells 41 (cE a1)), (3, .cells 4 [dB false]), (4, .cells 25 [dI 15]), (5, .cells 39 [dI x1.2.1, dS x1.2.2]), (6, .cells 4 [dB s2.2.2]), (7, .cells 39 [dI x1.2.1, dS x1.2.2]), (8, .obj (.deferred (some []))), (9, .loop .done (some .ret) [(2, .v (.one (.ptr 1 0))), (3, .v (.one (.ptr 2 0))), (4, .v (.one (.ptr 3 0))), (5, .v (.one (.ptr 4 0))), (8, .v (.one (.ptr 6 0))), (25, .v (.one (.fn 62 [(7, 0)])))] 65 #[26] m31o_c0 m31o_c1 8)], [], 12, 36, []⟩ from (stle tZ (hR rfl (hR rfl (hR rfl (hR rfl (hR rfl (hR rfl (hR rfl (hR rfl (hR rfl (hR rfl hZ)))))))))) kZ rfl (Nat.le_trans hv1 (lb rfl)) rfl rfl rfl (bF rfl (bB rfl rfl (bB rfl rfl (bB rfl rfl (bB rfl rfl (bB rfl rfl (bB rfl rfl (bB rfl rfl (bB rfl rfl (bB rfl rfl bZ)))))))))) rfl rfl))
      ·
       replace h2 := condF c51 h2
       refine XC.exit ?_
       refine XQ.thenE ?_
       refine XQ.thenE ?_
       have e_ := Option.some.inj h2
       subst e_
       have e_ : _ = _ := ho2
       subst e_
       exact XQ.joinX (s2.2.1, s2.2.2) (stle tZ (hR rfl (hR rfl (hR rfl (hR rfl (hR rfl (hR rfl (hR rfl (hR rfl (hR rfl (hR rfl hZ)))))))))) kZ rfl (Nat.le_trans hv1 (lb rfl)) rfl rfl rfl (bF rfl (bB rfl rfl (bB rfl rfl (bB rfl rfl (bB rfl rfl (bB rfl rfl (bB rfl rfl (bB rfl rfl (bB rfl rfl (bB rfl rfl bZ)))))))))) rfl rfl) h1
     ·
      intro o49 h1
      refine XQ.blockX ?_
      have e_ := Option.some.inj h1
      subst e_
      exact hQ1 _ _ _ (.inl rfl) rfl (show StLe _ _ ⟨[], [(0, .cells 39 (flatE o49.1)), (1, .cells 31 [.osl 0 0 nn nn]), (2, .cells 41 (cE a1)), (3, .cells 4 [dB false]), (4, .cells 25 [dI 0]), (5, .cells 39 [dI x1.2.1, dS x1.2.2]), (6, .cells 4 [dB o49.2]), (7, .cells 39 [dI x1.2.1, dS x1.2.2]), (8, .obj (.deferred (some []))), (9, .loop .ready none [(2, .v (.one (.ptr 1 0))), (3, .v (.one (.ptr 2 0))), (4, .v (.one (.ptr 3 0))), (5, .v (.one (.ptr 4 0))), (8, .v (.one (.ptr 6 0))), (25, .v (.one (.fn 62 [(7, 0)])))] 65 #[26] m31o_c0 m31o_c1 8)], [], 10, 36, []⟩ from (stle tZ (hR rfl (hR rfl (hR rfl (hR rfl (hR rfl (hR rfl (hR rfl (hR rfl (hR rfl (hR rfl hZ)))))))))) kZ rfl (Nat.le_trans hv1 (lb rfl)) rfl rfl rfl (bF rfl (bB rfl rfl (bB rfl rfl (bB rfl rfl (bB rfl rfl (bB rfl rfl (bB rfl rfl (bB rfl rfl (bB rfl rfl (bB rfl rfl bZ)))))))))) rfl rfl))
    ·
     intro v10 h1
     refine XQ.seq ?_
     refine XC.cond rfl (fun _ => ?_) (fun h => nomatch h)
     refine XC.ret ?_
     have e_ := Option.some.inj h1
     subst e_
     exact hQ1 _ _ _ (.inr rfl) rfl (show StLe _ _ ⟨[], [(0, .cells 39 (flatE a0)), (1, .cells 31 [.osl 0 0 nn nn]), (2, .cells 41 (cE a1)), (3, .cells 4 [dB false]), (4, .cells 25 [dI 15]), (5, .cells 39 [dI x1.2.1, dS x1.2.2]), (6, .cells 4 [dB false]), (7, .cells 39 [dI x1.2.1, dS x1.2.2]), (8, .obj (.deferred (some []))), (9, .loop .done (some .ret) [(2, .v (.one (.ptr 1 0))), (3, .v (.one (.ptr 2 0))), (4, .v (.one (.ptr 3 0))), (5, .v (.one (.ptr 4 0))), (8, .v (.one (.ptr 6 0))), (25, .v (.one (.fn 62 [(7, 0)])))] 65 #[26] m31o_c0 m31o_c1 8)], [], 12, 36, []⟩ from (stle tZ (hR rfl (hR rfl (hR rfl (hR rfl (hR rfl (hR rfl (hR rfl (hR rfl (hR rfl (hR rfl hZ)))))))))) kZ rfl (Nat.le_trans hv1 (lb rfl)) rfl rfl rfl (bF rfl (bB rfl rfl (bB rfl rfl (bB rfl rfl (bB rfl rfl (bB rfl rfl (bB rfl rfl (bB rfl rfl (bB rfl rfl (bB rfl rfl bZ)))))))))) rfl rfl))
   refine sumK (C := fun q_ => CallM Try.prog 62 [.one (.yld 9), .one (.ptr 7 0)] ⟨[(9, .loop .ready none [(2, .v (.one (.ptr 1 0))), (3, .v (.one (.ptr 2 0))), (4, .v (.one (.ptr 3 0))), (5, .v (.one (.ptr 4 0))), (8, .v (.one (.ptr 6 0))), (25, .v (.one (.fn 62 [(7, 0)])))] 65 #[26] m31o_c0 m31o_c1 8), (8, .obj (.deferred (some []))), (0, .cells 39 (flatE a0)), (1, .cells 31 [.osl 0 0 nn nn]), (2, .cells 41 (cE a1)), (3, .cells 4 [dB false]), (4, .cells 25 [dI 0]), (5, .cells 39 [dI x1.2.1, dS x1.2.2]), (6, .cells 4 [dB false]), (7, .cells 39 [dI x1.2.1, dS x1.2.2])], [], 10⟩ (resOf []) ⟨(((Sum.elim (fun (y5 : (List Lvl) × Bool) => (⟨[], [(0, .cells 39 (flatE y5.1)), (1, .cells 31 [.osl 0 0 nn nn]), (2, .cells 41 (cE a1)), (3, .cells 4 [dB false]), (4, .cells 25 [dI 0]), (5, .cells 39 [dI x1.2.1, dS x1.2.2]), (6, .cells 4 [dB y5.2]), (7, .cells 39 [dI x1.2.1, dS x1.2.2]), (8, .obj (.deferred (some []))), (9, .loop .ready none [(2, .v (.one (.ptr 1 0))), (3, .v (.one (.ptr 2 0))), (4, .v (.one (.ptr 3 0))), (5, .v (.one (.ptr 4 0))), (8, .v (.one (.ptr 6 0))), (25, .v (.one (.fn 62 [(7, 0)])))] 65 #[26] m31o_c0 m31o_c1 8)], [], 10, 36, []⟩ : St)) (fun (y6 : (List Lvl) × Bool) => (⟨[], [(0, .cells 39 (flatE y6.1)), (1, .cells 31 [.osl 0 0 nn nn]), (2, .cells 41 (cE a1)), (3, .cells 4 [dB false]), (4, .cells 25 [dI 15]), (5, .cells 39 [dI x1.2.1, dS x1.2.2]), (6, .cells 4 [dB y6.2]), (7, .cells 39 [dI x1.2.1, dS x1.2.2]), (8, .obj (.deferred (some []))), (9, .loop .done (some .ret) [(2, .v (.one (.ptr 1 0))), (3, .v (.one (.ptr 2 0))), (4, .v (.one (.ptr 3 0))), (5, .v (.one (.ptr 4 0))), (8, .v (.one (.ptr 6 0))), (25, .v (.one (.fn 62 [(7, 0)])))] 65 #[26] m31o_c0 m31o_c1 8)], [], 12, 36, []⟩ : St)))) q_).hp, (((Sum.elim (fun (y5 : (List Lvl) × Bool) => (⟨[], [(0, .cells 39 (flatE y5.1)), (1, .cells 31 [.osl 0 0 nn nn]), (2, .cells 41 (cE a1)), (3, .cells 4 [dB false]), (4, .cells 25 [dI 0]), (5, .cells 39 [dI x1.2.1, dS x1.2.2]), (6, .cells 4 [dB y5.2]), (7, .cells 39 [dI x1.2.1, dS x1.2.2]), (8, .obj (.deferred (some []))), (9, .loop .ready none [(2, .v (.one (.ptr 1 0))), (3, .v (.one (.ptr 2 0))), (4, .v (.one (.ptr 3 0))), (5, .v (.one (.ptr 4 0))), (8, .v (.one (.ptr 6 0))), (25, .v (.one (.fn 62 [(7, 0)])))] 65 #[26] m31o_c0 m31o_c1 8)], [], 10, 36, []⟩ : St)) (fun (y6 : (List Lvl) × Bool) => (⟨[], [(0, .cells 39 (flatE y6.1)), (1, .cells 31 [.osl 0 0 nn nn]), (2, .cells 41 (cE a1)), (3, .cells 4 [dB false]), (4, .cells 25 [dI 15]), (5, .cells 39 [dI x1.2.1, dS x1.2.2]), (6, .cells 4 [dB y6.2]), (7, .cells 39 [dI x1.2.1, dS x1.2.2]), (8, .obj (.deferred (some []))), (9, .loop .done (some .ret) [(2, .v (.one (.ptr 1 0))), (3, .v (.one (.ptr 2 0))), (4, .v (.one (.ptr 3 0))), (5, .v (.one (.ptr 4 0))), (8, .v (.one (.ptr 6 0))), (25, .v (.one (.fn 62 [(7, 0)])))] 65 #[26] m31o_c0 m31o_c1 8)], [], 12, 36, []⟩ : St)))) q_).tk, (((Sum.elim (fun (y5 : (List Lvl) × Bool) => (⟨[], [(0, .cells 39 (flatE y5.1)), (1, .cells 31 [.osl 0 0 nn nn]), (2, .cells 41 (cE a1)), (3, .cells 4 [dB false]), (4, .cells 25 [dI 0]), (5, .cells 39 [dI x1.2.1, dS x1.2.2]), (6, .cells 4 [dB y5.2]), (7, .cells 39 [dI x1.2.1, dS x1.2.2]), (8, .obj (.deferred (some []))), (9, .loop .ready none [(2, .v (.one (.ptr 1 0))), (3, .v (.one (.ptr 2 0))), (4, .v (.one (.ptr 3 0))), (5, .v (.one (.ptr 4 0))), (8, .v (.one (.ptr 6 0))), (25, .v (.one (.fn 62 [(7, 0)])))] 65 #[26] m31o_c0 m31o_c1 8)], [], 10, 36, []⟩ : St)) (fun (y6 : (List Lvl) × Bool) => (⟨[], [(0, .cells 39 (flatE y6.1)), (1, .cells 31 [.osl 0 0 nn nn]), (2, .cells 41 (cE a1)), (3, .cells 4 [dB false]), (4, .cells 25 [dI 15]), (5, .cells 39 [dI x1.2.1, dS x1.2.2]), (6, .cells 4 [dB y6.2]), (7, .cells 39 [dI x1.2.1, dS x1.2.2]), (8, .obj (.deferred (some []))), (9, .loop .done (some .ret) [(2, .v (.one (.ptr 1 0))), (3, .v (.one (.ptr 2 0))), (4, .v (.one (.ptr 3 0))), (5, .v (.one (.ptr 4 0))), (8, .v (.one (.ptr 6 0))), (25, .v (.one (.fn 62 [(7, 0)])))] 65 #[26] m31o_c0 m31o_c1 8)], [], 12, 36, []⟩ : St)))) q_).nx⟩) hc7 h0 (fun y5 hc7 h0 => ?_) (fun y6 hc7 h0 => ?_)
   ·
    replace hc7 : CallM Try.prog 62 [.one (.yld 9), .one (.ptr 7 0)] ⟨[(9, .loop .ready none [(2, .v (.one (.ptr 1 0))), (3, .v (.one (.ptr 2 0))), (4, .v (.one (.ptr 3 0))), (5, .v (.one (.ptr 4 0))), (8, .v (.one (.ptr 6 0))), (25, .v (.one (.fn 62 [(7, 0)])))] 65 #[26] m31o_c0 m31o_c1 8), (8, .obj (.deferred (some []))), (0, .cells 39 (flatE a0)), (1, .cells 31 [.osl 0 0 nn nn]), (2, .cells 41 (cE a1)), (3, .cells 4 [dB false]), (4, .cells 25 [dI 0]), (5, .cells 39 [dI x1.2.1, dS x1.2.2]), (6, .cells 4 [dB false]), (7, .cells 39 [dI x1.2.1, dS x1.2.2])], [], 10⟩ (resOf []) ⟨[(0, .cells 39 (flatE y5.1)), (1, .cells 31 [.osl 0 0 nn nn]), (2, .cells 41 (cE a1)), (3, .cells 4 [dB false]), (4, .cells 25 [dI 0]), (5, .cells 39 [dI x1.2.1, dS x1.2.2]), (6, .cells 4 [dB y5.2]), (7, .cells 39 [dI x1.2.1, dS x1.2.2]), (8, .obj (.deferred (some []))), (9, .loop .ready none [(2, .v (.one (.ptr 1 0))), (3, .v (.one (.ptr 2 0))), (4, .v (.one (.ptr 3 0))), (5, .v (.one (.ptr 4 0))), (8, .v (.one (.ptr 6 0))), (25, .v (.one (.fn 62 [(7, 0)])))] 65 #[26] m31o_c0 m31o_c1 8)], [], 10⟩ := hc7
    refine XC.exec (rangeFunc_out (e := .normal) rfl hc7 rfl (by intro h; cases h) rfl) rfl ?_
    refine XQ.inBlock ?_
    refine XQ.seq ?_
    refine XC.seq ?_
    refine XC.region ?_
    refine XL.rd rfl rfl (lb rfl) (RO.loadOwn ag_4 rfl rfl rfl) ?_
    refine XL.eff rfl rfl (OpOK.store ag_4 rfl rfl rfl rfl (lb rfl) rfl) ?_
    refine XL.eff rfl rfl (OpOK.store ag_25 rfl rfl rfl rfl (lb rfl) rfl) ?_
    refine XL.nil ?_
    refine XQ.seq ?_
    refine XC.ret ?_
    have e_ := Option.some.inj h0
    subst e_
    exact hQ0 _ _ _ (.inr rfl) rfl (stle (tR rfl (tR rfl tZ)) (hR rfl (hR rfl (hR rfl hZ))) kZ rfl (Nat.le_trans hv0 (lb rfl)) rfl rfl rfl (bF rfl (bB rfl rfl (bB rfl rfl bZ))) rfl rfl)
   ·
    replace hc7 : CallM Try.prog 62 [.one (.yld 9), .one (.ptr 7 0)] ⟨[(9, .loop .ready none [(2, .v (.one (.ptr 1 0))), (3, .v (.one (.ptr 2 0))), (4, .v (.one (.ptr 3 0))), (5, .v (.one (.ptr 4 0))), (8, .v (.one (.ptr 6 0))), (25, .v (.one (.fn 62 [(7, 0)])))] 65 #[26] m31o_c0 m31o_c1 8), (8, .obj (.deferred (some []))), (0, .cells 39 (flatE a0)), (1, .cells 31 [.osl 0 0 nn nn]), (2, .cells 41 (cE a1)), (3, .cells 4 [dB false]), (4, .cells 25 [dI 0]), (5, .cells 39 [dI x1.2.1, dS x1.2.2]), (6, .cells 4 [dB false]), (7, .cells 39 [dI x1.2.1, dS x1.2.2])], [], 10⟩ (resOf []) ⟨[(0, .cells 39 (flatE y6.1)), (1, .cells 31 [.osl 0 0 nn nn]), (2, .cells 41 (cE a1)), (3, .cells 4 [dB false]), (4, .cells 25 [dI 15]), (5, .cells 39 [dI x1.2.1, dS x1.2.2]), (6, .cells 4 [dB y6.2]), (7, .cells 39 [dI x1.2.1, dS x1.2.2]), (8, .obj (.deferred (some []))), (9, .loop .done (some .ret) [(2, .v (.one (.ptr 1 0))), (3, .v (.one (.ptr 2 0))), (4, .v (.one (.ptr 3 0))), (5, .v (.one (.ptr 4 0))), (8, .v (.one (.ptr 6 0))), (25, .v (.one (.fn 62 [(7, 0)])))] 65 #[26] m31o_c0 m31o_c1 8)], [], 12⟩ := hc7
    refine XC.exec (rangeFunc_out (e := .ret) rfl hc7 rfl (by intro h; cases h) rfl) rfl ?_
    have e_ := Option.some.inj h0
    subst e_
    exact hQ0 _ _ _ (.inr rfl) rfl (stle (tR rfl (tR rfl tZ)) (hR rfl (hR rfl (hR rfl hZ))) kZ rfl (Nat.le_trans hv0 (lb rfl)) rfl rfl rfl (bF rfl (bB rfl rfl (bB rfl rfl bZ))) rfl rfl)
end Go.Proofs.Ytkimijmiphkddaa
