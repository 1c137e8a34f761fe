/- Part 4 of the proof: rules, mirrors and plain laws. The statement DependSortsUpto is proved here: for every list of declarations the law returns true, and the list reads behind the call as it did before; condition: the list is of bulk at most 1048576 (the second form). -/
import Derived.Test.YtijcchddnnnmdaaK73
namespace Go.Proofs.Ytijcchddnnnmdaa
open Go.RowKit Go.Shelf
set_option linter.unusedSimpArgs false
set_option linter.unusedVariables false
theorem ag_54 : tyAgg Try.prog 54 = some (false, 1) := by kernel_rfl
theorem ag_75 : tyAgg Try.prog 75 = some (false, 1) := by kernel_rfl
theorem sl_75 : tySlice Try.prog 75 = some (4, 1) := by kernel_rfl
theorem z_4 : tyZero Try.prog 4 = some [.bool false] := by kernel_rfl
theorem z_75 : tyZero Try.prog 75 = some [.slice none 0 0] := by kernel_rfl
theorem el_4 : tyElem Try.prog 4 = some (1, 1) := by kernel_rfl
theorem en_22 : Enters Try.prog 22 := enters_of Try.func22 (by kernel_rfl) rfl
theorem en_43 : Enters Try.prog 43 := enters_of Try.func43 (by kernel_rfl) rfl
theorem en_44 : Enters Try.prog 44 := enters_of Try.func44 (by kernel_rfl) rfl
theorem en_60 : Enters Try.prog 60 := enters_of Try.func60 (by kernel_rfl) rfl
def m44f7 (a0 : Int) (a1 : Nat) (a2 : List Bool) : Option Bool :=
  Option.bind (idx a2 a0) fun (x1 : Bool) =>
  guardO (Nat.beq a2.length a1)
  (some (!x1))
set_option maxRecDepth 100000 in
set_option maxHeartbeats 2000000 in
theorem m44f7_ok (a0 : Int) (a1 : Nat) (a2 : List Bool) (r : Bool) (h0 : m44f7 a0 a1 a2 = some r) : CallM Try.prog 44 [.one (dI a0), .one (.ptr 0 0)] ⟨[(0, .cells 75 [.osl 1 0 a1 a1]), (1, .cells 4 (flatE a2))], [], 2⟩ (resOf [.one (dB r)]) ⟨[(0, .cells 75 [.osl 1 0 a1 a1]), (1, .cells 4 (flatE a2))], [], 2⟩ := by
  unfold m44f7 at h0
  refine CallM.of_bodyD ⟨[(3, .v (.one (dB r)))], [(0, .cells 75 [.osl 1 0 a1 a1]), (1, .cells 4 (flatE a2))], [], 2, 9, []⟩ rfl rfl en_44 (lb rfl) rfl (RAs.tmp rfl .nil) (fun w0 M V0 Q hv0 hQ0 => ?_)
  simp only [entry]
  refine XC.seq <| XC.region <| rA rfl rfl rfl <| XL.nil <| XQ.seq <| XC.seq <| XC.region <| rR rfl rfl rfl (RO.loadOwn ag_75 rfl rfl rfl) <| rM rfl rfl rfl ?_
  refine bindK h0 (fun x1 hx1 h0 => ?_)
  refine guardK h0 (fun g2 h0 => ?_)
  refine rR rfl rfl rfl (RO.indexO (α := Bool) sl_75 rfl rfl hx1 g2) <| rR rfl rfl rfl (RO.loadOF (α := Bool) (m := a0) (f := 0) ag_4 rfl rfl hx1 rfl) <| rR rfl rfl rfl (RO.not rfl) <| rA rfl rfl rfl <| XL.nil <| XQ.seq <| XC.ret ?_
  have e_ := Option.some.inj h0
  subst e_
  exact hQ0 _ _ _ (.inr rfl) rfl (stle (tR rfl tZ) (hR rfl (hR rfl hZ)) kZ rfl (Nat.le_trans hv0 (lb rfl)) rfl rfl rfl (bB rfl rfl (bF rfl bZ)) rfl rfl)
def m60f6_l0 (a0 : List Int) (a1 : Nat) (a2 : List Bool) (s1 : Int) : Option (LO Int (Unit ⊕ Int)) :=
  cond (decide (s1 < (a0.length : Int)))
    (Option.bind (idx a0 s1) fun (x3 : Int) =>
  Option.bind (m44f7 x3 a1 a2) fun (x4 : Bool) =>
  cond x4
    (some (.done (.inr s1)))
    (some (.next (w64 (s1 + 1)))))
    (some (.done (.inl ())))
def m60f6 (a0 : List Int) (a1 : Nat) (a2 : List Bool) : Option Int :=
  Option.bind (loopN (m60f6_l0 a0 a1 a2) FUEL 0) (Sum.elim (fun (o1 : Unit) => some (-1)) (fun o => some o))
set_option maxRecDepth 100000 in
set_option maxHeartbeats 2000000 in
theorem m60f6_ok (a0 : List Int) (a1 : Nat) (a2 : List Bool) (r : Int) (h0 : m60f6 a0 a1 a2 = some r) : CallM Try.prog 60 [.one (dS a0), .one (.fn 44 [(0, 0)])] ⟨[(0, .cells 75 [.osl 1 0 a1 a1]), (1, .cells 4 (flatE a2))], [], 2⟩ (resOf [.one (dI r)]) ⟨[(0, .cells 75 [.osl 1 0 a1 a1]), (1, .cells 4 (flatE a2))], [], 2⟩ := by
  unfold m60f6 at h0
  refine CallM.of_bodyD ⟨[(4, .v (.one (dI r)))], [(0, .cells 75 [.osl 1 0 a1 a1]), (1, .cells 4 (flatE a2))], [], 2, 19, []⟩ rfl rfl en_60 (lb rfl) rfl (RAs.tmp rfl .nil) (fun w0 M V0 Q hv0 hQ0 => ?_)
  simp only [entry]
  refine XC.seq <| XC.region <| rA rfl rfl rfl <| XL.nil <| XQ.seq <| XC.seq <| XC.seq <| XC.region <| rM rfl rfl rfl <| rR rfl rfl rfl (RO.lenE (α := Int) sl_54 rfl (.d _)) <| rM rfl rfl rfl <| XL.nil <| XQ.seq <| XC.block ?_
  refine XC.joinX 0 (fun (o1 : Unit) => ⟨[], [(0, .cells 75 [.osl 1 0 a1 a1]), (1, .cells 4 (flatE a2))], [], 2, 19, []⟩) (fun (o1 : Unit) => (some (-1)) = some r) ?_ ?_
  ·
   refine bindK h0 (fun o2 hl1 h0 => ?_)
   refine XC.loopM (m60f6_l0 a0 a1 a2) (fun s1 => ⟨[(0, .v (.one (dS a0))), (1, .v (.one (.fn 44 [(0, 0)]))), (7, .v (.one (dI (a0.length : Int)))), (8, .v (.one (dI s1)))], [(0, .cells 75 [.osl 1 0 a1 a1]), (1, .cells 4 (flatE a2))], [], 2, 19, []⟩) 0 o2 (stle (tR rfl (tR rfl (tR rfl (tR rfl tZ)))) (hR rfl (hR rfl hZ)) kZ rfl (Nat.le_trans hv0 (lb rfl)) rfl rfl rfl (bB rfl rfl (bF rfl bZ)) rfl rfl) hl1 (fun s1 n1 oo1 h1 ho1 => ?_)
   unfold m60f6_l0 at h1
   refine XC.seq <| XC.region <| rR rfl rfl rfl (RO.binInt rfl rfl rfl) <| XL.nil <| XQ.seq <| XC.seq ?_
   refine XC.cond (b := (decide (s1 < (a0.length : Int)))) rfl (fun c3 => ?_) (fun c3 => ?_)
   ·
    replace h1 := condT c3 h1
    refine XC.skip <| XQ.seq <| XC.seq <| XC.block <| XC.seq <| XC.region <| rM rfl rfl rfl <| rA rfl rfl rfl <| XL.nil <| XQ.seq <| XC.seq <| XC.region <| rM rfl rfl rfl <| rM rfl rfl rfl ?_
    refine rM rfl rfl rfl ?_
    refine bindK h1 (fun x4 hx4 h1 => ?_)
    refine rR rfl rfl rfl (RO.indexE (α := Int) sl_54 rfl (.d _) rfl hx4) <| rR rfl rfl rfl (RO.loadPel ag_3 rfl rfl) ?_
    refine bindK h1 (fun x5 hx5 h1 => ?_)
    refine XL.put rfl rfl (lb rfl) (OpOK.callG (hp1' := [(0, .cells 75 [.osl 1 0 a1 a1]), (1, .cells 4 (flatE a2))]) (tk1' := []) (hpF := []) (tkF := []) (res2 := resOf [.one (dB x5)]) (nx2 := 2) [0, 1] rfl rfl (m44f7_ok x4 a1 a2 x5 hx5) rfl rfl (qB rfl rfl (qF rfl qZ)) rfl rfl (gR rfl (gF rfl gZ)) jZ hZ kZ rfl rfl rfl rfl rfl (bB rfl rfl (bF rfl bZ)) rfl rfl rfl rfl) <| XL.nil <| XQ.seq ?_
    refine XC.cond (b := x5) rfl (fun c6 => ?_) (fun c6 => ?_)
    ·
     replace h1 := condT c6 h1
     refine XC.seq <| XC.region <| rM rfl rfl rfl <| rA rfl rfl rfl <| XL.nil <| XQ.seq <| XC.ret ?_
     have e_ := Option.some.inj h1
     subst e_
     have e_ : _ = _ := ho1
     subst e_
     try dsimp only [Sum.elim_inl, Sum.elim_inr] at h0
     have e_ := Option.some.inj h0
     subst e_
     exact hQ0 _ _ _ (.inr rfl) rfl (stle (tR rfl tZ) (hR rfl (hR rfl hZ)) kZ rfl (Nat.le_trans hv0 (lb rfl)) rfl rfl rfl (bB rfl rfl (bF rfl bZ)) rfl rfl)
    ·
     replace h1 := condF c6 h1
     refine XC.skip <| XQ.inBlock <| XQ.seq <| XC.region <| rR rfl rfl rfl (RO.binInt rfl rfl rfl) <| rM rfl rfl rfl <| XL.nil ?_
     have e_ := Option.some.inj h1
     subst e_
     refine XQ.nextM (w64 (s1 + 1)) (stle (tR rfl (tR rfl (tR rfl (tR rfl tZ)))) (hR rfl (hR rfl hZ)) kZ rfl (Nat.le_trans hv0 (lb rfl)) rfl rfl rfl (bB rfl rfl (bF rfl bZ)) rfl rfl) ho1
   ·
    replace h1 := condF c3 h1
    refine XC.exit <| XQ.thenE <| XQ.thenE ?_
    have e_ := Option.some.inj h1
    subst e_
    have e_ : _ = _ := ho1
    subst e_
    exact XQ.joinX () (stle tZ (hR rfl (hR rfl hZ)) kZ rfl (Nat.le_trans hv0 (lb rfl)) rfl rfl rfl (bB rfl rfl (bF rfl bZ)) rfl rfl) h0
  ·
   intro o1 h0
   refine XQ.blockX <| XQ.seq <| XC.seq <| XC.region <| rA rfl rfl rfl <| XL.nil <| XQ.seq <| XC.ret ?_
   have e_ := Option.some.inj h0
   subst e_
   exact hQ0 _ _ _ (.inr rfl) rfl (stle (tR rfl tZ) (hR rfl (hR rfl hZ)) kZ rfl (Nat.le_trans hv0 (lb rfl)) rfl rfl rfl (bB rfl rfl (bF rfl bZ)) rfl rfl)
def m43f5 (a0 : List Int) (a1 : Nat) (a2 : List Bool) : Option Bool :=
  Option.bind (m60f6 a0 a1 a2) fun (x1 : Int) =>
  some (decide (0 ≤ x1))
set_option maxRecDepth 100000 in
set_option maxHeartbeats 2000000 in
theorem m43f5_ok (a0 : List Int) (a1 : Nat) (a2 : List Bool) (r : Bool) (h0 : m43f5 a0 a1 a2 = some r) : CallM Try.prog 43 [.one (dS a0), .one (.fn 44 [(0, 0)])] ⟨[(0, .cells 75 [.osl 1 0 a1 a1]), (1, .cells 4 (flatE a2))], [], 2⟩ (resOf [.one (dB r)]) ⟨[(0, .cells 75 [.osl 1 0 a1 a1]), (1, .cells 4 (flatE a2))], [], 2⟩ := by
  unfold m43f5 at h0
  refine CallM.of_bodyD ⟨[(4, .v (.one (dB r)))], [(0, .cells 75 [.osl 1 0 a1 a1]), (1, .cells 4 (flatE a2))], [], 2, 9, []⟩ rfl rfl en_43 (lb rfl) rfl (RAs.tmp rfl .nil) (fun w0 M V0 Q hv0 hQ0 => ?_)
  simp only [entry]
  refine XC.seq <| XC.region <| rA rfl rfl rfl <| XL.nil <| XQ.seq <| XC.seq <| XC.region <| rM rfl rfl rfl <| rM rfl rfl rfl ?_
  refine bindK h0 (fun x1 hx1 h0 => ?_)
  refine XL.put rfl rfl (lb rfl) (OpOK.callG (hp1' := [(0, .cells 75 [.osl 1 0 a1 a1]), (1, .cells 4 (flatE a2))]) (tk1' := []) (hpF := []) (tkF := []) (res2 := resOf [.one (dI x1)]) (nx2 := 2) [0, 1] rfl rfl (m60f6_ok a0 a1 a2 x1 hx1) rfl rfl (qB rfl rfl (qF rfl qZ)) rfl rfl (gR rfl (gF rfl gZ)) jZ hZ kZ rfl rfl rfl rfl rfl (bB rfl rfl (bF rfl bZ)) rfl rfl rfl rfl) <| rR rfl rfl rfl (RO.binInt rfl rfl rfl) <| rA rfl rfl rfl <| XL.nil <| XQ.seq <| XC.ret ?_
  have e_ := Option.some.inj h0
  subst e_
  exact hQ0 _ _ _ (.inr rfl) rfl (stle (tR rfl tZ) (hR rfl (hR rfl hZ)) kZ rfl (Nat.le_trans hv0 (lb rfl)) rfl rfl rfl (bB rfl rfl (bF rfl bZ)) rfl rfl)
def m22_l0 (x9 : (List Bs)) (s2 : Int × (GMap Bs Int)) (s3 : Int × (GMap Bs Int)) : Option (LO (Int × (GMap Bs Int)) (((GMap Bs Int)) ⊕ (((List (List Int)) × (GMap Bs Int)) ⊕ Unit ⊕ Unit))) :=
  cond (decide (s3.1 < (x9.length : Int)))
    (Option.bind (idx x9 s3.1) fun (x12 : Bs) =>
  cond (gmHas s3.2 x12)
    (some (.done (.inr (.inr (.inl ())))))
    (some (.next ((w64 (s3.1 + 1)), (gmSet s3.2 x12 s2.1)))))
    (some (.done (.inl s3.2)))
def m22_l1 (a0 : List Dcl) (s2 : Int × (GMap Bs Int)) : Option (LO (Int × (GMap Bs Int)) (((GMap Bs Int)) ⊕ (((List (List Int)) × (GMap Bs Int)) ⊕ Unit ⊕ Unit))) :=
  cond (decide (s2.1 < (a0.length : Int)))
    (Option.bind (idx a0 s2.1) fun (x8 : Dcl) =>
  Option.bind (m37 x8) fun (x9 : (List Bs)) =>
  Option.bind (loopN (m22_l0 x9 s2) FUEL (0, s2.2)) (Sum.elim (fun (o10 : (GMap Bs Int)) => some (.next ((w64 (s2.1 + 1)), o10))) (fun o => some (.done (.inr o)))))
    (some (.done (.inl s2.2)))
def m22_l2 (x10 : (List Bs)) (o6 : (GMap Bs Int)) (s3 : (List Int) × Int) : Option (LO ((List Int) × Int) (((List Int)) ⊕ (((List (List Int)) × (GMap Bs Int)) ⊕ Unit ⊕ Unit))) :=
  cond (decide (s3.2 < (x10.length : Int)))
    (Option.bind (idx x10 s3.2) fun (x13 : Bs) =>
  cond (!(gmHas o6 x13))
    (some (.done (.inr (.inr (.inr ())))))
    (guardO (Nat.ble (s3.1.length + ([(gmVal o6 x13)]).length) 1000000000)
  (some (.next ((s3.1 ++ ([(gmVal o6 x13)])), (w64 (s3.2 + 1)))))))
    (some (.done (.inl s3.1)))
def m22_l3 (a0 : List Dcl) (o6 : (GMap Bs Int)) (s2 : Int × (List (List Int))) : Option (LO (Int × (List (List Int))) (((List (List Int))) ⊕ (((List (List Int)) × (GMap Bs Int)) ⊕ Unit ⊕ Unit))) :=
  cond (decide (s2.1 < (a0.length : Int)))
    (Option.bind (idx a0 s2.1) fun (x9 : Dcl) =>
  Option.bind (m53 x9) fun (x10 : (List Bs)) =>
  Option.bind (loopN (m22_l2 x10 o6) FUEL (([] : List Int), 0)) (Sum.elim (fun (o11 : (List Int)) => Option.bind (sortF o11) fun (x12 : List Int) =>
  Option.bind (compactF x12 ((Enc.encL o11).length)) fun (x13 : List Int) =>
  guardO (Nat.ble (s2.2.length + ([x13]).length) 1000000000)
  (some (.next ((w64 (s2.1 + 1)), (s2.2 ++ ([x13])))))) (fun o => some (.done (.inr o)))))
    (some (.done (.inl s2.2)))
def m22_l4 (y1 : (List (List Int)) × (GMap Bs Int)) (s1 : (List Int) × (List Bool)) (a0 : List Dcl) (s2 : Int) : Option (LO Int Int) :=
  cond (decide (s2 < (y1.1.length : Int)))
    (Option.bind (idx y1.1 s2) fun (x35 : List Int) =>
  Option.bind (Option.bind (idx s1.2 s2) fun (x37 : Bool) =>
  guardO (Nat.beq s1.2.length ((a0.length : Int).toNat))
  (cond (!x37)
    (Option.bind (m43f5 x35 ((a0.length : Int).toNat) s1.2) fun (x40 : Bool) =>
  some (!x40))
    (some false))) (fun (v36 : Bool) => cond v36
    (some (.done s2))
    (some (.next (w64 (s2 + 1))))))
    (some (.done (-1)))
def m22_l5 (a0 : List Dcl) (y1 : (List (List Int)) × (GMap Bs Int)) (s1 : (List Int) × (List Bool)) : Option (LO ((List Int) × (List Bool)) (((List Int) × (List Bool)) ⊕ ((List Int) × Int))) :=
  cond (decide ((s1.1.length : Int) < (a0.length : Int)))
    (Option.bind (loopN (m22_l4 y1 s1 a0) FUEL 0) (fun (o33 : Int) => cond (decide (o33 < 0))
    (some (.done (.inr (([] : List Int), 22))))
    (Option.bind (idx s1.2 o33) fun (x35 : Bool) =>
  guardO (Nat.beq s1.2.length ((a0.length : Int).toNat))
  (guardO (Nat.ble (s1.1.length + ([o33]).length) 1000000000)
  (some (.next ((s1.1 ++ ([o33])), (s1.2.set o33.toNat true))))))))
    (some (.done (.inl (s1.1, s1.2))))
def m22 (a0 : List Dcl) : Option ((List Int) × Int) :=
  Option.bind (Option.bind (loopN (m22_l1 a0) FUEL (0, gmNil)) (Sum.elim (fun (o6 : (GMap Bs Int)) => Option.bind (loopN (m22_l3 a0 o6) FUEL (0, ([] : List (List Int)))) (Sum.elim (fun (o7 : (List (List Int))) => some (.inl (o7, o6))) (fun o => some o))) (fun o => some o))) (Sum.elim (fun (y1 : (List (List Int)) × (GMap Bs Int)) => guardO (cond (decide (0 ≤ (a0.length : Int))) (Nat.ble (1 * (a0.length : Int).toNat) 281474976710656) false)
  (Option.bind (loopN (m22_l5 a0 y1) FUEL (([] : List Int), (List.replicate (a0.length : Int).toNat false))) (Sum.elim (fun (o31 : (List Int) × (List Bool)) => some (o31.1, 0)) (fun o => some o)))) (Sum.elim (fun (y2 : Unit) => some (([] : List Int), 8)) (fun (y3 : Unit) => some (([] : List Int), 9))))
set_option maxRecDepth 100000 in
set_option maxHeartbeats 2000000 in
theorem m22_ok (a0 : List Dcl) (r : (List Int) × Int) (h0 : m22 a0 = some r) : Fun Try.prog 22 [.one (dS a0)] (resOf [.one (dS r.1), .one (dI r.2)]) := by
  unfold m22 at h0
  refine Fun.of_bodyM 9 58 Try.func22 rfl en_22 rfl (lb rfl) (fun S w => ?_)
  simp only [entry]
  refine XC.seq <| XC.region <| rA rfl rfl rfl <| rA rfl rfl rfl <| XL.nil <| XQ.seq <| XC.seq <| XC.region <| rM rfl rfl rfl ?_
  refine bindK h0 (fun y5 h1 h0 => ?_)
  have hc4 : CallM Try.prog 34 [.one (dS a0)] ⟨[], [], 0⟩ (resOf (((Sum.elim (fun (y1 : (List (List Int)) × (GMap Bs Int)) => ([.agg [dA 3 y1.1, .mp 1], .one (dI 0)] : List AV)) (Sum.elim (fun (y2 : Unit) => ([.agg [dN, .d (.v (.map none))], .one (dI 8)] : List AV)) (fun (y3 : Unit) => ([.agg [dN, .d (.v (.map none))], .one (dI 9)] : List AV))))) y5)) ⟨(((Sum.elim (fun (y1 : (List (List Int)) × (GMap Bs Int)) => (⟨[(2, .v (.one (.ptr 0 0))), (3, .v (.one (dI 0)))], [(0, .cells 72 [dA 3 y1.1, .mp 1]), (1, .mp (gmE y1.2.1) y1.2.2)], [(3, some ⟨54, 1, (Enc.encL y1.1).length, []⟩)], 4, 88, []⟩ : St)) (Sum.elim (fun (y2 : Unit) => (⟨[(2, .v (.one (.ptr 0 0))), (3, .v (.one (dI 8)))], [(0, .cells 72 [dN, .d (.v (.map none))])], [], 4, 88, []⟩ : St)) (fun (y3 : Unit) => (⟨[(2, .v (.one (.ptr 0 0))), (3, .v (.one (dI 9)))], [(0, .cells 72 [dN, .d (.v (.map none))])], [], 6, 88, []⟩ : St))))) y5).hp, (((Sum.elim (fun (y1 : (List (List Int)) × (GMap Bs Int)) => (⟨[(2, .v (.one (.ptr 0 0))), (3, .v (.one (dI 0)))], [(0, .cells 72 [dA 3 y1.1, .mp 1]), (1, .mp (gmE y1.2.1) y1.2.2)], [(3, some ⟨54, 1, (Enc.encL y1.1).length, []⟩)], 4, 88, []⟩ : St)) (Sum.elim (fun (y2 : Unit) => (⟨[(2, .v (.one (.ptr 0 0))), (3, .v (.one (dI 8)))], [(0, .cells 72 [dN, .d (.v (.map none))])], [], 4, 88, []⟩ : St)) (fun (y3 : Unit) => (⟨[(2, .v (.one (.ptr 0 0))), (3, .v (.one (dI 9)))], [(0, .cells 72 [dN, .d (.v (.map none))])], [], 6, 88, []⟩ : St))))) y5).tk, (((Sum.elim (fun (y1 : (List (List Int)) × (GMap Bs Int)) => (⟨[(2, .v (.one (.ptr 0 0))), (3, .v (.one (dI 0)))], [(0, .cells 72 [dA 3 y1.1, .mp 1]), (1, .mp (gmE y1.2.1) y1.2.2)], [(3, some ⟨54, 1, (Enc.encL y1.1).length, []⟩)], 4, 88, []⟩ : St)) (Sum.elim (fun (y2 : Unit) => (⟨[(2, .v (.one (.ptr 0 0))), (3, .v (.one (dI 8)))], [(0, .cells 72 [dN, .d (.v (.map none))])], [], 4, 88, []⟩ : St)) (fun (y3 : Unit) => (⟨[(2, .v (.one (.ptr 0 0))), (3, .v (.one (dI 9)))], [(0, .cells 72 [dN, .d (.v (.map none))])], [], 6, 88, []⟩ : St))))) y5).nx⟩ := by
   refine CallM.of_bodyT y5 ((Sum.elim (fun (y1 : (List (List Int)) × (GMap Bs Int)) => (⟨[(2, .v (.one (.ptr 0 0))), (3, .v (.one (dI 0)))], [(0, .cells 72 [dA 3 y1.1, .mp 1]), (1, .mp (gmE y1.2.1) y1.2.2)], [(3, some ⟨54, 1, (Enc.encL y1.1).length, []⟩)], 4, 88, []⟩ : St)) (Sum.elim (fun (y2 : Unit) => (⟨[(2, .v (.one (.ptr 0 0))), (3, .v (.one (dI 8)))], [(0, .cells 72 [dN, .d (.v (.map none))])], [], 4, 88, []⟩ : St)) (fun (y3 : Unit) => (⟨[(2, .v (.one (.ptr 0 0))), (3, .v (.one (dI 9)))], [(0, .cells 72 [dN, .d (.v (.map none))])], [], 6, 88, []⟩ : St))))) ((Sum.elim (fun (y1 : (List (List Int)) × (GMap Bs Int)) => ([.agg [dA 3 y1.1, .mp 1], .one (dI 0)] : List AV)) (Sum.elim (fun (y2 : Unit) => ([.agg [dN, .d (.v (.map none))], .one (dI 8)] : List AV)) (fun (y3 : Unit) => ([.agg [dN, .d (.v (.map none))], .one (dI 9)] : List AV))))) rfl rfl en_34 (lb rfl) (fun z_ => by cases z_ with
     | inl _ => rfl
     | inr z_ => exact (by cases z_ <;> rfl)) (fun z_ => by cases z_ with
     | inl _ => exact (RAs.agg ag_72 rfl rfl rfl rfl (RAs.tmp rfl .nil))
     | inr z_ => exact (by cases z_ with
     | inl _ => exact (RAs.agg ag_72 rfl rfl rfl rfl (RAs.tmp rfl .nil))
     | inr _ => exact (RAs.agg ag_72 rfl rfl rfl rfl (RAs.tmp rfl .nil)))) (fun w0 M V0 Q hv1 hQ1 => ?_)
   simp only [entry]
   refine XC.seq <| XC.region <| XL.put rfl rfl (lb rfl) (OpOK.alloc z_72 rfl) <| rA rfl rfl rfl <| XL.nil <| XQ.seq <| XC.seq <| XC.region <| XL.put rfl rfl (lb rfl) (OpOK.makeMapG Bs Int) <| rR rfl rfl rfl (RO.build1 bd_72 rfl rfl rfl) <| XL.put rfl rfl (lb rfl) (OpOK.alloc z_72 rfl) <| XL.eff rfl rfl (OpOK.store ag_72 rfl rfl rfl rfl (lb rfl) rfl) <| XL.nil <| XQ.seq ?_
   refine XC.seq <| XC.seq <| XC.region <| rM rfl rfl rfl <| rR rfl rfl rfl (RO.lenE (α := Dcl) sl_22 rfl (.d _)) <| rM rfl rfl rfl <| XL.nil <| XQ.seq <| XC.block ?_
   refine XC.joinX 0 (fun (o6 : (GMap Bs Int)) => ⟨[(0, .v (.one (dS a0))), (2, .v (.one (.ptr 0 0))), (4, .v (.one (.ptr 2 0)))], [(0, .cells 72 [dN, .d (.v (.map none))]), (1, .mp (gmE o6.1) o6.2), (2, .cells 72 [dN, .mp 1])], [], 3, 88, []⟩) (fun (o6 : (GMap Bs Int)) => (Option.bind (loopN (m22_l3 a0 o6) FUEL (0, ([] : List (List Int)))) (Sum.elim (fun (o7 : (List (List Int))) => some (.inl (o7, o6))) (fun o => some o))) = some y5) ?_ ?_
   ·
    refine bindK h1 (fun o7 hl2 h1 => ?_)
    refine XC.loopM (m22_l1 a0) (fun s2 => ⟨[(0, .v (.one (dS a0))), (2, .v (.one (.ptr 0 0))), (4, .v (.one (.ptr 2 0))), (20, .v (.one (dS a0))), (21, .v (.one (dI (a0.length : Int)))), (22, .v (.one (dI s2.1)))], [(0, .cells 72 [dN, .d (.v (.map none))]), (1, .mp (gmE s2.2.1) s2.2.2), (2, .cells 72 [dN, .mp 1])], [], 3, 88, []⟩) (0, gmNil) o7 (stle (tR rfl (tR rfl (tR rfl (tR rfl (tR rfl (tR rfl tZ)))))) (hR rfl (hR rfl (hR rfl hZ))) kZ rfl (Nat.le_trans hv1 (lb rfl)) rfl rfl rfl (bB rfl rfl (bG rfl (bB rfl rfl bZ))) rfl rfl) hl2 (fun s2 n2 oo2 h2 ho2 => ?_)
    unfold m22_l1 at h2
    refine XC.seq <| XC.region <| rR rfl rfl rfl (RO.binInt rfl rfl rfl) <| XL.nil <| XQ.seq <| XC.seq ?_
    refine XC.cond (b := (decide (s2.1 < (a0.length : Int)))) rfl (fun c8 => ?_) (fun c8 => ?_)
    ·
     replace h2 := condT c8 h2
     refine XC.skip <| XQ.seq <| XC.seq <| XC.block <| XC.seq <| XC.region <| rM rfl rfl rfl ?_
     refine bindK h2 (fun x9 hx9 h2 => ?_)
     refine rR rfl rfl rfl (RO.indexE (α := Dcl) sl_22 rfl (.d _) rfl hx9) <| rR rfl rfl rfl (RO.loadPelCE (x9 : Dcl) ag_48 rfl) <| XL.put rfl rfl (lb rfl) (OpOK.alloc z_48 rfl) <| rA rfl rfl rfl <| XL.eff rfl rfl (OpOK.storeCE (x9 : Dcl) ag_48 rfl rfl rfl rfl rfl) <| XL.nil <| XQ.seq <| XC.seq <| XC.region <| rR rfl rfl rfl (RO.loadCE (x9 : Dcl) ag_48 rfl rfl) ?_
     refine bindK h2 (fun x10 hx10 h2 => ?_)
     refine XL.put rfl rfl (lb rfl) (OpOK.callFun (m37_ok x9 x10 hx10) rfl (.cons (.agg (.cons (.d _) (.cons (.d _) (.cons (.d _) (.cons (.d _) (.cons (.d _) (.cons (.d _) (.cons (.d _) (.cons (.d _) (.cons (.d _) (.cons (.d _) (.cons (.d _) (.cons (.d _) (.cons (.d _) (.cons (.d _) (.cons (.d _) (.cons (.d _) (.cons (.d _) (.cons (.d _) (.cons (.d _) (.cons (.d _) (.cons (.d _) (.cons (.d _) (.cons (.d _) .nil)))))))))))))))))))))))) .nil)) <| rR rfl rfl rfl (RO.lenE (α := Bs) sl_23 rfl (.d _)) <| rM rfl rfl rfl <| XL.nil <| XQ.seq <| XC.block ?_
     refine XC.joinX 2 (fun (o11 : (GMap Bs Int)) => ⟨[(0, .v (.one (dS a0))), (2, .v (.one (.ptr 0 0))), (4, .v (.one (.ptr 2 0))), (20, .v (.one (dS a0))), (21, .v (.one (dI (a0.length : Int)))), (22, .v (.one (dI s2.1)))], [(0, .cells 72 [dN, .d (.v (.map none))]), (1, .mp (gmE o11.1) o11.2), (2, .cells 72 [dN, .mp 1]), (3, .cells 48 (cE x9))], [], 4, 88, []⟩) (fun (o11 : (GMap Bs Int)) => (some (.next ((w64 (s2.1 + 1)), o11))) = some oo2) ?_ ?_
     ·
      refine bindK h2 (fun o12 hl3 h2 => ?_)
      refine XC.loopM (m22_l0 x10 s2) (fun s3 => ⟨[(0, .v (.one (dS a0))), (2, .v (.one (.ptr 0 0))), (4, .v (.one (.ptr 2 0))), (5, .v (.one (dI s2.1))), (20, .v (.one (dS a0))), (21, .v (.one (dI (a0.length : Int)))), (22, .v (.one (dI s2.1))), (28, .v (.one (dS x10))), (29, .v (.one (dI (x10.length : Int)))), (30, .v (.one (dI s3.1)))], [(0, .cells 72 [dN, .d (.v (.map none))]), (1, .mp (gmE s3.2.1) s3.2.2), (2, .cells 72 [dN, .mp 1]), (3, .cells 48 (cE x9))], [], 4, 88, []⟩) (0, s2.2) o12 (stle (tR rfl (tR rfl (tR rfl (tR rfl (tR rfl (tR rfl (tR rfl (tR rfl (tR rfl (tR rfl tZ)))))))))) (hR rfl (hR rfl (hR rfl (hR rfl hZ)))) kZ rfl (Nat.le_trans hv1 (lb rfl)) rfl rfl rfl (bB rfl rfl (bG rfl (bB rfl rfl (bB rfl rfl bZ)))) rfl rfl) hl3 (fun s3 n3 oo3 h3 ho3 => ?_)
      unfold m22_l0 at h3
      refine XC.seq <| XC.region <| rR rfl rfl rfl (RO.binInt rfl rfl rfl) <| XL.nil <| XQ.seq <| XC.seq ?_
      refine XC.cond (b := (decide (s3.1 < (x10.length : Int)))) rfl (fun c13 => ?_) (fun c13 => ?_)
      ·
       replace h3 := condT c13 h3
       refine XC.skip <| XQ.seq <| XC.seq <| XC.block <| XC.seq <| XC.region ?_
       refine bindK h3 (fun x14 hx14 h3 => ?_)
       refine rR rfl rfl rfl (RO.indexE (α := Bs) sl_23 rfl (.d _) rfl hx14) <| rR rfl rfl rfl (RO.loadPel ag_9 rfl rfl) <| rA rfl rfl rfl <| XL.nil <| XQ.seq <| XC.seq <| XC.seq <| XC.region <| rR rfl rfl rfl (RO.fieldOwn fo_72_1 rfl) <| rR rfl rfl rfl (RO.loadOwn ag_70 rfl rfl rfl) <| rM rfl rfl rfl <| rR rfl rfl rfl (RO.lookupGT (M := s3.2) (k := x14) mp_70 zok_int rfl rfl rfl) <| rM rfl rfl rfl <| rR rfl rfl rfl (RO.extract rfl rfl) ?_
       refine rR rfl rfl rfl (RO.extract rfl rfl) <| rA rfl rfl rfl <| rA rfl rfl rfl <| XL.nil <| XQ.seq <| XC.seq <| XC.region <| rM rfl rfl rfl <| XL.nil <| XQ.seq ?_
       refine XC.cond (b := (gmHas s3.2 x14)) rfl (fun c15 => ?_) (fun c15 => ?_)
       ·
        replace h3 := condT c15 h3
        refine XC.seq <| XC.region <| rR rfl rfl rfl (RO.build0 bd_72 rfl ) <| XL.eff rfl rfl (OpOK.store ag_72 rfl rfl rfl rfl (lb rfl) rfl) <| rA rfl rfl rfl <| XL.nil <| XQ.seq <| XC.ret ?_
        have e_ := Option.some.inj h3
        subst e_
        have e_ : _ = _ := ho3
        subst e_
        try dsimp only [Sum.elim_inl, Sum.elim_inr] at h2
        have e_ := Option.some.inj h2
        subst e_
        have e_ : _ = _ := ho2
        subst e_
        try dsimp only [Sum.elim_inl, Sum.elim_inr] at h1
        have e_ := Option.some.inj h1
        subst e_
        exact hQ1 _ _ _ (.inr rfl) rfl (show StLe _ _ ⟨[(2, .v (.one (.ptr 0 0))), (3, .v (.one (dI 8)))], [(0, .cells 72 [dN, .d (.v (.map none))])], [], 4, 88, []⟩ from (stle (tR rfl (tR rfl tZ)) (hR rfl hZ) kZ rfl (Nat.le_trans hv1 (lb rfl)) rfl rfl rfl (bB rfl rfl bZ) rfl rfl))
       ·
        replace h3 := condF c15 h3
        refine XC.skip <| XQ.seq <| XC.region <| rR rfl rfl rfl (RO.fieldOwn fo_72_1 rfl) <| rR rfl rfl rfl (RO.loadOwn ag_70 rfl rfl rfl) <| rM rfl rfl rfl <| rM rfl rfl rfl <| XL.eff rfl rfl (OpOK.mapSetG (M := s3.2) (k := x14) (v := s2.1) mp_70 rfl rfl rfl rfl rfl) <| XL.nil <| XQ.inBlock <| XQ.seq <| XC.region <| rR rfl rfl rfl (RO.binInt rfl rfl rfl) <| rM rfl rfl rfl ?_
        refine XL.nil ?_
        have e_ := Option.some.inj h3
        subst e_
        refine XQ.nextM ((w64 (s3.1 + 1)), (gmSet s3.2 x14 s2.1)) (stle (tR rfl (tR rfl (tR rfl (tR rfl (tR rfl (tR rfl (tR rfl (tR rfl (tR rfl (tR rfl tZ)))))))))) (hR rfl (hR rfl (hR rfl (hR rfl hZ)))) kZ rfl (Nat.le_trans hv1 (lb rfl)) rfl rfl rfl (bB rfl rfl (bG rfl (bB rfl rfl (bB rfl rfl bZ)))) rfl rfl) ho3
      ·
       replace h3 := condF c13 h3
       refine XC.exit <| XQ.thenE <| XQ.thenE ?_
       have e_ := Option.some.inj h3
       subst e_
       have e_ : _ = _ := ho3
       subst e_
       exact XQ.joinX s3.2 (stle (tR rfl (tR rfl (tR rfl (tR rfl (tR rfl (tR rfl tZ)))))) (hR rfl (hR rfl (hR rfl (hR rfl hZ)))) kZ rfl (Nat.le_trans hv1 (lb rfl)) rfl rfl rfl (bB rfl rfl (bG rfl (bB rfl rfl (bB rfl rfl bZ)))) rfl rfl) h2
     ·
      intro o11 h2
      refine XQ.blockX <| XQ.inBlock <| XQ.seq <| XC.region <| rR rfl rfl rfl (RO.binInt rfl rfl rfl) <| rM rfl rfl rfl <| XL.nil ?_
      have e_ := Option.some.inj h2
      subst e_
      refine XQ.nextM ((w64 (s2.1 + 1)), o11) (stle (tR rfl (tR rfl (tR rfl (tR rfl (tR rfl (tR rfl tZ)))))) (hR rfl (hR rfl (hR rfl hZ))) kZ rfl (Nat.le_trans hv1 (lb rfl)) rfl rfl rfl (bB rfl rfl (bG rfl (bB rfl rfl bZ))) rfl rfl) ho2
    ·
     replace h2 := condF c8 h2
     refine XC.exit <| XQ.thenE <| XQ.thenE ?_
     have e_ := Option.some.inj h2
     subst e_
     have e_ : _ = _ := ho2
     subst e_
     exact XQ.joinX s2.2 (stle (tR rfl (tR rfl (tR rfl tZ))) (hR rfl (hR rfl (hR rfl hZ))) kZ rfl (Nat.le_trans hv1 (lb rfl)) rfl rfl rfl (bB rfl rfl (bG rfl (bB rfl rfl bZ))) rfl rfl) h1
   ·
    intro o6 h1
    refine XQ.blockX <| XQ.seq <| XC.seq <| XC.seq <| XC.region <| rM rfl rfl rfl <| rR rfl rfl rfl (RO.lenE (α := Dcl) sl_22 rfl (.d _)) <| rM rfl rfl rfl <| XL.nil <| XQ.seq <| XC.block ?_
    refine XC.joinX 4 (fun (o16 : (List (List Int))) => ⟨[(2, .v (.one (.ptr 0 0))), (4, .v (.one (.ptr 2 0)))], [(0, .cells 72 [dN, .d (.v (.map none))]), (1, .mp (gmE o6.1) o6.2), (2, .cells 72 [dA 3 o16, .mp 1])], [(3, some ⟨54, 1, (Enc.encL o16).length, []⟩)], 4, 88, []⟩) (fun (o16 : (List (List Int))) => (some (.inl (o16, o6))) = some y5) ?_ ?_
    ·
     refine XC.adoptC (i := 2) (off := 0) 54 1 rfl rfl ?_
     refine bindK h1 (fun o17 hl2 h1 => ?_)
     refine XC.loopM (m22_l3 a0 o6) (fun s2 => ⟨[(2, .v (.one (.ptr 0 0))), (4, .v (.one (.ptr 2 0))), (49, .v (.one (dS a0))), (50, .v (.one (dI (a0.length : Int)))), (51, .v (.one (dI s2.1)))], [(0, .cells 72 [dN, .d (.v (.map none))]), (1, .mp (gmE o6.1) o6.2), (2, .cells 72 [dA 3 s2.2, .mp 1])], [(3, some ⟨54, 1, (Enc.encL s2.2).length, []⟩)], 4, 88, []⟩) (0, ([] : List (List Int))) o17 (stle (tR rfl (tR rfl (tR rfl (tR rfl (tR rfl tZ))))) (hR rfl (hR rfl (hR rfl hZ))) (kR rfl kZ) rfl (Nat.le_trans hv1 (lb rfl)) rfl rfl rfl (bB rfl rfl (bG rfl (bB rfl rfl bZ))) rfl rfl) hl2 (fun s2 n2 oo2 h2 ho2 => ?_)
     unfold m22_l3 at h2
     refine XC.seq <| XC.region <| rR rfl rfl rfl (RO.binInt rfl rfl rfl) <| XL.nil <| XQ.seq <| XC.seq ?_
     refine XC.cond (b := (decide (s2.1 < (a0.length : Int)))) rfl (fun c18 => ?_) (fun c18 => ?_)
     ·
      replace h2 := condT c18 h2
      refine XC.skip <| XQ.seq <| XC.seq <| XC.block <| XC.seq <| XC.region ?_
      refine bindK h2 (fun x19 hx19 h2 => ?_)
      refine rR rfl rfl rfl (RO.indexE (α := Dcl) sl_22 rfl (.d _) rfl hx19) <| rR rfl rfl rfl (RO.loadPelCE (x19 : Dcl) ag_48 rfl) <| XL.put rfl rfl (lb rfl) (OpOK.alloc z_48 rfl) <| XL.eff rfl rfl (OpOK.storeCE (x19 : Dcl) ag_48 rfl rfl rfl rfl rfl) <| XL.nil <| XQ.seq <| XC.seq <| XC.region <| rA rfl rfl rfl <| XL.nil <| XQ.seq <| XC.seq <| XC.seq <| XC.region ?_
      refine rR rfl rfl rfl (RO.loadCE (x19 : Dcl) ag_48 rfl rfl) ?_
      refine bindK h2 (fun x20 hx20 h2 => ?_)
      refine XL.put rfl rfl (lb rfl) (OpOK.callFun (m53_ok x19 x20 hx20) rfl (.cons (.agg (.cons (.d _) (.cons (.d _) (.cons (.d _) (.cons (.d _) (.cons (.d _) (.cons (.d _) (.cons (.d _) (.cons (.d _) (.cons (.d _) (.cons (.d _) (.cons (.d _) (.cons (.d _) (.cons (.d _) (.cons (.d _) (.cons (.d _) (.cons (.d _) (.cons (.d _) (.cons (.d _) (.cons (.d _) (.cons (.d _) (.cons (.d _) (.cons (.d _) (.cons (.d _) .nil)))))))))))))))))))))))) .nil)) <| rR rfl rfl rfl (RO.lenE (α := Bs) sl_23 rfl (.d _)) <| rM rfl rfl rfl <| XL.nil <| XQ.seq <| XC.block ?_
      refine XC.joinX 6 (fun (o21 : (List Int)) => ⟨[(2, .v (.one (.ptr 0 0))), (4, .v (.one (.ptr 2 0))), (13, .v (.one (.apv 5 1 ((Enc.encL o21).length) []))), (49, .v (.one (dS a0))), (50, .v (.one (dI (a0.length : Int)))), (51, .v (.one (dI s2.1)))], [(0, .cells 72 [dN, .d (.v (.map none))]), (1, .mp (gmE o6.1) o6.2), (2, .cells 72 [dA 3 s2.2, .mp 1]), (4, .cells 48 (cE x19))], [(3, some ⟨54, 1, (Enc.encL s2.2).length, []⟩), (5, some ⟨3, 1, (Enc.encL o21).length, (Enc.encL o21).flatten⟩)], 6, 88, []⟩) (fun (o21 : (List Int)) => (Option.bind (sortF o21) fun (x22 : List Int) =>
        Option.bind (compactF x22 ((Enc.encL o21).length)) fun (x23 : List Int) =>
        guardO (Nat.ble (s2.2.length + ([x23]).length) 1000000000)
        (some (.next ((w64 (s2.1 + 1)), (s2.2 ++ ([x23])))))) = some oo2) ?_ ?_
      ·
       refine XC.adoptT (t := 13) 3 1 rfl <| XC.privT (α := Int) (t := 13) rfl rfl ?_
       refine bindK h2 (fun o22 hl3 h2 => ?_)
       refine XC.loopM (m22_l2 x20 o6) (fun s3 => ⟨[(2, .v (.one (.ptr 0 0))), (4, .v (.one (.ptr 2 0))), (13, .v (.one (.apv 5 1 ((Enc.encL s3.1).length) []))), (49, .v (.one (dS a0))), (50, .v (.one (dI (a0.length : Int)))), (51, .v (.one (dI s2.1))), (56, .v (.one (dS x20))), (57, .v (.one (dI (x20.length : Int)))), (58, .v (.one (dI s3.2)))], [(0, .cells 72 [dN, .d (.v (.map none))]), (1, .mp (gmE o6.1) o6.2), (2, .cells 72 [dA 3 s2.2, .mp 1]), (4, .cells 48 (cE x19))], [(3, some ⟨54, 1, (Enc.encL s2.2).length, []⟩), (5, some ⟨3, 1, (Enc.encL s3.1).length, (Enc.encL s3.1).flatten⟩)], 6, 88, []⟩) (([] : List Int), 0) o22 (stle (tR rfl (tR rfl (tR rfl (tR rfl (tR rfl (tR rfl (tR rfl (tR rfl (tR rfl tZ))))))))) (hR rfl (hR rfl (hR rfl (hR rfl hZ)))) (kR rfl (kR rfl kZ)) rfl (Nat.le_trans hv1 (lb rfl)) rfl rfl rfl (bB rfl rfl (bG rfl (bB rfl rfl (bB rfl rfl bZ)))) rfl rfl) hl3 (fun s3 n3 oo3 h3 ho3 => ?_)
       unfold m22_l2 at h3
       refine XC.seq <| XC.region <| rR rfl rfl rfl (RO.binInt rfl rfl rfl) <| XL.nil <| XQ.seq <| XC.seq ?_
       refine XC.cond (b := (decide (s3.2 < (x20.length : Int)))) rfl (fun c23 => ?_) (fun c23 => ?_)
       ·
        replace h3 := condT c23 h3
        refine XC.skip <| XQ.seq <| XC.seq <| XC.block <| XC.seq <| XC.region ?_
        refine bindK h3 (fun x24 hx24 h3 => ?_)
        refine rR rfl rfl rfl (RO.indexE (α := Bs) sl_23 rfl (.d _) rfl hx24) <| rR rfl rfl rfl (RO.loadPel ag_9 rfl rfl) <| rA rfl rfl rfl <| XL.nil <| XQ.seq <| XC.seq <| XC.region <| rR rfl rfl rfl (RO.fieldOwn fo_72_1 rfl) <| rR rfl rfl rfl (RO.loadOwn ag_70 rfl rfl rfl) <| rM rfl rfl rfl <| rR rfl rfl rfl (RO.lookupGT (M := o6) (k := x24) mp_70 zok_int rfl rfl rfl) <| rM rfl rfl rfl <| rR rfl rfl rfl (RO.extract rfl rfl) <| rR rfl rfl rfl (RO.extract rfl rfl) ?_
        refine rA rfl rfl rfl <| rA rfl rfl rfl <| XL.nil <| XQ.seq <| XC.seq <| XC.seq <| XC.region <| rM rfl rfl rfl <| rR rfl rfl rfl (RO.not rfl) <| XL.nil <| XQ.seq ?_
        refine XC.cond (b := (!(gmHas o6 x24))) rfl (fun c25 => ?_) (fun c25 => ?_)
        ·
         replace h3 := condT c25 h3
         refine XC.seq <| XC.region <| rR rfl rfl rfl (RO.build0 bd_72 rfl ) <| XL.eff rfl rfl (OpOK.store ag_72 rfl rfl rfl rfl (lb rfl) rfl) <| rA rfl rfl rfl <| XL.nil <| XQ.seq <| XC.ret ?_
         have e_ := Option.some.inj h3
         subst e_
         have e_ : _ = _ := ho3
         subst e_
         try dsimp only [Sum.elim_inl, Sum.elim_inr] at h2
         have e_ := Option.some.inj h2
         subst e_
         have e_ : _ = _ := ho2
         subst e_
         try dsimp only [Sum.elim_inl, Sum.elim_inr] at h1
         have e_ := Option.some.inj h1
         subst e_
         exact hQ1 _ _ _ (.inr rfl) rfl (show StLe _ _ ⟨[(2, .v (.one (.ptr 0 0))), (3, .v (.one (dI 9)))], [(0, .cells 72 [dN, .d (.v (.map none))])], [], 6, 88, []⟩ from (stle (tR rfl (tR rfl tZ)) (hR rfl hZ) kZ rfl (Nat.le_trans hv1 (lb rfl)) rfl rfl rfl (bB rfl rfl bZ) rfl rfl))
        ·
         replace h3 := condF c25 h3
         refine XC.skip <| XQ.seq <| XC.region <| rM rfl rfl rfl <| rM rfl rfl rfl <| XL.put rfl rfl (lb rfl) (OpOK.lit1E (α := Int) ((gmVal o6 x24)) sl_54 z_3 rfl rfl (lb rfl) (lb rfl) rfl rfl (.cons (.d _) .nil) rfl) ?_
         refine guardK h3 (fun g26 h3 => ?_)
         refine XL.put rfl rfl (lb rfl) (OpOK.appendPr (α := Int) (l := s3.1) (l2 := ([(gmVal o6 x24)] : List Int)) sl_54 el_3 rfl rfl rfl rfl (.app _ _) rfl g26) <| rA rfl rfl rfl <| XL.nil <| XQ.inBlock <| XQ.seq <| XC.region <| rR rfl rfl rfl (RO.binInt rfl rfl rfl) <| rM rfl rfl rfl <| XL.nil ?_
         have e_ := Option.some.inj h3
         subst e_
         refine XQ.nextM ((s3.1 ++ ([(gmVal o6 x24)])), (w64 (s3.2 + 1))) (stle (tR rfl (tR rfl (tR rfl (tR rfl (tR rfl (tR rfl (tR rfl (tR rfl (tR rfl tZ))))))))) (hR rfl (hR rfl (hR rfl (hR rfl hZ)))) (kR rfl (kR rfl kZ)) rfl (Nat.le_trans hv1 (lb rfl)) rfl rfl rfl (bB rfl rfl (bG rfl (bB rfl rfl (bB rfl rfl bZ)))) rfl rfl) ho3
       ·
        replace h3 := condF c23 h3
        refine XC.exit <| XQ.thenE <| XQ.thenE ?_
        have e_ := Option.some.inj h3
        subst e_
        have e_ : _ = _ := ho3
        subst e_
        exact XQ.joinX s3.1 (stle (tR rfl (tR rfl (tR rfl (tR rfl (tR rfl (tR rfl tZ)))))) (hR rfl (hR rfl (hR rfl (hR rfl hZ)))) (kR rfl (kR rfl kZ)) rfl (Nat.le_trans hv1 (lb rfl)) rfl rfl rfl (bB rfl rfl (bG rfl (bB rfl rfl (bB rfl rfl bZ)))) rfl rfl) h2
      ·
       intro o21 h2
       refine XQ.blockX <| XQ.seq <| XC.seq <| XC.region <| rM rfl rfl rfl ?_
       refine bindK h2 (fun x27 hx27 h2 => ?_)
       refine XL.put rfl rfl (lb rfl) (OpOK.callG (hp1' := []) (tk1' := [(5, some ⟨3, 1, (Enc.encL o21).length, (Enc.encL x27).flatten⟩)]) (hpF := [(0, .cells 72 [dN, .d (.v (.map none))]), (1, .mp (gmE o6.1) o6.2), (2, .cells 72 [dA 3 s2.2, .mp 1]), (4, .cells 48 (cE x19))]) (tkF := [(3, some ⟨54, 1, (Enc.encL s2.2).length, []⟩)]) (res2 := resOf []) (nx2 := 6) [5] rfl rfl (sortF_ok o21 x27 hx27) rfl rfl qZ rfl rfl gZ (jR rfl jZ) (hR rfl (hR rfl (hR rfl (hR rfl hZ)))) (kR rfl kZ) rfl rfl rfl rfl rfl bZ rfl rfl rfl rfl) <| XL.nil <| XQ.seq ?_
       refine XC.anyRun [3, 5, 7] [(0, 1), (1, 1)] mixed (by kernel_rfl) (by kernel_rfl) (by kernel_rfl) ?_
       refine RunA.rd rfl rfl rfl (OpOK.of_ro (RO.fieldOwn fo_72_0 rfl)) rfl <| RunA.rd rfl rfl rfl (OpOK.of_ro (RO.loadOwn ag_57 rfl rfl rfl)) rfl <| RunA.rd rfl rfl rfl (OpOK.of_ro (RO.move rfl)) rfl ?_
       refine bindK h2 (fun x28 hx28 h2 => ?_)
       refine RunA.eff rfl rfl rfl (OpOK.callG (hp1' := []) (tk1' := [(6, some ⟨3, 1, (Enc.encL x28).length, []⟩)]) (hpF := [(0, .cells 72 [dN, .d (.v (.map none))]), (1, .mp (gmE o6.1) o6.2), (2, .cells 72 [dA 3 s2.2, .mp 1]), (4, .cells 48 (cE x19))]) (tkF := [(3, some ⟨54, 1, (Enc.encL s2.2).length, []⟩)]) (res2 := resOf [.one (dA 6 x28)]) (nx2 := 7) [5] rfl rfl (compactF_ok x27 ((Enc.encL o21).length) x28 hx28) rfl rfl qZ rfl rfl gZ (jR rfl jZ) (hR rfl (hR rfl (hR rfl (hR rfl hZ)))) (kR rfl kZ) rfl rfl rfl rfl rfl bZ rfl rfl rfl rfl) rfl <| RunA.rd rfl rfl rfl (OpOK.data1E (α := List Int) (x28) sl_57 z_54 rfl rfl (lb rfl) rfl rfl (.cons (.app _ _ _) .nil) rfl) rfl ?_
       refine guardK h2 (fun g29 h2 => ?_)
       refine RunA.eff rfl rfl rfl (OpOK.appendE (α := List Int) sl_57 el_54 rfl rfl rfl rfl rfl (.d _) g29) rfl <| RunA.rd rfl rfl rfl (OpOK.of_ro (RO.fieldOwn fo_72_0 rfl)) rfl <| RunA.eff rfl rfl rfl (OpOK.store ag_57 rfl rfl rfl rfl (lb rfl) rfl) rfl ?_
       refine RunA.nil ⟨?ex, _, _, rfl, ?_⟩
       case ex => exact ⟨⟨_, rfl, _, _, rfl, rfl, rfl, .inl ⟨rfl, _, OpOK.of_ro (RO.fieldOwn fo_72_0 rfl), rfl⟩⟩, ⟨_, rfl, _, _, rfl, rfl, rfl, .inl ⟨rfl, _, OpOK.of_ro (RO.loadOwn ag_57 rfl rfl rfl), rfl⟩⟩, trivial⟩
       refine XQ.less (st' := ⟨[(2, .v (.one (.ptr 0 0))), (4, .v (.one (.ptr 2 0))), (49, .v (.one (dS a0))), (50, .v (.one (dI (a0.length : Int)))), (51, .v (.one (dI s2.1)))], [(0, .cells 72 [dN, .d (.v (.map none))]), (1, .mp (gmE o6.1) o6.2), (2, .cells 72 [dA 3 ((s2.2 ++ ([x28])) : List (List Int)), .mp 1]), (4, .cells 48 (cE x19))], [(3, some ⟨54, 1, (Enc.encL ((s2.2 ++ ([x28])) : List (List Int))).length, []⟩), (6, some ⟨3, 1, (Enc.encL x28).length, []⟩)], 7, 88, []⟩) (stle (tR rfl (tR rfl (tR rfl (tR rfl (tR rfl tZ))))) (hR rfl (hR rfl (hR rfl (hR rfl hZ)))) (kR rfl (kR rfl kZ)) rfl (Nat.le_trans hv1 (lb rfl)) rfl rfl rfl (bB rfl rfl (bG rfl (bB rfl rfl (bB rfl rfl bZ)))) rfl rfl) <| XQ.inBlock <| XQ.seq <| XC.region <| rR rfl rfl rfl (RO.binInt rfl rfl rfl) <| rM rfl rfl rfl <| XL.nil ?_
       have e_ := Option.some.inj h2
       subst e_
       refine XQ.nextM ((w64 (s2.1 + 1)), (s2.2 ++ ([x28]))) (stle (tR rfl (tR rfl (tR rfl (tR rfl (tR rfl tZ))))) (hR rfl (hR rfl (hR rfl hZ))) (kR rfl kZ) rfl (Nat.le_trans hv1 (lb rfl)) rfl rfl rfl (bB rfl rfl (bG rfl (bB rfl rfl bZ))) rfl rfl) ho2
     ·
      replace h2 := condF c18 h2
      refine XC.exit <| XQ.thenE <| XQ.thenE ?_
      have e_ := Option.some.inj h2
      subst e_
      have e_ : _ = _ := ho2
      subst e_
      exact XQ.joinX s2.2 (stle (tR rfl (tR rfl tZ)) (hR rfl (hR rfl (hR rfl hZ))) (kR rfl kZ) rfl (Nat.le_trans hv1 (lb rfl)) rfl rfl rfl (bB rfl rfl (bG rfl (bB rfl rfl bZ))) rfl rfl) h1
    ·
     intro o16 h1
     refine XQ.blockX <| XQ.seq <| XC.seq <| XC.region <| rR rfl rfl rfl (RO.loadOwnAgg ag_72 rfl rfl rfl rfl) <| XL.eff rfl rfl (OpOK.store ag_72 rfl rfl rfl rfl (lb rfl) rfl) <| rA rfl rfl rfl <| XL.nil <| XQ.seq <| XC.ret ?_
     have e_ := Option.some.inj h1
     subst e_
     exact hQ1 _ _ _ (.inr rfl) rfl (show StLe _ _ ⟨[(2, .v (.one (.ptr 0 0))), (3, .v (.one (dI 0)))], [(0, .cells 72 [dA 3 o16, .mp 1]), (1, .mp (gmE o6.1) o6.2)], [(3, some ⟨54, 1, (Enc.encL o16).length, []⟩)], 4, 88, []⟩ from (stle (tR rfl (tR rfl tZ)) (hR rfl (hR rfl hZ)) (kR rfl kZ) rfl (Nat.le_trans hv1 (lb rfl)) rfl rfl rfl (bB rfl rfl (bG rfl bZ)) rfl rfl))
  refine sumK (C := fun q_ => CallM Try.prog 34 [.one (dS a0)] ⟨[], [], 0⟩ (resOf (((Sum.elim (fun (y1 : (List (List Int)) × (GMap Bs Int)) => ([.agg [dA 3 y1.1, .mp 1], .one (dI 0)] : List AV)) (Sum.elim (fun (y2 : Unit) => ([.agg [dN, .d (.v (.map none))], .one (dI 8)] : List AV)) (fun (y3 : Unit) => ([.agg [dN, .d (.v (.map none))], .one (dI 9)] : List AV))))) q_)) ⟨(((Sum.elim (fun (y1 : (List (List Int)) × (GMap Bs Int)) => (⟨[(2, .v (.one (.ptr 0 0))), (3, .v (.one (dI 0)))], [(0, .cells 72 [dA 3 y1.1, .mp 1]), (1, .mp (gmE y1.2.1) y1.2.2)], [(3, some ⟨54, 1, (Enc.encL y1.1).length, []⟩)], 4, 88, []⟩ : St)) (Sum.elim (fun (y2 : Unit) => (⟨[(2, .v (.one (.ptr 0 0))), (3, .v (.one (dI 8)))], [(0, .cells 72 [dN, .d (.v (.map none))])], [], 4, 88, []⟩ : St)) (fun (y3 : Unit) => (⟨[(2, .v (.one (.ptr 0 0))), (3, .v (.one (dI 9)))], [(0, .cells 72 [dN, .d (.v (.map none))])], [], 6, 88, []⟩ : St))))) q_).hp, (((Sum.elim (fun (y1 : (List (List Int)) × (GMap Bs Int)) => (⟨[(2, .v (.one (.ptr 0 0))), (3, .v (.one (dI 0)))], [(0, .cells 72 [dA 3 y1.1, .mp 1]), (1, .mp (gmE y1.2.1) y1.2.2)], [(3, some ⟨54, 1, (Enc.encL y1.1).length, []⟩)], 4, 88, []⟩ : St)) (Sum.elim (fun (y2 : Unit) => (⟨[(2, .v (.one (.ptr 0 0))), (3, .v (.one (dI 8)))], [(0, .cells 72 [dN, .d (.v (.map none))])], [], 4, 88, []⟩ : St)) (fun (y3 : Unit) => (⟨[(2, .v (.one (.ptr 0 0))), (3, .v (.one (dI 9)))], [(0, .cells 72 [dN, .d (.v (.map none))])], [], 6, 88, []⟩ : St))))) q_).tk, (((Sum.elim (fun (y1 : (List (List Int)) × (GMap Bs Int)) => (⟨[(2, .v (.one (.ptr 0 0))), (3, .v (.one (dI 0)))], [(0, .cells 72 [dA 3 y1.1, .mp 1]), (1, .mp (gmE y1.2.1) y1.2.2)], [(3, some ⟨54, 1, (Enc.encL y1.1).length, []⟩)], 4, 88, []⟩ : St)) (Sum.elim (fun (y2 : Unit) => (⟨[(2, .v (.one (.ptr 0 0))), (3, .v (.one (dI 8)))], [(0, .cells 72 [dN, .d (.v (.map none))])], [], 4, 88, []⟩ : St)) (fun (y3 : Unit) => (⟨[(2, .v (.one (.ptr 0 0))), (3, .v (.one (dI 9)))], [(0, .cells 72 [dN, .d (.v (.map none))])], [], 6, 88, []⟩ : St))))) q_).nx⟩) hc4 h0 (fun y1 hc4 h0 => ?_) (fun z_ hc4 h0 => sumK (C := fun q_ => CallM Try.prog 34 [.one (dS a0)] ⟨[], [], 0⟩ (resOf (((Sum.elim (fun (y1 : (List (List Int)) × (GMap Bs Int)) => ([.agg [dA 3 y1.1, .mp 1], .one (dI 0)] : List AV)) (Sum.elim (fun (y2 : Unit) => ([.agg [dN, .d (.v (.map none))], .one (dI 8)] : List AV)) (fun (y3 : Unit) => ([.agg [dN, .d (.v (.map none))], .one (dI 9)] : List AV))))) (.inr q_))) ⟨(((Sum.elim (fun (y1 : (List (List Int)) × (GMap Bs Int)) => (⟨[(2, .v (.one (.ptr 0 0))), (3, .v (.one (dI 0)))], [(0, .cells 72 [dA 3 y1.1, .mp 1]), (1, .mp (gmE y1.2.1) y1.2.2)], [(3, some ⟨54, 1, (Enc.encL y1.1).length, []⟩)], 4, 88, []⟩ : St)) (Sum.elim (fun (y2 : Unit) => (⟨[(2, .v (.one (.ptr 0 0))), (3, .v (.one (dI 8)))], [(0, .cells 72 [dN, .d (.v (.map none))])], [], 4, 88, []⟩ : St)) (fun (y3 : Unit) => (⟨[(2, .v (.one (.ptr 0 0))), (3, .v (.one (dI 9)))], [(0, .cells 72 [dN, .d (.v (.map none))])], [], 6, 88, []⟩ : St))))) (.inr q_)).hp, (((Sum.elim (fun (y1 : (List (List Int)) × (GMap Bs Int)) => (⟨[(2, .v (.one (.ptr 0 0))), (3, .v (.one (dI 0)))], [(0, .cells 72 [dA 3 y1.1, .mp 1]), (1, .mp (gmE y1.2.1) y1.2.2)], [(3, some ⟨54, 1, (Enc.encL y1.1).length, []⟩)], 4, 88, []⟩ : St)) (Sum.elim (fun (y2 : Unit) => (⟨[(2, .v (.one (.ptr 0 0))), (3, .v (.one (dI 8)))], [(0, .cells 72 [dN, .d (.v (.map none))])], [], 4, 88, []⟩ : St)) (fun (y3 : Unit) => (⟨[(2, .v (.one (.ptr 0 0))), (3, .v (.one (dI 9)))], [(0, .cells 72 [dN, .d (.v (.map none))])], [], 6, 88, []⟩ : St))))) (.inr q_)).tk, (((Sum.elim (fun (y1 : (List (List Int)) × (GMap Bs Int)) => (⟨[(2, .v (.one (.ptr 0 0))), (3, .v (.one (dI 0)))], [(0, .cells 72 [dA 3 y1.1, .mp 1]), (1, .mp (gmE y1.2.1) y1.2.2)], [(3, some ⟨54, 1, (Enc.encL y1.1).length, []⟩)], 4, 88, []⟩ : St)) (Sum.elim (fun (y2 : Unit) => (⟨[(2, .v (.one (.ptr 0 0))), (3, .v (.one (dI 8)))], [(0, .cells 72 [dN, .d (.v (.map none))])], [], 4, 88, []⟩ : St)) (fun (y3 : Unit) => (⟨[(2, .v (.one (.ptr 0 0))), (3, .v (.one (dI 9)))], [(0, .cells 72 [dN, .d (.v (.map none))])], [], 6, 88, []⟩ : St))))) (.inr q_)).nx⟩) hc4 h0 (fun y2 hc4 h0 => ?_) (fun y3 hc4 h0 => ?_))
  ·
   replace hc4 : CallM Try.prog 34 [.one (dS a0)] ⟨[], [], 0⟩ (resOf [.agg [dA 3 y1.1, .mp 1], .one (dI 0)]) ⟨[(0, .cells 72 [dA 3 y1.1, .mp 1]), (1, .mp (gmE y1.2.1) y1.2.2)], [(3, some ⟨54, 1, (Enc.encL y1.1).length, []⟩)], 4⟩ := hc4
   refine XL.put rfl rfl (lb rfl) (OpOK.callW rfl rfl rfl hc4 rfl hZ kZ) <| rM rfl rfl rfl <| rR rfl rfl rfl (RO.extract rfl rfl) <| rR rfl rfl rfl (RO.extract rfl rfl) <| XL.put rfl rfl (lb rfl) (OpOK.alloc z_72 rfl) <| XL.eff rfl rfl (OpOK.store ag_72 rfl rfl rfl rfl (lb rfl) rfl) <| rA rfl rfl rfl <| XL.nil <| XQ.seq <| XC.seq <| XC.seq <| XC.region <| rM rfl rfl rfl <| rR rfl rfl rfl (RO.binInt rfl rfl rfl) ?_
   refine XL.nil <| XQ.seq ?_
   refine XC.cond rfl (fun h => nomatch h) (fun _ => ?_)
   refine XC.skip <| XQ.seq <| XC.seq <| XC.region <| rA rfl rfl rfl <| XL.nil <| XQ.seq <| XC.seq <| XC.region <| rM rfl rfl rfl <| rR rfl rfl rfl (RO.lenE (α := Dcl) sl_22 rfl (.d _)) ?_
   refine guardK h0 (fun g30 h0 => ?_)
   refine XL.put rfl rfl (lb rfl) (OpOK.makeO (α := Bool) (z := false) sl_75 z_4 rfl rfl el_4 rfl rfl g30 rfl (by repeat (first | exact CLs.nil | refine CLs.cons (by first | exact .refl _ | exact .sub (.app _ _ _) | exact .sub (.nil _)) ?_))) ?_
   refine XL.put rfl rfl (lb rfl) (OpOK.alloc z_75 rfl) <| XL.eff rfl rfl (OpOK.store ag_75 rfl rfl rfl rfl (lb rfl) rfl) <| XL.nil <| XQ.seq <| XC.seq <| XC.block ?_
   refine XC.joinX 0 (fun (o31 : (List Int) × (List Bool)) => ⟨[(6, .v (.one (dA 7 o31.1)))], [(0, .cells 72 [dA 3 y1.1, .mp 1]), (1, .mp (gmE y1.2.1) y1.2.2), (4, .cells 72 [dA 3 y1.1, .mp 1]), (5, .cells 4 (flatE o31.2)), (6, .cells 75 [.osl 5 0 ((a0.length : Int).toNat) ((a0.length : Int).toNat)])], [(3, some ⟨54, 1, (Enc.encL y1.1).length, []⟩), (7, some ⟨3, 1, (Enc.encL o31.1).length, []⟩)], 8, 58, []⟩) (fun (o31 : (List Int) × (List Bool)) => (some (o31.1, 0)) = some r) ?_ ?_
   ·
    refine XC.adoptT (t := 6) 3 1 rfl ?_
    refine bindK h0 (fun o32 hl1 h0 => ?_)
    refine XC.loopM (m22_l5 a0 y1) (fun s1 => ⟨[(0, .v (.one (dS a0))), (4, .v (.one (.ptr 4 0))), (6, .v (.one (dA 7 s1.1))), (7, .v (.one (.ptr 6 0)))], [(0, .cells 72 [dA 3 y1.1, .mp 1]), (1, .mp (gmE y1.2.1) y1.2.2), (4, .cells 72 [dA 3 y1.1, .mp 1]), (5, .cells 4 (flatE s1.2)), (6, .cells 75 [.osl 5 0 ((a0.length : Int).toNat) ((a0.length : Int).toNat)])], [(3, some ⟨54, 1, (Enc.encL y1.1).length, []⟩), (7, some ⟨3, 1, (Enc.encL s1.1).length, []⟩)], 8, 58, []⟩) (([] : List Int), (List.replicate (a0.length : Int).toNat false)) o32 (stle (tR rfl (tR rfl (tR rfl (tR rfl tZ)))) (hR rfl (hR rfl (hR rfl (hR rfl (hR rfl hZ))))) (kR rfl (kR rfl kZ)) rfl (Nat.zero_le _) rfl rfl rfl (bB rfl rfl (bG rfl (bB rfl rfl (bF rfl (bB rfl rfl bZ))))) rfl rfl) hl1 (fun s1 n1 oo1 h1 ho1 => ?_)
    unfold m22_l5 at h1
    refine XC.seq <| XC.seq <| XC.region <| rM rfl rfl rfl <| rR rfl rfl rfl (RO.lenE (α := Int) sl_54 rfl (.app _ _)) <| rM rfl rfl rfl <| rR rfl rfl rfl (RO.lenE (α := Dcl) sl_22 rfl (.d _)) <| rR rfl rfl rfl (RO.binInt rfl rfl rfl) <| XL.nil <| XQ.seq ?_
    refine XC.cond (b := (decide ((s1.1.length : Int) < (a0.length : Int)))) rfl (fun c33 => ?_) (fun c33 => ?_)
    ·
     replace h1 := condT c33 h1
     refine XC.skip <| XQ.seq <| XC.block <| XC.seq <| XC.region <| rA rfl rfl rfl <| XL.nil <| XQ.seq <| XC.seq <| XC.seq <| XC.region <| rR rfl rfl rfl (RO.fieldOwn fo_72_0 rfl) <| rR rfl rfl rfl (RO.loadOwn ag_57 rfl rfl rfl) <| rR rfl rfl rfl (RO.lenE (α := List Int) sl_57 rfl (.app _ _)) ?_
     refine rM rfl rfl rfl <| XL.nil <| XQ.seq <| XC.block ?_
     refine XC.joinX 2 (fun (o34 : Int) => ⟨[(0, .v (.one (dS a0))), (4, .v (.one (.ptr 4 0))), (6, .v (.one (dA 7 s1.1))), (7, .v (.one (.ptr 6 0))), (8, .v (.one (dI o34)))], [(0, .cells 72 [dA 3 y1.1, .mp 1]), (1, .mp (gmE y1.2.1) y1.2.2), (4, .cells 72 [dA 3 y1.1, .mp 1]), (5, .cells 4 (flatE s1.2)), (6, .cells 75 [.osl 5 0 ((a0.length : Int).toNat) ((a0.length : Int).toNat)])], [(3, some ⟨54, 1, (Enc.encL y1.1).length, []⟩), (7, some ⟨3, 1, (Enc.encL s1.1).length, []⟩)], 8, 58, []⟩) (fun (o34 : Int) => (cond (decide (o34 < 0))
         (some (.done (.inr (([] : List Int), 22))))
         (Option.bind (idx s1.2 o34) fun (x36 : Bool) =>
       guardO (Nat.beq s1.2.length ((a0.length : Int).toNat))
       (guardO (Nat.ble (s1.1.length + ([o34]).length) 1000000000)
       (some (.next ((s1.1 ++ ([o34])), (s1.2.set o34.toNat true))))))) = some oo1) ?_ ?_
     ·
      refine bindK h1 (fun o35 hl2 h1 => ?_)
      refine XC.loopM (m22_l4 y1 s1 a0) (fun s2 => ⟨[(0, .v (.one (dS a0))), (4, .v (.one (.ptr 4 0))), (6, .v (.one (dA 7 s1.1))), (7, .v (.one (.ptr 6 0))), (8, .v (.one (dI (-1)))), (28, .v (.one (dA 3 y1.1))), (29, .v (.one (dI (y1.1.length : Int)))), (30, .v (.one (dI s2)))], [(0, .cells 72 [dA 3 y1.1, .mp 1]), (1, .mp (gmE y1.2.1) y1.2.2), (4, .cells 72 [dA 3 y1.1, .mp 1]), (5, .cells 4 (flatE s1.2)), (6, .cells 75 [.osl 5 0 ((a0.length : Int).toNat) ((a0.length : Int).toNat)])], [(3, some ⟨54, 1, (Enc.encL y1.1).length, []⟩), (7, some ⟨3, 1, (Enc.encL s1.1).length, []⟩)], 8, 58, []⟩) 0 o35 (stle (tR rfl (tR rfl (tR rfl (tR rfl (tR rfl (tR rfl (tR rfl (tR rfl tZ)))))))) (hR rfl (hR rfl (hR rfl (hR rfl (hR rfl hZ))))) (kR rfl (kR rfl kZ)) rfl (Nat.zero_le _) rfl rfl rfl (bB rfl rfl (bG rfl (bB rfl rfl (bF rfl (bB rfl rfl bZ))))) rfl rfl) hl2 (fun s2 n2 oo2 h2 ho2 => ?_)
      unfold m22_l4 at h2
      refine XC.seq <| XC.region <| rR rfl rfl rfl (RO.binInt rfl rfl rfl) <| XL.nil <| XQ.seq <| XC.seq ?_
      refine XC.cond (b := (decide (s2 < (y1.1.length : Int)))) rfl (fun c36 => ?_) (fun c36 => ?_)
      ·
       replace h2 := condT c36 h2
       refine XC.skip <| XQ.seq <| XC.seq <| XC.block <| XC.seq <| XC.region <| rM rfl rfl rfl ?_
       refine bindK h2 (fun x37 hx37 h2 => ?_)
       refine rR rfl rfl rfl (RO.indexE (α := List Int) sl_57 rfl (.app _ _) rfl hx37) <| rR rfl rfl rfl (RO.loadPel ag_54 rfl rfl) <| rA rfl rfl rfl <| rA rfl rfl rfl <| XL.nil <| XQ.seq <| XC.seq ?_
       refine XC.joinR (fun (v38 : Bool) => ⟨[(0, .v (.one (dS a0))), (4, .v (.one (.ptr 4 0))), (6, .v (.one (dA 7 s1.1))), (7, .v (.one (.ptr 6 0))), (8, .v (.one (dI (-1)))), (9, .v (.one (dI s2))), (28, .v (.one (dA 3 y1.1))), (29, .v (.one (dI (y1.1.length : Int)))), (30, .v (.one (dI s2))), (45, .v (.one (dB v38)))], [(0, .cells 72 [dA 3 y1.1, .mp 1]), (1, .mp (gmE y1.2.1) y1.2.2), (4, .cells 72 [dA 3 y1.1, .mp 1]), (5, .cells 4 (flatE s1.2)), (6, .cells 75 [.osl 5 0 ((a0.length : Int).toNat) ((a0.length : Int).toNat)])], [(3, some ⟨54, 1, (Enc.encL y1.1).length, []⟩), (7, some ⟨3, 1, (Enc.encL s1.1).length, []⟩)], 8, 58, []⟩) (fun (v38 : Bool) => (cond v38
           (some (.done s2))
           (some (.next (w64 (s2 + 1))))) = some oo2) ?_ ?_
       ·
        refine bindK h2 (fun w3_ h3 h2 => ?_)
        refine XC.region <| rR rfl rfl rfl (RO.loadOwn ag_75 rfl rfl rfl) <| rM rfl rfl rfl ?_
        refine bindK h3 (fun x39 hx39 h3 => ?_)
        refine guardK h3 (fun g40 h3 => ?_)
        refine rR rfl rfl rfl (RO.indexO (α := Bool) sl_75 rfl rfl hx39 g40) <| rR rfl rfl rfl (RO.loadOF (α := Bool) (m := s2) (f := 0) ag_4 rfl rfl hx39 rfl) <| rR rfl rfl rfl (RO.not rfl) <| rM rfl rfl rfl ?_
        refine XL.case (d := 40) (c := (!x39)) rfl (fun c41 => ?_) (fun c41 => ?_)
        ·
         replace h3 := condT c41 h3
         refine rM rfl rfl rfl <| rR rfl rfl rfl (RO.makeFunc1 rfl) ?_
         refine bindK h3 (fun x42 hx42 h3 => ?_)
         refine XL.put rfl rfl (lb rfl) (OpOK.callG (hp1' := [(6, .cells 75 [.osl 5 0 ((a0.length : Int).toNat) ((a0.length : Int).toNat)]), (5, .cells 4 (flatE s1.2))]) (tk1' := []) (hpF := [(0, .cells 72 [dA 3 y1.1, .mp 1]), (1, .mp (gmE y1.2.1) y1.2.2), (4, .cells 72 [dA 3 y1.1, .mp 1])]) (tkF := [(3, some ⟨54, 1, (Enc.encL y1.1).length, []⟩), (7, some ⟨3, 1, (Enc.encL s1.1).length, []⟩)]) (res2 := resOf [.one (dB x42)]) (nx2 := 8) [6, 5] rfl rfl (m43f5_ok x37 ((a0.length : Int).toNat) s1.2 x42 hx42) rfl rfl (qB rfl rfl (qF rfl qZ)) rfl rfl (gR rfl (gF rfl gZ)) jZ (hR rfl (hR rfl (hR rfl hZ))) (kR rfl (kR rfl kZ)) rfl rfl rfl rfl rfl (bB rfl rfl (bF rfl bZ)) rfl rfl rfl rfl) <| rR rfl rfl rfl (RO.not rfl) <| rR rfl rfl rfl (RO.pickT rfl rfl) <| XL.nil ?_
         have e_ := Option.some.inj h3
         subst e_
         exact XQ.joinR (!x42) (stle (tR rfl (tR rfl (tR rfl (tR rfl (tR rfl (tR rfl (tR rfl (tR rfl (tR rfl (tR rfl tZ)))))))))) (hR rfl (hR rfl (hR rfl (hR rfl (hR rfl hZ))))) (kR rfl (kR rfl kZ)) rfl (Nat.zero_le _) rfl rfl rfl (bB rfl rfl (bG rfl (bB rfl rfl (bF rfl (bB rfl rfl bZ))))) rfl rfl) h2
        ·
         replace h3 := condF c41 h3
         refine XL.no rfl rfl <| XL.no rfl rfl <| XL.no rfl rfl <| XL.no rfl rfl <| rR rfl rfl rfl (RO.pickF rfl rfl) <| XL.nil ?_
         have e_ := Option.some.inj h3
         subst e_
         exact XQ.joinR false (stle (tR rfl (tR rfl (tR rfl (tR rfl (tR rfl (tR rfl (tR rfl (tR rfl (tR rfl (tR rfl tZ)))))))))) (hR rfl (hR rfl (hR rfl (hR rfl (hR rfl hZ))))) (kR rfl (kR rfl kZ)) rfl (Nat.zero_le _) rfl rfl rfl (bB rfl rfl (bG rfl (bB rfl rfl (bF rfl (bB rfl rfl bZ))))) rfl rfl) h2
       ·
        intro v38 h2
        refine XQ.seq ?_
        refine XC.cond (b := v38) rfl (fun c43 => ?_) (fun c43 => ?_)
        ·
         replace h2 := condT c43 h2
         refine XC.seq <| XC.region <| rM rfl rfl rfl <| rA rfl rfl rfl <| XL.nil <| XQ.seq <| XC.exit ?_
         refine XQ.blockE (by decide) ?_
         refine XQ.thenE <| XQ.thenE ?_
         have e_ := Option.some.inj h2
         subst e_
         have e_ : _ = _ := ho2
         subst e_
         exact XQ.joinX s2 (stle (tR rfl (tR rfl (tR rfl (tR rfl (tR rfl tZ))))) (hR rfl (hR rfl (hR rfl (hR rfl (hR rfl hZ))))) (kR rfl (kR rfl kZ)) rfl (Nat.zero_le _) rfl rfl rfl (bB rfl rfl (bG rfl (bB rfl rfl (bF rfl (bB rfl rfl bZ))))) rfl rfl) h1
        ·
         replace h2 := condF c43 h2
         refine XC.skip <| XQ.inBlock <| XQ.seq <| XC.region <| rR rfl rfl rfl (RO.binInt rfl rfl rfl) <| rM rfl rfl rfl <| XL.nil ?_
         have e_ := Option.some.inj h2
         subst e_
         refine XQ.nextM (w64 (s2 + 1)) (stle (tR rfl (tR rfl (tR rfl (tR rfl (tR rfl (tR rfl (tR rfl (tR rfl tZ)))))))) (hR rfl (hR rfl (hR rfl (hR rfl (hR rfl hZ))))) (kR rfl (kR rfl kZ)) rfl (Nat.zero_le _) rfl rfl rfl (bB rfl rfl (bG rfl (bB rfl rfl (bF rfl (bB rfl rfl bZ))))) rfl rfl) ho2
      ·
       replace h2 := condF c36 h2
       refine XC.exit <| XQ.thenE <| XQ.thenE ?_
       have e_ := Option.some.inj h2
       subst e_
       have e_ : _ = _ := ho2
       subst e_
       exact XQ.joinX (-1) (stle (tR rfl (tR rfl (tR rfl (tR rfl (tR rfl tZ))))) (hR rfl (hR rfl (hR rfl (hR rfl (hR rfl hZ))))) (kR rfl (kR rfl kZ)) rfl (Nat.zero_le _) rfl rfl rfl (bB rfl rfl (bG rfl (bB rfl rfl (bF rfl (bB rfl rfl bZ))))) rfl rfl) h1
     ·
      intro o34 h1
      refine XQ.blockX <| XQ.seq <| XC.seq <| XC.seq <| XC.region <| rM rfl rfl rfl <| rR rfl rfl rfl (RO.binInt rfl rfl rfl) <| XL.nil <| XQ.seq ?_
      refine XC.cond (b := (decide (o34 < 0))) rfl (fun c44 => ?_) (fun c44 => ?_)
      ·
       replace h1 := condT c44 h1
       refine XC.seq <| XC.region <| rA rfl rfl rfl <| rA rfl rfl rfl <| XL.nil <| XQ.seq <| XC.ret ?_
       have e_ := Option.some.inj h1
       subst e_
       have e_ : _ = _ := ho1
       subst e_
       try dsimp only [Sum.elim_inl, Sum.elim_inr] at h0
       have e_ := Option.some.inj h0
       subst e_
       exact XQ.retF (fun _ _ h => h) rfl (RAs.tmp rfl (RAs.tmp rfl .nil)) (.cons (.one (.nil _)) (.cons (.one (.d _)) .nil))
      ·
       replace h1 := condF c44 h1
       refine XC.skip <| XQ.seq <| XC.seq <| XC.region <| rR rfl rfl rfl (RO.loadOwn ag_75 rfl rfl rfl) <| rM rfl rfl rfl ?_
       refine bindK h1 (fun x45 hx45 h1 => ?_)
       refine guardK h1 (fun g46 h1 => ?_)
       refine rR rfl rfl rfl (RO.indexO (α := Bool) sl_75 rfl rfl hx45 g46) <| XL.eff rfl rfl (OpOK.storeOE (α := Bool) (y' := .one (dB true)) (v := true) ag_4 rfl rfl (.one (.d _)) rfl rfl hx45 rfl) <| XL.nil <| XQ.seq <| XC.region <| rM rfl rfl rfl <| rM rfl rfl rfl <| XL.put rfl rfl (lb rfl) (OpOK.lit1E (α := Int) (o34) sl_54 z_3 rfl rfl (lb rfl) (lb rfl) rfl rfl (.cons (.d _) .nil) rfl) ?_
       refine guardK h1 (fun g47 h1 => ?_)
       refine XL.put rfl rfl (lb rfl) (OpOK.appendE (α := Int) sl_54 el_3 rfl rfl rfl rfl rfl (.app _ _) g47) <| rA rfl rfl rfl <| XL.nil <| XQ.inBlock ?_
       have e_ := Option.some.inj h1
       subst e_
       refine XQ.nextM ((s1.1 ++ ([o34])), (s1.2.set o34.toNat true)) (stle (tR rfl (tR rfl (tR rfl (tR rfl tZ)))) (hR rfl (hR rfl (hR rfl (hR rfl (hR rfl hZ))))) (kR rfl (kR rfl kZ)) rfl (Nat.zero_le _) rfl rfl rfl (bB rfl rfl (bG rfl (bB rfl rfl (bF rfl (bB rfl rfl bZ))))) rfl rfl) ho1
    ·
     replace h1 := condF c33 h1
     refine XC.exit <| XQ.thenE <| XQ.thenE ?_
     have e_ := Option.some.inj h1
     subst e_
     have e_ : _ = _ := ho1
     subst e_
     exact XQ.joinX (s1.1, s1.2) (stle (tR rfl tZ) (hR rfl (hR rfl (hR rfl (hR rfl (hR rfl hZ))))) (kR rfl (kR rfl kZ)) rfl (Nat.zero_le _) rfl rfl rfl (bB rfl rfl (bG rfl (bB rfl rfl (bF rfl (bB rfl rfl bZ))))) rfl rfl) h0
   ·
    intro o31 h0
    refine XQ.blockX <| XQ.seq <| XC.seq <| XC.region <| rM rfl rfl rfl <| rA rfl rfl rfl <| rA rfl rfl rfl <| XL.nil <| XQ.seq <| XC.ret ?_
    have e_ := Option.some.inj h0
    subst e_
    exact XQ.retF (fun _ _ h => h) rfl (RAs.tmp rfl (RAs.tmp rfl .nil)) (.cons (.one (.app _ _ _)) (.cons (.one (.d _)) .nil))
  ·
   replace hc4 : CallM Try.prog 34 [.one (dS a0)] ⟨[], [], 0⟩ (resOf [.agg [dN, .d (.v (.map none))], .one (dI 8)]) ⟨[(0, .cells 72 [dN, .d (.v (.map none))])], [], 4⟩ := hc4
   refine XL.put rfl rfl (lb rfl) (OpOK.callW rfl rfl rfl hc4 rfl hZ kZ) <| rM rfl rfl rfl <| rR rfl rfl rfl (RO.extract rfl rfl) <| rR rfl rfl rfl (RO.extract rfl rfl) <| XL.put rfl rfl (lb rfl) (OpOK.alloc z_72 rfl) <| XL.eff rfl rfl (OpOK.store ag_72 rfl rfl rfl rfl (lb rfl) rfl) <| rA rfl rfl rfl <| XL.nil <| XQ.seq <| XC.seq <| XC.seq <| XC.region <| rM rfl rfl rfl <| rR rfl rfl rfl (RO.binInt rfl rfl rfl) ?_
   refine XL.nil <| XQ.seq ?_
   refine XC.cond rfl (fun _ => ?_) (fun h => nomatch h)
   refine XC.seq <| XC.region <| rM rfl rfl rfl <| rA rfl rfl rfl <| rA rfl rfl rfl <| XL.nil <| XQ.seq <| XC.ret ?_
   have e_ := Option.some.inj h0
   subst e_
   exact XQ.retF (fun _ _ h => h) rfl (RAs.tmp rfl (RAs.tmp rfl .nil)) (.cons (.one (.nil _)) (.cons (.one (.d _)) .nil))
  ·
   replace hc4 : CallM Try.prog 34 [.one (dS a0)] ⟨[], [], 0⟩ (resOf [.agg [dN, .d (.v (.map none))], .one (dI 9)]) ⟨[(0, .cells 72 [dN, .d (.v (.map none))])], [], 6⟩ := hc4
   refine XL.put rfl rfl (lb rfl) (OpOK.callW rfl rfl rfl hc4 rfl hZ kZ) <| rM rfl rfl rfl <| rR rfl rfl rfl (RO.extract rfl rfl) <| rR rfl rfl rfl (RO.extract rfl rfl) <| XL.put rfl rfl (lb rfl) (OpOK.alloc z_72 rfl) <| XL.eff rfl rfl (OpOK.store ag_72 rfl rfl rfl rfl (lb rfl) rfl) <| rA rfl rfl rfl <| XL.nil <| XQ.seq <| XC.seq <| XC.seq <| XC.region <| rM rfl rfl rfl <| rR rfl rfl rfl (RO.binInt rfl rfl rfl) ?_
   refine XL.nil <| XQ.seq ?_
   refine XC.cond rfl (fun _ => ?_) (fun h => nomatch h)
   refine XC.seq <| XC.region <| rM rfl rfl rfl <| rA rfl rfl rfl <| rA rfl rfl rfl <| XL.nil <| XQ.seq <| XC.ret ?_
   have e_ := Option.some.inj h0
   subst e_
   exact XQ.retF (fun _ _ h => h) rfl (RAs.tmp rfl (RAs.tmp rfl .nil)) (.cons (.one (.nil _)) (.cons (.one (.d _)) .nil))
end Go.Proofs.Ytijcchddnnnmdaa
namespace Go.Proofs.Ytijcchddnnnmdaa
open Go.RowKit Go.Shelf
set_option linter.unusedSimpArgs false
set_option linter.unusedVariables false
def m26_l0 (x1 : (List (List Int)) × Int) (s2 : Int × Int) (s1 : (List Int)) (s3 : Bool × Int) : Option (LO (Bool × Int) Bool) :=
  Option.bind (idx x1.1 s2.2) fun (x10 : List Int) =>
  cond (decide (s3.2 < (x10.length : Int)))
    (Option.bind (cond s3.1
    (Option.bind (idx x1.1 s2.2) fun (x14 : List Int) =>
  Option.bind (idx x14 s3.2) fun (x15 : Int) =>
  Option.bind (m49 s1 x15) fun (x16 : Bool) =>
  some x16)
    (some false)) (fun (v12 : Bool) => some (.next (v12, (w64 (s3.2 + 1))))))
    (some (.done s3.1))
def m26_l1 (a0 : List Dcl) (s1 : (List Int)) (x1 : (List (List Int)) × Int) (s2 : Int × Int) : Option (LO (Int × Int) Int) :=
  Option.bind (cond (decide (s2.2 < (a0.length : Int)))
    (some (decide (s2.1 < 0)))
    (some false)) (fun (v6 : Bool) => cond v6
    (Option.bind (m49 s1 s2.2) fun (x8 : Bool) =>
  Option.bind (loopN (m26_l0 x1 s2 s1) FUEL ((!x8), 0)) (fun (o9 : Bool) => cond o9
    (some (.next (s2.2, (w64 (s2.2 + 1)))))
    (some (.next (s2.1, (w64 (s2.2 + 1)))))))
    (some (.done s2.1)))
def m26_l2 (a0 : List Dcl) (x1 : (List (List Int)) × Int) (s1 : (List Int)) : Option (LO ((List Int)) (((List Int)) ⊕ ((List Int) × Int))) :=
  cond (decide ((s1.length : Int) < (a0.length : Int)))
    (Option.bind (loopN (m26_l1 a0 s1 x1) FUEL ((-1), 0)) (fun (o5 : Int) => cond (decide (o5 < 0))
    (some (.done (.inr (([] : List Int), 22))))
    (guardO (Nat.ble (s1.length + ([o5]).length) 1000000000)
  (some (.next (s1 ++ ([o5])))))))
    (some (.done (.inl s1)))
def m26 (a0 : List Dcl) : Option ((List Int) × Int) :=
  Option.bind (m25 a0) fun (x1 : (List (List Int)) × Int) =>
  cond (x1.2 != 0)
    (some (([] : List Int), x1.2))
    (Option.bind (loopN (m26_l2 a0 x1) FUEL ([] : List Int)) (Sum.elim (fun (o3 : (List Int)) => some (o3, 0)) (fun o => some o)))
end Go.Proofs.Ytijcchddnnnmdaa
namespace Go.Proofs.Ytijcchddnnnmdaa
open Go.RowKit Go.Lib
set_option linter.unusedSimpArgs false
set_option linter.unusedVariables false
set_option linter.unusedSectionVars false
def Gr (g : List (List Int)) (n : Nat) : Prop := g.length = n ∧ ∀ l ∈ g, l.length ≤ n ∧ ∀ j ∈ l, ∃ k : Nat, k < n ∧ j = (k : Int)
theorem graph_gr {env : List Dcl} (h : closedA env env) : Gr (graphL env) env.length := by
  refine ⟨by unfold graphL; simp, fun l hl => ?_⟩
  unfold graphL at hl
  obtain ⟨d, hd, rfl⟩ := List.mem_map.1 hl
  refine ⟨?_, fun j hj => ?_⟩
  · unfold row
    refine Nat.le_trans (List.length_filter_le _ _) ?_
    simp
  · unfold row at hj
    obtain ⟨k, hk, rfl⟩ := List.mem_map.1 (List.mem_filter.1 hj).1
    exact ⟨k, List.mem_range.1 hk, rfl⟩
def readyL (out : List Int) (i : Nat) (l : List Int) : Bool := decide ((i : Int) ∉ out) && l.all fun j => decide (j ∈ out)
def pickF (out : List Int) : Nat → List (List Int) → Option Nat
  | _, [] => none
  | i, l :: g => if readyL out i l then some i else pickF out (i + 1) g
theorem pickF_app (out : List Int) (b : List (List Int)) : ∀ (a : List (List Int)) (i : Nat), pickF out i (a ++ b) = (pickF out i a).or (pickF out (i + a.length) b)
  | [], i => by simp [pickF]
  | d :: a, i => by
    simp only [List.cons_append, pickF]
    split
    · rfl
    · rw [pickF_app out b a (i + 1), show i + 1 + a.length = i + (d :: a).length by simp only [List.length_cons]; omega]
theorem pickF_some (out : List Int) : ∀ (g : List (List Int)) (i k : Nat), pickF out i g = some k → ∃ q l, k = i + q ∧ g[q]? = some l ∧ readyL out k l = true
  | [], i, k, h => by cases h
  | l :: g, i, k, h => by
    simp only [pickF] at h
    split at h
    · cases h; exact ⟨0, l, rfl, rfl, ‹_›⟩
    · obtain ⟨q, l', h1, h2, h3⟩ := pickF_some out g (i + 1) k h
      exact ⟨q + 1, l', by omega, h2, h3⟩
def orderG (g : List (List Int)) : Nat → List Int → List Int ⊕ Unit
  | 0, out => .inl out
  | k + 1, out => match pickF out 0 g with
    | none => .inr ()
    | some i => orderG g k (out ++ [(i : Int)])
def Done (n : Nat) (out : List Int) (done : List Bool) : Prop := done.length = n ∧ ∀ i : Nat, i < n → done[i]? = some (decide ((i : Int) ∈ out))
theorem Done.idx {n : Nat} {out : List Int} {done : List Bool} (h : Done n out done) {i : Nat} (hi : i < n) : idx done (i : Int) = some (decide ((i : Int) ∈ out)) := h.2 i hi
theorem Done.set {n : Nat} {out : List Int} {done : List Bool} (h : Done n out done) {i : Nat} (hi : i < n) : Done n (out ++ [(i : Int)]) (done.set i true) := by
  refine ⟨by rw [List.length_set]; exact h.1, fun j hj => ?_⟩
  rw [List.getElem?_set]
  by_cases e : i = j
  · subst e
    rw [if_pos rfl, if_pos (by rw [h.1]; exact hj)]; simp
  · rw [if_neg e, h.2 j hj]
    have : (j : Int) ∈ out ++ [(i : Int)] ↔ (j : Int) ∈ out := by
      rw [List.mem_append, List.mem_singleton]
      exact ⟨fun h => h.elim id fun h => absurd (by omega) e, .inl⟩
    simp only [this]
theorem Done.init (n : Nat) : Done n [] (List.replicate n false) := ⟨by simp, fun i hi => by rw [List.getElem?_replicate, if_pos hi]; simp⟩
theorem m43f5_eq {n : Nat} {out : List Int} {done : List Bool} (h : Done n out done) (l : List Int) (hl : l.length ≤ 900000000) (hj : ∀ j ∈ l, ∃ k : Nat, k < n ∧ j = (k : Int)) : m43f5 l n done = some (!(l.all fun j => decide (j ∈ out))) := by
  unfold m43f5 m60f6
  obtain ⟨r, e, hr⟩ := loop_all (step := m60f6_l0 l n done) l (fun k (_ : Unit) => k) (fun a _ => (a.all fun j => decide (j ∈ out)) = true) (fun r => (r = .inl () ∧ (l.all fun j => decide (j ∈ out)) = true) ∨ (∃ k : Nat, r = .inr (k : Int) ∧ (l.all fun j => decide (j ∈ out)) = false)) hl
    (fun a x b _ e hI => by
      obtain ⟨k, hk, rfl⟩ := hj x (by rw [e]; simp)
      by_cases hx : (k : Int) ∈ out
      · refine .inr ⟨(), ?_, by rw [List.all_append, hI]; simp [hx]⟩
        unfold m60f6_l0 m44f7
        rw [e, lt_mid, idx_mid]
        simp only [cond_true, Option.bind_some]
        rw [h.idx hk, Option.bind_some, guard_eq h.1]
        simp [hx]
      · refine .inl ⟨.inr (a.length : Int), ?_, .inr ⟨a.length, rfl, by rw [e, List.all_append]; simp [hx]⟩⟩
        unfold m60f6_l0 m44f7
        rw [e, lt_mid, idx_mid]
        simp only [cond_true, Option.bind_some]
        rw [h.idx hk, Option.bind_some, guard_eq h.1]
        simp [hx])
    (fun _ hI => ⟨.inl (), by unfold m60f6_l0; rw [lt_end]; rfl, .inl ⟨rfl, hI⟩⟩) () rfl
  rw [e]
  rcases hr with ⟨rfl, h2⟩ | ⟨k, rfl, h2⟩
  · rw [h2]; rfl
  · rw [h2]
    show some (decide (0 ≤ (k : Int))) = _
    simp
theorem m22_l4_eq {env : List Dcl} {g : List (List Int)} {M : OM} {out : List Int} {done : List Bool} (hg : Gr g env.length) (hn : env.length ≤ 100000000) (h : Done env.length out done) : loopN (m22_l4 (g, M) (out, done) env) FUEL 0 = some (match pickF out 0 g with
    | some i => (i : Int)
    | none => -1) := by
  obtain ⟨r, e, rfl⟩ := loop_all (step := m22_l4 (g, M) (out, done) env) g (fun k (_ : Unit) => k) (fun a _ => pickF out 0 a = none) (fun r => r = match pickF out 0 g with
      | some i => (i : Int)
      | none => -1) (by rw [hg.1]; omega)
    (fun a x b _ e hI => by
      have hx : x ∈ g := by rw [e]; simp
      obtain ⟨hx1, hx2⟩ := hg.2 x hx
      have hal : a.length < env.length := by rw [← hg.1]; exact mid_lt e
      have hstep : m22_l4 (g, M) (out, done) env (a.length : Int) = cond (readyL out a.length x) (some (.done (a.length : Int))) (some (.next (w64 ((a.length : Int) + 1)))) := by
        unfold m22_l4
        dsimp only
        rw [e, lt_mid, idx_mid]
        simp only [cond_true, Option.bind_some]
        rw [h.idx hal, Option.bind_some, guard_eq (by rw [h.1]; simp)]
        unfold readyL
        by_cases ha : (a.length : Int) ∈ out
        · simp [ha]
        · rw [show (env.length : Int).toNat = env.length by simp, m43f5_eq h x (by omega) hx2]
          simp [ha]
      cases hr : readyL out a.length x with
      | true =>
        rw [hr] at hstep
        refine .inl ⟨_, hstep, ?_⟩
        rw [e, pickF_app, hI, Nat.zero_add]
        simp [pickF, hr]
      | false =>
        rw [hr] at hstep
        refine .inr ⟨(), hstep, ?_⟩
        rw [pickF_app, hI, Nat.zero_add]
        simp [pickF, hr])
    (fun _ hI => ⟨-1, by unfold m22_l4; dsimp only; rw [lt_end]; rfl, by rw [hI]⟩) () rfl
  exact e
theorem pick_lt {g : List (List Int)} {n i : Nat} {out : List Int} (hg : Gr g n) (h : pickF out 0 g = some i) : i < n := by
  obtain ⟨q, l, h1, h2, h3⟩ := pickF_some out g 0 i h
  have := (List.getElem?_eq_some_iff.1 h2).1
  rw [hg.1] at this; omega
theorem m22_l5_eq {env : List Dcl} {g : List (List Int)} {M : OM} (hg : Gr g env.length) (hn : env.length ≤ 100000000) : ∀ (k m : Nat) (out : List Int) (done : List Bool), out.length + k = env.length → k < m → Done env.length out done →
    ∃ done', loopN (m22_l5 env (g, M)) m (out, done) = some (match orderG g k out with
      | .inl o => .inl (o, done')
      | .inr () => .inr ([], 22))
  | k, 0, out, done, _, h, _ => by omega
  | 0, m + 1, out, done, h, _, hd => by
    refine ⟨done, ?_⟩
    have : m22_l5 env (g, M) (out, done) = some (.done (.inl (out, done))) := by
      unfold m22_l5
      dsimp only
      rw [decide_eq_false (by omega)]; rfl
    simp only [loopN, this, orderG]
  | k + 1, m + 1, out, done, h, hm, hd => by
    have hl4 := m22_l4_eq (M := M) hg hn hd
    cases hp : pickF out 0 g with
    | none =>
      rw [hp] at hl4
      refine ⟨done, ?_⟩
      have : m22_l5 env (g, M) (out, done) = some (.done (.inr ([], 22))) := by
        unfold m22_l5
        dsimp only
        rw [decide_eq_true (by omega), cond_true, hl4]; rfl
      simp only [loopN, this, orderG, hp]
    | some i =>
      rw [hp] at hl4
      have hi := pick_lt hg hp
      have hs := hd.set hi
      obtain ⟨done', ih⟩ := m22_l5_eq hg hn k m (out ++ [(i : Int)]) (done.set i true) (by simp; omega) (by omega) hs
      refine ⟨done', ?_⟩
      have : m22_l5 env (g, M) (out, done) = some (.next (out ++ [(i : Int)], done.set i true)) := by
        unfold m22_l5
        dsimp only
        rw [decide_eq_true (by omega), cond_true, hl4, Option.bind_some]
        dsimp only
        rw [decide_eq_false (by omega), cond_false, hd.idx hi, Option.bind_some, guard_eq (by rw [hd.1]; simp), guard_le (by simp; omega)]
        simp
      simp only [loopN, this, orderG, hp]
      exact ih
inductive OSays (env : List Dcl) : List Int × Int → Prop
  | twice (h : ¬ (allNames env).Nodup) : OSays env ([], 8)
  | none (h : (allNames env).Nodup) (h2 : ¬ closedA env env) : OSays env ([], 9)
  | loop (h : (allNames env).Nodup) (h2 : closedA env env) (h3 : orderG (graphL env) env.length [] = .inr ()) : OSays env ([], 22)
  | ok (h : (allNames env).Nodup) (h2 : closedA env env) (o : List Int) (h3 : orderG (graphL env) env.length [] = .inl o) : OSays env (o, 0)
theorem OSays.uniq {env : List Dcl} {r s : List Int × Int} (h1 : OSays env r) (h2 : OSays env s) : r = s := by
  cases h1 <;> cases h2 <;> first | rfl | contradiction | (simp_all; done)
theorem m22_eq (env : List Dcl) (hl : envSz env ≤ 100000000) : ∃ r, m22 env = some r ∧ OSays env r := by
  have hel := env_len env
  unfold m22
  obtain ⟨r, e, hr⟩ := newGraph_eq (γ := Unit) env hl
  change ∃ r, Option.bind (Option.bind (loopN (m23_l1 env) FUEL (0, gmNil)) (Sum.elim (fun (o6 : OM) => Option.bind (loopN (m23_l3 env o6) FUEL (0, ([] : List (List Int)))) (Sum.elim (fun (o7 : List (List Int)) => some (.inl (o7, o6))) (fun o => some o))) (fun o => some o))) _ = some r ∧ _
  rw [e, Option.bind_some]
  rcases hr with ⟨h1, rfl⟩ | ⟨h1, h2, rfl⟩ | ⟨h1, h2, M, rfl, hM⟩
  · exact ⟨_, rfl, .twice h1⟩
  · exact ⟨_, rfl, .none h1 h2⟩
  · dsimp only [Sum.elim]
    rw [decide_eq_true (by omega), cond_true, show (env.length : Int).toNat = env.length by simp, guard_le (by omega)]
    obtain ⟨done', e2⟩ := m22_l5_eq (M := M) (graph_gr h2) (by omega) env.length FUEL [] (List.replicate env.length false) (by simp) (by unfold FUEL; omega) (Done.init _)
    rw [e2, Option.bind_some]
    cases ho : orderG (graphL env) env.length [] with
    | inl o => exact ⟨(o, 0), rfl, .ok h1 h2 o ho⟩
    | inr u => exact ⟨([], 22), rfl, .loop h1 h2 ho⟩
end Go.Proofs.Ytijcchddnnnmdaa
namespace Go.Proofs.Ytijcchddnnnmdaa
open Go.RowKit Go.Shelf
set_option linter.unusedSimpArgs false
set_option linter.unusedVariables false
theorem st_9 : isStrTy Try.prog 9 = true := by kernel_rfl
theorem en_9 : Enters Try.prog 9 := enters_of Try.func9 (by kernel_rfl) rfl
theorem en_30 : Enters Try.prog 30 := enters_of Try.func30 (by kernel_rfl) rfl
theorem en_50 : Enters Try.prog 50 := enters_of Try.func50 (by kernel_rfl) rfl
theorem en_51 : Enters Try.prog 51 := enters_of Try.func51 (by kernel_rfl) rfl
theorem en_65 : Enters Try.prog 65 := enters_of Try.func65 (by kernel_rfl) rfl
theorem en_66 : Enters Try.prog 66 := enters_of Try.func66 (by kernel_rfl) rfl
def m65_l0 (a0 : Tm) (rc : Tm → Option Int) (s1 : Int × Int) : Option (LO (Int × Int) Int) :=
  cond (decide (s1.2 < (a0.kids.length : Int)))
    (Option.bind (idx a0.kids s1.2) fun (x3 : Tm) =>
  Option.bind (rc x3) fun (x4 : Int) =>
  some (.next ((w64 (s1.1 + x4)), (w64 (s1.2 + 1)))))
    (some (.done s1.1))
def m65s (rc : Tm → Option Int) (a0 : Tm) : Option Int :=
  Option.bind (loopN (m65_l0 a0 rc) FUEL (1, 0)) (fun (o1 : Int) => some o1)
def m65F (rc : Tm → Option Int) (u : Tm) : Option Int := m65s rc u
def m65 (a0 : Tm) : Option Int := recO m65F FUEL a0
set_option maxRecDepth 100000 in
set_option maxHeartbeats 2000000 in
theorem m65s_ok (rc : Tm → Option Int) (H : ∀ (a0 : Tm) (r : Int), rc a0 = some r → Fun Try.prog 65 [.agg (cE a0)] (resOf [.one (dI r)])) (a0 : Tm) (r : Int) (h0 : m65s rc a0 = some r) : Fun Try.prog 65 [.agg (cE a0)] (resOf [.one (dI r)]) := by
  unfold m65s at h0
  refine Fun.of_bodyM 9 21 Try.func65 rfl en_65 rfl (lb rfl) (fun S w => ?_)
  simp only [entry]
  refine XC.seq <| XC.region <| XL.put rfl rfl (lb rfl) (OpOK.box rfl) <| rA rfl rfl rfl <| XL.nil <| XQ.seq <| XC.seq <| XC.region <| rA rfl rfl rfl <| XL.nil <| XQ.seq <| XC.seq <| XC.seq <| XC.region ?_
  refine rA rfl rfl rfl <| XL.nil <| XQ.seq <| XC.block ?_
  refine XC.joinX 0 (fun (o1 : Int) => ⟨[(3, .v (.one (dI o1)))], [(0, .cells 42 (cE a0))], [], 1, 21, []⟩) (fun (o1 : Int) => (some o1) = some r) ?_ ?_
  ·
   refine bindK h0 (fun o2 hl1 h0 => ?_)
   refine XC.loopM (m65_l0 a0 rc) (fun s1 => ⟨[(1, .v (.one (.ptr 0 0))), (3, .v (.one (dI s1.1))), (4, .v (.one (dI s1.2)))], [(0, .cells 42 (cE a0))], [], 1, 21, []⟩) (1, 0) o2 (stle (tR rfl (tR rfl (tR rfl tZ))) (hR rfl hZ) kZ rfl (Nat.zero_le _) rfl rfl rfl (bB rfl rfl bZ) rfl rfl) hl1 (fun s1 n1 oo1 h1 ho1 => ?_)
   unfold m65_l0 at h1
   refine XC.seq <| XC.seq <| XC.region <| rM rfl rfl rfl <| rR rfl rfl rfl (RO.fieldOwn fo_42_4 rfl) <| rR rfl rfl rfl (RO.loadOwn ag_40 rfl rfl rfl) <| rR rfl rfl rfl (RO.lenE (α := Tm) sl_40 rfl (.d _)) <| rR rfl rfl rfl (RO.binInt rfl rfl rfl) <| XL.nil <| XQ.seq ?_
   refine XC.cond (b := (decide (s1.2 < (a0.kids.length : Int)))) rfl (fun c3 => ?_) (fun c3 => ?_)
   ·
    replace h1 := condT c3 h1
    refine XC.skip <| XQ.seq <| XC.seq <| XC.block <| XC.region <| rM rfl rfl rfl <| rR rfl rfl rfl (RO.fieldOwn fo_42_4 rfl) <| rR rfl rfl rfl (RO.loadOwn ag_40 rfl rfl rfl) <| rM rfl rfl rfl ?_
    refine bindK h1 (fun x4 hx4 h1 => ?_)
    refine rR rfl rfl rfl (RO.indexE (α := Tm) sl_40 rfl (.d _) rfl hx4) <| rR rfl rfl rfl (RO.loadPelCE (x4 : Tm) ag_42 rfl) ?_
    refine bindK h1 (fun x5 hx5 h1 => ?_)
    refine XL.put rfl rfl (lb rfl) (OpOK.callFun (H x4 x5 hx5) rfl (.cons (.agg (.cons (.d _) (.cons (.d _) (.cons (.d _) (.cons (.d _) (.cons (.d _) .nil)))))) .nil)) <| rR rfl rfl rfl (RO.binInt rfl rfl rfl) <| rA rfl rfl rfl <| XL.nil <| XQ.inBlock <| XQ.seq <| XC.region <| rM rfl rfl rfl <| rR rfl rfl rfl (RO.binInt rfl rfl rfl) <| rA rfl rfl rfl <| XL.nil ?_
    have e_ := Option.some.inj h1
    subst e_
    refine XQ.nextM ((w64 (s1.1 + x5)), (w64 (s1.2 + 1))) (stle (tR rfl (tR rfl (tR rfl tZ))) (hR rfl hZ) kZ rfl (Nat.zero_le _) rfl rfl rfl (bB rfl rfl bZ) rfl rfl) ho1
   ·
    replace h1 := condF c3 h1
    refine XC.exit <| XQ.thenE <| XQ.thenE ?_
    have e_ := Option.some.inj h1
    subst e_
    have e_ : _ = _ := ho1
    subst e_
    exact XQ.joinX s1.1 (stle (tR rfl tZ) (hR rfl hZ) kZ rfl (Nat.zero_le _) rfl rfl rfl (bB rfl rfl bZ) rfl rfl) h0
  ·
   intro o1 h0
   refine XQ.blockX <| XQ.seq <| XC.seq <| XC.region <| rM rfl rfl rfl <| rA rfl rfl rfl <| XL.nil <| XQ.seq <| XC.ret ?_
   have e_ := Option.some.inj h0
   subst e_
   exact XQ.retF (fun _ _ h => h) rfl (RAs.tmp rfl .nil) (.cons (.one (.d _)) .nil)
theorem m65_all (n : Nat) (u : Tm) (r : Int) (h0 : recO m65F n u = some r) : Fun Try.prog 65 [.agg (cE u)] (resOf [.one (dI r)]) :=
  recO_ind (C := fun u r => Fun Try.prog 65 [.agg (cE u)] (resOf [.one (dI r)])) (fun rc H u r h => m65s_ok rc (fun a0 r h => H a0 r h) u r h) n u r h0
theorem m65_ok (a0 : Tm) (r : Int) (h0 : m65 a0 = some r) : Fun Try.prog 65 [.agg (cE a0)] (resOf [.one (dI r)]) := m65_all FUEL a0 r h0
def m66_l0 (a0 : Tm) (rc : Tm → Option Int) (s1 : Int × Int) : Option (LO (Int × Int) Int) :=
  cond (decide (s1.2 < (a0.kids.length : Int)))
    (Option.bind (idx a0.kids s1.2) fun (x3 : Tm) =>
  Option.bind (rc x3) fun (x4 : Int) =>
  some (.next ((max s1.1 x4), (w64 (s1.2 + 1)))))
    (some (.done s1.1))
def m66s (rc : Tm → Option Int) (a0 : Tm) : Option Int :=
  Option.bind (loopN (m66_l0 a0 rc) FUEL (0, 0)) (fun (o1 : Int) => some (w64 (o1 + 1)))
def m66F (rc : Tm → Option Int) (u : Tm) : Option Int := m66s rc u
def m66 (a0 : Tm) : Option Int := recO m66F FUEL a0
set_option maxRecDepth 100000 in
set_option maxHeartbeats 2000000 in
theorem m66s_ok (rc : Tm → Option Int) (H : ∀ (a0 : Tm) (r : Int), rc a0 = some r → Fun Try.prog 66 [.agg (cE a0)] (resOf [.one (dI r)])) (a0 : Tm) (r : Int) (h0 : m66s rc a0 = some r) : Fun Try.prog 66 [.agg (cE a0)] (resOf [.one (dI r)]) := by
  unfold m66s at h0
  refine Fun.of_bodyM 9 22 Try.func66 rfl en_66 rfl (lb rfl) (fun S w => ?_)
  simp only [entry]
  refine XC.seq <| XC.region <| XL.put rfl rfl (lb rfl) (OpOK.box rfl) <| rA rfl rfl rfl <| XL.nil <| XQ.seq <| XC.seq <| XC.region <| rA rfl rfl rfl <| XL.nil <| XQ.seq <| XC.seq <| XC.seq <| XC.region ?_
  refine rA rfl rfl rfl <| XL.nil <| XQ.seq <| XC.block ?_
  refine XC.joinX 0 (fun (o1 : Int) => ⟨[(3, .v (.one (dI o1)))], [(0, .cells 42 (cE a0))], [], 1, 22, []⟩) (fun (o1 : Int) => (some (w64 (o1 + 1))) = some r) ?_ ?_
  ·
   refine bindK h0 (fun o2 hl1 h0 => ?_)
   refine XC.loopM (m66_l0 a0 rc) (fun s1 => ⟨[(1, .v (.one (.ptr 0 0))), (3, .v (.one (dI s1.1))), (4, .v (.one (dI s1.2)))], [(0, .cells 42 (cE a0))], [], 1, 22, []⟩) (0, 0) o2 (stle (tR rfl (tR rfl (tR rfl tZ))) (hR rfl hZ) kZ rfl (Nat.zero_le _) rfl rfl rfl (bB rfl rfl bZ) rfl rfl) hl1 (fun s1 n1 oo1 h1 ho1 => ?_)
   unfold m66_l0 at h1
   refine XC.seq <| XC.seq <| XC.region <| rM rfl rfl rfl <| rR rfl rfl rfl (RO.fieldOwn fo_42_4 rfl) <| rR rfl rfl rfl (RO.loadOwn ag_40 rfl rfl rfl) <| rR rfl rfl rfl (RO.lenE (α := Tm) sl_40 rfl (.d _)) <| rR rfl rfl rfl (RO.binInt rfl rfl rfl) <| XL.nil <| XQ.seq ?_
   refine XC.cond (b := (decide (s1.2 < (a0.kids.length : Int)))) rfl (fun c3 => ?_) (fun c3 => ?_)
   ·
    replace h1 := condT c3 h1
    refine XC.skip <| XQ.seq <| XC.seq <| XC.block <| XC.region <| rM rfl rfl rfl <| rR rfl rfl rfl (RO.fieldOwn fo_42_4 rfl) <| rR rfl rfl rfl (RO.loadOwn ag_40 rfl rfl rfl) <| rM rfl rfl rfl ?_
    refine bindK h1 (fun x4 hx4 h1 => ?_)
    refine rR rfl rfl rfl (RO.indexE (α := Tm) sl_40 rfl (.d _) rfl hx4) <| rR rfl rfl rfl (RO.loadPelCE (x4 : Tm) ag_42 rfl) ?_
    refine bindK h1 (fun x5 hx5 h1 => ?_)
    refine XL.put rfl rfl (lb rfl) (OpOK.callFun (H x4 x5 hx5) rfl (.cons (.agg (.cons (.d _) (.cons (.d _) (.cons (.d _) (.cons (.d _) (.cons (.d _) .nil)))))) .nil)) <| rR rfl rfl rfl (RO.max2 rfl rfl) <| rA rfl rfl rfl <| XL.nil <| XQ.inBlock <| XQ.seq <| XC.region <| rM rfl rfl rfl <| rR rfl rfl rfl (RO.binInt rfl rfl rfl) <| rA rfl rfl rfl <| XL.nil ?_
    have e_ := Option.some.inj h1
    subst e_
    refine XQ.nextM ((max s1.1 x5), (w64 (s1.2 + 1))) (stle (tR rfl (tR rfl (tR rfl tZ))) (hR rfl hZ) kZ rfl (Nat.zero_le _) rfl rfl rfl (bB rfl rfl bZ) rfl rfl) ho1
   ·
    replace h1 := condF c3 h1
    refine XC.exit <| XQ.thenE <| XQ.thenE ?_
    have e_ := Option.some.inj h1
    subst e_
    have e_ : _ = _ := ho1
    subst e_
    exact XQ.joinX s1.1 (stle (tR rfl tZ) (hR rfl hZ) kZ rfl (Nat.zero_le _) rfl rfl rfl (bB rfl rfl bZ) rfl rfl) h0
  ·
   intro o1 h0
   refine XQ.blockX <| XQ.seq <| XC.seq <| XC.region <| rM rfl rfl rfl <| rR rfl rfl rfl (RO.binInt rfl rfl rfl) <| rA rfl rfl rfl <| XL.nil <| XQ.seq <| XC.ret ?_
   have e_ := Option.some.inj h0
   subst e_
   exact XQ.retF (fun _ _ h => h) rfl (RAs.tmp rfl .nil) (.cons (.one (.d _)) .nil)
theorem m66_all (n : Nat) (u : Tm) (r : Int) (h0 : recO m66F n u = some r) : Fun Try.prog 66 [.agg (cE u)] (resOf [.one (dI r)]) :=
  recO_ind (C := fun u r => Fun Try.prog 66 [.agg (cE u)] (resOf [.one (dI r)])) (fun rc H u r h => m66s_ok rc (fun a0 r h => H a0 r h) u r h) n u r h0
theorem m66_ok (a0 : Tm) (r : Int) (h0 : m66 a0 = some r) : Fun Try.prog 66 [.agg (cE a0)] (resOf [.one (dI r)]) := m66_all FUEL a0 r h0
def m50 (a0 : Tm) : Option Bool :=
  Option.bind (Option.bind (m65 a0) fun (x2 : Int) =>
  cond (decide (x2 ≤ 400))
    (Option.bind (m66 a0) fun (x4 : Int) =>
  some (decide (x4 ≤ 150)))
    (some false)) (fun (v1 : Bool) => some v1)
set_option maxRecDepth 100000 in
set_option maxHeartbeats 2000000 in
theorem m50_ok (a0 : Tm) (r : Bool) (h0 : m50 a0 = some r) : Fun Try.prog 50 [.agg (cE a0)] (resOf [.one (dB r)]) := by
  unfold m50 at h0
  refine Fun.of_bodyM 9 11 Try.func50 rfl en_50 rfl (lb rfl) (fun S w => ?_)
  simp only [entry]
  refine XC.seq <| XC.region <| XL.put rfl rfl (lb rfl) (OpOK.box rfl) <| rA rfl rfl rfl <| XL.nil <| XQ.seq <| XC.seq ?_
  refine XC.joinR (fun (v1 : Bool) => ⟨[(2, .v (.one (dB v1)))], [(0, .cells 42 (cE a0))], [], 1, 11, []⟩) (fun (v1 : Bool) => (some v1) = some r) ?_ ?_
  ·
   refine bindK h0 (fun w1_ h1 h0 => ?_)
   refine XC.region <| rR rfl rfl rfl (RO.loadCE (a0 : Tm) ag_42 rfl rfl) ?_
   refine bindK h1 (fun x2 hx2 h1 => ?_)
   refine XL.put rfl rfl (lb rfl) (OpOK.callFun (m65_ok a0 x2 hx2) rfl (.cons (.agg (.cons (.d _) (.cons (.d _) (.cons (.d _) (.cons (.d _) (.cons (.d _) .nil)))))) .nil)) <| rR rfl rfl rfl (RO.binInt rfl rfl rfl) <| rM rfl rfl rfl ?_
   refine XL.case (d := 6) (c := (decide (x2 ≤ 400))) rfl (fun c3 => ?_) (fun c3 => ?_)
   ·
    replace h1 := condT c3 h1
    refine rR rfl rfl rfl (RO.loadCE (a0 : Tm) ag_42 rfl rfl) ?_
    refine bindK h1 (fun x4 hx4 h1 => ?_)
    refine XL.put rfl rfl (lb rfl) (OpOK.callFun (m66_ok a0 x4 hx4) rfl (.cons (.agg (.cons (.d _) (.cons (.d _) (.cons (.d _) (.cons (.d _) (.cons (.d _) .nil)))))) .nil)) <| rR rfl rfl rfl (RO.binInt rfl rfl rfl) <| rR rfl rfl rfl (RO.pickT rfl rfl) <| rA rfl rfl rfl <| XL.nil ?_
    have e_ := Option.some.inj h1
    subst e_
    exact XQ.joinR (decide (x4 ≤ 150)) (stle (tR rfl tZ) (hR rfl hZ) kZ rfl (Nat.zero_le _) rfl rfl rfl (bB rfl rfl bZ) rfl rfl) h0
   ·
    replace h1 := condF c3 h1
    refine XL.no rfl rfl <| XL.no rfl rfl <| XL.no rfl rfl <| rR rfl rfl rfl (RO.pickF rfl rfl) <| rA rfl rfl rfl <| XL.nil ?_
    have e_ := Option.some.inj h1
    subst e_
    exact XQ.joinR false (stle (tR rfl tZ) (hR rfl hZ) kZ rfl (Nat.zero_le _) rfl rfl rfl (bB rfl rfl bZ) rfl rfl) h0
  ·
   intro v1 h0
   refine XQ.seq <| XC.ret ?_
   have e_ := Option.some.inj h0
   subst e_
   exact XQ.retF (fun _ _ h => h) rfl (RAs.tmp rfl .nil) (.cons (.one (.d _)) .nil)
def m51_l0 (a0 : Tr) (rc : Tr × Int → Option Bool) (a1 : Int) (s1 : Int) : Option (LO Int (Unit ⊕ Bool)) :=
  cond (decide (s1 < (a0.branches.length : Int)))
    (Option.bind (Option.bind (idx a0.branches s1) fun (x6 : Br) =>
  Option.bind (rc (x6.tree, (w64 (a1 + 1)))) fun (x7 : Bool) =>
  cond (!x7)
    (some true)
    (Option.bind (idx a0.branches s1) fun (x9 : Br) =>
  some (decide (200 < (x9.ctor.length : Int))))) (fun (v5 : Bool) => cond v5
    (some (.done (.inr false)))
    (some (.next (w64 (s1 + 1))))))
    (some (.done (.inl ())))
def m51s (rc : Tr × Int → Option Bool) (a0 : Tr) (a1 : Int) : Option Bool :=
  Option.bind (cond (decide (40 < a1))
    (some true)
    (cond (decide (40 < (a0.branches.length : Int)))
    (some true)
    (Option.bind (m50 a0.body) fun (x4 : Bool) =>
  some (!x4)))) (fun (v1 : Bool) => cond v1
    (some false)
    (Option.bind (loopN (m51_l0 a0 rc a1) FUEL 0) (Sum.elim (fun (o3 : Unit) => some true) (fun o => some o))))
def m51F (rc : Tr × Int → Option Bool) (u : Tr × Int) : Option Bool := m51s rc u.1 u.2
def m51 (a0 : Tr) (a1 : Int) : Option Bool := recO m51F FUEL (a0, a1)
set_option maxRecDepth 100000 in
set_option maxHeartbeats 2000000 in
theorem m51s_ok (rc : Tr × Int → Option Bool) (H : ∀ (a0 : Tr) (a1 : Int) (r : Bool), rc (a0, a1) = some r → Fun Try.prog 51 [.agg (cE a0), .one (dI a1)] (resOf [.one (dB r)])) (a0 : Tr) (a1 : Int) (r : Bool) (h0 : m51s rc a0 a1 = some r) : Fun Try.prog 51 [.agg (cE a0), .one (dI a1)] (resOf [.one (dB r)]) := by
  unfold m51s at h0
  refine Fun.of_bodyM 9 47 Try.func51 rfl en_51 rfl (lb rfl) (fun S w => ?_)
  simp only [entry]
  refine XC.seq <| XC.region <| XL.put rfl rfl (lb rfl) (OpOK.box rfl) <| rA rfl rfl rfl <| XL.nil <| XQ.seq <| XC.seq <| XC.seq ?_
  refine XC.joinR (fun (v1 : Bool) => ⟨[(1, .v (.one (dI a1))), (2, .v (.one (.ptr 0 0))), (19, .v (.one (dB v1)))], [(0, .cells 87 (cE a0))], [], 1, 47, []⟩) (fun (v1 : Bool) => (cond v1
      (some false)
      (Option.bind (loopN (m51_l0 a0 rc a1) FUEL 0) (Sum.elim (fun (o3 : Unit) => some true) (fun o => some o)))) = some r) ?_ ?_
  ·
   refine bindK h0 (fun w1_ h1 h0 => ?_)
   refine XC.region <| rM rfl rfl rfl <| rR rfl rfl rfl (RO.binInt rfl rfl rfl) <| rM rfl rfl rfl ?_
   refine XL.case (d := 8) (c := (decide (40 < a1))) rfl (fun c2 => ?_) (fun c2 => ?_)
   ·
    replace h1 := condT c2 h1
    refine XL.no rfl rfl <| XL.no rfl rfl <| XL.no rfl rfl <| XL.no rfl rfl <| rR rfl rfl rfl (RO.pickT rfl rfl) <| rM rfl rfl rfl <| XL.no rfl rfl <| XL.no rfl rfl <| XL.no rfl rfl <| XL.no rfl rfl <| rR rfl rfl rfl (RO.pickT rfl rfl) <| XL.nil ?_
    have e_ := Option.some.inj h1
    subst e_
    exact XQ.joinR true (stle (tR rfl (tR rfl (tR rfl tZ))) (hR rfl hZ) kZ rfl (Nat.zero_le _) rfl rfl rfl (bB rfl rfl bZ) rfl rfl) h0
   ·
    replace h1 := condF c2 h1
    refine rR rfl rfl rfl (RO.fieldOwn fo_87_3 rfl) <| rR rfl rfl rfl (RO.loadOwn ag_85 rfl rfl rfl) <| rR rfl rfl rfl (RO.lenE (α := Br) sl_85 rfl (.d _)) <| rR rfl rfl rfl (RO.binInt rfl rfl rfl) <| rR rfl rfl rfl (RO.pickF rfl rfl) <| rM rfl rfl rfl ?_
    refine XL.case (d := 14) (c := (decide (40 < (a0.branches.length : Int)))) rfl (fun c3 => ?_) (fun c3 => ?_)
    ·
     replace h1 := condT c3 h1
     refine XL.no rfl rfl <| XL.no rfl rfl <| XL.no rfl rfl <| XL.no rfl rfl <| rR rfl rfl rfl (RO.pickT rfl rfl) <| XL.nil ?_
     have e_ := Option.some.inj h1
     subst e_
     exact XQ.joinR true (stle (tR rfl (tR rfl (tR rfl tZ))) (hR rfl hZ) kZ rfl (Nat.zero_le _) rfl rfl rfl (bB rfl rfl bZ) rfl rfl) h0
    ·
     replace h1 := condF c3 h1
     refine rR rfl rfl rfl (RO.fieldOwn fo_87_1 rfl) <| rR rfl rfl rfl (RO.loadOwnAgg ag_42 rfl rfl rfl rfl) ?_
     refine bindK h1 (fun x4 hx4 h1 => ?_)
     refine XL.put rfl rfl (lb rfl) (OpOK.callFun (m50_ok a0.body x4 hx4) rfl (.cons (.agg (.cons (.d _) (.cons (.d _) (.cons (.d _) (.cons (.d _) (.cons (.d _) .nil)))))) .nil)) <| rR rfl rfl rfl (RO.not rfl) <| rR rfl rfl rfl (RO.pickF rfl rfl) <| XL.nil ?_
     have e_ := Option.some.inj h1
     subst e_
     exact XQ.joinR (!x4) (stle (tR rfl (tR rfl (tR rfl tZ))) (hR rfl hZ) kZ rfl (Nat.zero_le _) rfl rfl rfl (bB rfl rfl bZ) rfl rfl) h0
  ·
   intro v1 h0
   refine XQ.seq ?_
   refine XC.cond (b := v1) rfl (fun c5 => ?_) (fun c5 => ?_)
   ·
    replace h0 := condT c5 h0
    refine XC.seq <| XC.region <| rA rfl rfl rfl <| XL.nil <| XQ.seq <| XC.ret ?_
    have e_ := Option.some.inj h0
    subst e_
    exact XQ.retF (fun _ _ h => h) rfl (RAs.tmp rfl .nil) (.cons (.one (.d _)) .nil)
   ·
    replace h0 := condF c5 h0
    refine XC.skip <| XQ.seq <| XC.seq <| XC.seq <| XC.region <| rA rfl rfl rfl <| XL.nil <| XQ.seq <| XC.block ?_
    refine XC.joinX 0 (fun (o6 : Unit) => ⟨[], [(0, .cells 87 (cE a0))], [], 1, 47, []⟩) (fun (o6 : Unit) => (some true) = some r) ?_ ?_
    ·
     refine bindK h0 (fun o7 hl1 h0 => ?_)
     refine XC.loopM (m51_l0 a0 rc a1) (fun s1 => ⟨[(1, .v (.one (dI a1))), (2, .v (.one (.ptr 0 0))), (5, .v (.one (dI s1)))], [(0, .cells 87 (cE a0))], [], 1, 47, []⟩) 0 o7 (stle (tR rfl (tR rfl (tR rfl tZ))) (hR rfl hZ) kZ rfl (Nat.zero_le _) rfl rfl rfl (bB rfl rfl bZ) rfl rfl) hl1 (fun s1 n1 oo1 h1 ho1 => ?_)
     unfold m51_l0 at h1
     refine XC.seq <| XC.seq <| XC.region <| rM rfl rfl rfl <| rR rfl rfl rfl (RO.fieldOwn fo_87_3 rfl) <| rR rfl rfl rfl (RO.loadOwn ag_85 rfl rfl rfl) <| rR rfl rfl rfl (RO.lenE (α := Br) sl_85 rfl (.d _)) <| rR rfl rfl rfl (RO.binInt rfl rfl rfl) <| XL.nil <| XQ.seq ?_
     refine XC.cond (b := (decide (s1 < (a0.branches.length : Int)))) rfl (fun c8 => ?_) (fun c8 => ?_)
     ·
      replace h1 := condT c8 h1
      refine XC.skip <| XQ.seq <| XC.seq <| XC.block <| XC.seq ?_
      refine XC.joinR (fun (v9 : Bool) => ⟨[(1, .v (.one (dI a1))), (2, .v (.one (.ptr 0 0))), (5, .v (.one (dI s1))), (46, .v (.one (dB v9)))], [(0, .cells 87 (cE a0))], [], 1, 47, []⟩) (fun (v9 : Bool) => (cond v9
          (some (.done (.inr false)))
          (some (.next (w64 (s1 + 1))))) = some oo1) ?_ ?_
      ·
       refine bindK h1 (fun w2_ h2 h1 => ?_)
       refine XC.region <| rR rfl rfl rfl (RO.fieldOwn fo_87_3 rfl) <| rR rfl rfl rfl (RO.loadOwn ag_85 rfl rfl rfl) <| rM rfl rfl rfl ?_
       refine bindK h2 (fun x10 hx10 h2 => ?_)
       refine rR rfl rfl rfl (RO.indexE (α := Br) sl_85 rfl (.d _) rfl hx10) <| rR rfl rfl rfl (RO.fieldPel fo_115_2 rfl) <| rR rfl rfl rfl (RO.loadPelAgg ag_87 rfl rfl rfl) <| rM rfl rfl rfl <| rR rfl rfl rfl (RO.binInt rfl rfl rfl) ?_
       refine bindK h2 (fun x11 hx11 h2 => ?_)
       refine XL.put rfl rfl (lb rfl) (OpOK.callFun (H x10.tree (w64 (a1 + 1)) x11 hx11) rfl (.cons (.agg (.cons (.d _) (.cons (.d _) (.cons (.d _) (.cons (.d _) (.cons (.d _) (.cons (.d _) (.cons (.d _) (.cons (.d _) .nil))))))))) (.cons (.one (.d _)) .nil))) <| rR rfl rfl rfl (RO.not rfl) <| rM rfl rfl rfl ?_
       refine XL.case (d := 37) (c := (!x11)) rfl (fun c12 => ?_) (fun c12 => ?_)
       ·
        replace h2 := condT c12 h2
        refine XL.no rfl rfl <| XL.no rfl rfl <| XL.no rfl rfl <| XL.no rfl rfl <| XL.no rfl rfl <| XL.no rfl rfl <| XL.no rfl rfl <| XL.no rfl rfl <| rR rfl rfl rfl (RO.pickT rfl rfl) <| XL.nil ?_
        have e_ := Option.some.inj h2
        subst e_
        exact XQ.joinR true (stle (tR rfl (tR rfl (tR rfl (tR rfl tZ)))) (hR rfl hZ) kZ rfl (Nat.zero_le _) rfl rfl rfl (bB rfl rfl bZ) rfl rfl) h1
       ·
        replace h2 := condF c12 h2
        refine rR rfl rfl rfl (RO.fieldOwn fo_87_3 rfl) <| rR rfl rfl rfl (RO.loadOwn ag_85 rfl rfl rfl) <| rM rfl rfl rfl ?_
        refine bindK h2 (fun x13 hx13 h2 => ?_)
        refine rR rfl rfl rfl (RO.indexE (α := Br) sl_85 rfl (.d _) rfl hx13) <| rR rfl rfl rfl (RO.fieldPel fo_115_0 rfl) <| rR rfl rfl rfl (RO.loadPel ag_9 rfl rfl) <| rR rfl rfl rfl (RO.lenS st_9 rfl) <| rR rfl rfl rfl (RO.binInt rfl rfl rfl) <| rR rfl rfl rfl (RO.pickF rfl rfl) <| XL.nil ?_
        have e_ := Option.some.inj h2
        subst e_
        exact XQ.joinR (decide (200 < (x13.ctor.length : Int))) (stle (tR rfl (tR rfl (tR rfl (tR rfl tZ)))) (hR rfl hZ) kZ rfl (Nat.zero_le _) rfl rfl rfl (bB rfl rfl bZ) rfl rfl) h1
      ·
       intro v9 h1
       refine XQ.seq ?_
       refine XC.cond (b := v9) rfl (fun c14 => ?_) (fun c14 => ?_)
       ·
        replace h1 := condT c14 h1
        refine XC.seq <| XC.region <| rA rfl rfl rfl <| XL.nil <| XQ.seq <| XC.ret ?_
        have e_ := Option.some.inj h1
        subst e_
        have e_ : _ = _ := ho1
        subst e_
        try dsimp only [Sum.elim_inl, Sum.elim_inr] at h0
        have e_ := Option.some.inj h0
        subst e_
        exact XQ.retF (fun _ _ h => h) rfl (RAs.tmp rfl .nil) (.cons (.one (.d _)) .nil)
       ·
        replace h1 := condF c14 h1
        refine XC.skip <| XQ.inBlock <| XQ.seq <| XC.region <| rM rfl rfl rfl <| rR rfl rfl rfl (RO.binInt rfl rfl rfl) <| rA rfl rfl rfl <| XL.nil ?_
        have e_ := Option.some.inj h1
        subst e_
        refine XQ.nextM (w64 (s1 + 1)) (stle (tR rfl (tR rfl (tR rfl tZ))) (hR rfl hZ) kZ rfl (Nat.zero_le _) rfl rfl rfl (bB rfl rfl bZ) rfl rfl) ho1
     ·
      replace h1 := condF c8 h1
      refine XC.exit <| XQ.thenE <| XQ.thenE ?_
      have e_ := Option.some.inj h1
      subst e_
      have e_ : _ = _ := ho1
      subst e_
      exact XQ.joinX () (stle tZ (hR rfl hZ) kZ rfl (Nat.zero_le _) rfl rfl rfl (bB rfl rfl bZ) rfl rfl) h0
    ·
     intro o6 h0
     refine XQ.blockX <| XQ.seq <| XC.seq <| XC.region <| rA rfl rfl rfl <| XL.nil <| XQ.seq <| XC.ret ?_
     have e_ := Option.some.inj h0
     subst e_
     exact XQ.retF (fun _ _ h => h) rfl (RAs.tmp rfl .nil) (.cons (.one (.d _)) .nil)
theorem m51_all (n : Nat) (u : Tr × Int) (r : Bool) (h0 : recO m51F n u = some r) : Fun Try.prog 51 [.agg (cE u.1), .one (dI u.2)] (resOf [.one (dB r)]) :=
  recO_ind (C := fun u r => Fun Try.prog 51 [.agg (cE u.1), .one (dI u.2)] (resOf [.one (dB r)])) (fun rc H u r h => m51s_ok rc (fun a0 a1 r h => H (a0, a1) r h) u.1 u.2 r h) n u r h0
theorem m51_ok (a0 : Tr) (a1 : Int) (r : Bool) (h0 : m51 a0 a1 = some r) : Fun Try.prog 51 [.agg (cE a0), .one (dI a1)] (resOf [.one (dB r)]) := m51_all FUEL (a0, a1) r h0
def m30_l0 (a0 : Dcl) (s1 : Int) : Option (LO Int (Unit ⊕ Bool)) :=
  cond (decide (s1 < (a0.ctors.length : Int)))
    (Option.bind (Option.bind (idx a0.ctors s1) fun (x6 : Ctr) =>
  cond (decide (200 < (x6.name.length : Int)))
    (some true)
    (Option.bind (idx a0.ctors s1) fun (x8 : Ctr) =>
  Option.bind (m50 x8.ty) fun (x9 : Bool) =>
  some (!x9))) (fun (v5 : Bool) => cond v5
    (some (.done (.inr false)))
    (some (.next (w64 (s1 + 1))))))
    (some (.done (.inl ())))
def m30_l1 (a0 : Dcl) (s1 : Int) : Option (LO Int (Unit ⊕ Bool)) :=
  cond (decide (s1 < (a0.rcr.rules.length : Int)))
    (Option.bind (idx a0.rcr.rules s1) fun (x6 : Tm) =>
  Option.bind (m50 x6) fun (x7 : Bool) =>
  cond (!x7)
    (some (.done (.inr false)))
    (some (.next (w64 (s1 + 1)))))
    (some (.done (.inl ())))
def m30_l2 (a0 : Dcl) (s1 : Int) : Option (LO Int (Unit ⊕ Bool)) :=
  cond (decide (s1 < (a0.funs.length : Int)))
    (Option.bind (Option.bind (idx a0.funs s1) fun (x8 : Fn) =>
  cond (decide (200 < (x8.name.length : Int)))
    (some true)
    (Option.bind (idx a0.funs s1) fun (x10 : Fn) =>
  Option.bind (m50 x10.ty) fun (x11 : Bool) =>
  cond (!x11)
    (some true)
    (Option.bind (idx a0.funs s1) fun (x13 : Fn) =>
  Option.bind (m51 x13.tree 0) fun (x14 : Bool) =>
  some (!x14)))) (fun (v7 : Bool) => cond v7
    (some (.done (.inr false)))
    (some (.next (w64 (s1 + 1))))))
    (some (.done (.inl ())))
def m30 (a0 : Dcl) : Option Bool :=
  Option.bind (cond (decide (200 < (a0.name.length : Int)))
    (some true)
    (Option.bind (m50 a0.ty) fun (x3 : Bool) =>
  cond (!x3)
    (some true)
    (Option.bind (m50 a0.value) fun (x5 : Bool) =>
  cond (!x5)
    (some true)
    (cond (decide (40 < (a0.ctors.length : Int)))
    (some true)
    (cond (decide (12 < (a0.funs.length : Int)))
    (some true)
    (Option.bind (m50 a0.rcr.ty) fun (x9 : Bool) =>
  cond (!x9)
    (some true)
    (some (decide (40 < (a0.rcr.rules.length : Int)))))))))) (fun (v1 : Bool) => cond v1
    (some false)
    (Option.bind (loopN (m30_l0 a0) FUEL 0) (Sum.elim (fun (o3 : Unit) => Option.bind (loopN (m30_l1 a0) FUEL 0) (Sum.elim (fun (o4 : Unit) => Option.bind (loopN (m30_l2 a0) FUEL 0) (Sum.elim (fun (o5 : Unit) => some true) (fun o => some o))) (fun o => some o))) (fun o => some o))))
set_option maxRecDepth 100000 in
set_option maxHeartbeats 2000000 in
theorem m30_ok (a0 : Dcl) (r : Bool) (h0 : m30 a0 = some r) : Fun Try.prog 30 [.agg (cE a0)] (resOf [.one (dB r)]) := by
  unfold m30 at h0
  refine Fun.of_bodyM 9 124 Try.func30 rfl en_30 rfl (lb rfl) (fun S w => ?_)
  simp only [entry]
  refine XC.seq <| XC.region <| XL.put rfl rfl (lb rfl) (OpOK.box rfl) <| rA rfl rfl rfl <| XL.nil <| XQ.seq <| XC.seq <| XC.seq ?_
  refine XC.joinR (fun (v1 : Bool) => ⟨[(1, .v (.one (.ptr 0 0))), (47, .v (.one (dB v1)))], [(0, .cells 48 (cE a0))], [], 1, 124, []⟩) (fun (v1 : Bool) => (cond v1
      (some false)
      (Option.bind (loopN (m30_l0 a0) FUEL 0) (Sum.elim (fun (o3 : Unit) => Option.bind (loopN (m30_l1 a0) FUEL 0) (Sum.elim (fun (o4 : Unit) => Option.bind (loopN (m30_l2 a0) FUEL 0) (Sum.elim (fun (o5 : Unit) => some true) (fun o => some o))) (fun o => some o))) (fun o => some o)))) = some r) ?_ ?_
  ·
   refine bindK h0 (fun w1_ h1 h0 => ?_)
   refine XC.region <| rR rfl rfl rfl (RO.fieldOwn fo_48_1 rfl) <| rR rfl rfl rfl (RO.loadOwn ag_9 rfl rfl rfl) <| rR rfl rfl rfl (RO.lenS st_9 rfl) <| rR rfl rfl rfl (RO.binInt rfl rfl rfl) <| rM rfl rfl rfl ?_
   refine XL.case (d := 10) (c := (decide (200 < (a0.name.length : Int)))) rfl (fun c2 => ?_) (fun c2 => ?_)
   ·
    replace h1 := condT c2 h1
    refine XL.no rfl rfl <| XL.no rfl rfl <| XL.no rfl rfl <| XL.no rfl rfl <| rR rfl rfl rfl (RO.pickT rfl rfl) <| rM rfl rfl rfl <| XL.no rfl rfl <| XL.no rfl rfl <| XL.no rfl rfl <| XL.no rfl rfl <| rR rfl rfl rfl (RO.pickT rfl rfl) <| rM rfl rfl rfl <| XL.no rfl rfl <| XL.no rfl rfl ?_
    refine XL.no rfl rfl <| XL.no rfl rfl <| rR rfl rfl rfl (RO.pickT rfl rfl) <| rM rfl rfl rfl <| XL.no rfl rfl <| XL.no rfl rfl <| XL.no rfl rfl <| XL.no rfl rfl <| rR rfl rfl rfl (RO.pickT rfl rfl) <| rM rfl rfl rfl <| XL.no rfl rfl <| XL.no rfl rfl <| XL.no rfl rfl <| XL.no rfl rfl ?_
    refine XL.no rfl rfl <| rR rfl rfl rfl (RO.pickT rfl rfl) <| rM rfl rfl rfl <| XL.no rfl rfl <| XL.no rfl rfl <| XL.no rfl rfl <| XL.no rfl rfl <| XL.no rfl rfl <| rR rfl rfl rfl (RO.pickT rfl rfl) <| XL.nil ?_
    have e_ := Option.some.inj h1
    subst e_
    exact XQ.joinR true (stle (tR rfl (tR rfl tZ)) (hR rfl hZ) kZ rfl (Nat.zero_le _) rfl rfl rfl (bB rfl rfl bZ) rfl rfl) h0
   ·
    replace h1 := condF c2 h1
    refine rR rfl rfl rfl (RO.fieldOwn fo_48_3 rfl) <| rR rfl rfl rfl (RO.loadOwnAgg ag_42 rfl rfl rfl rfl) ?_
    refine bindK h1 (fun x3 hx3 h1 => ?_)
    refine XL.put rfl rfl (lb rfl) (OpOK.callFun (m50_ok a0.ty x3 hx3) rfl (.cons (.agg (.cons (.d _) (.cons (.d _) (.cons (.d _) (.cons (.d _) (.cons (.d _) .nil)))))) .nil)) <| rR rfl rfl rfl (RO.not rfl) <| rR rfl rfl rfl (RO.pickF rfl rfl) <| rM rfl rfl rfl ?_
    refine XL.case (d := 16) (c := (!x3)) rfl (fun c4 => ?_) (fun c4 => ?_)
    ·
     replace h1 := condT c4 h1
     refine XL.no rfl rfl <| XL.no rfl rfl <| XL.no rfl rfl <| XL.no rfl rfl <| rR rfl rfl rfl (RO.pickT rfl rfl) <| rM rfl rfl rfl <| XL.no rfl rfl <| XL.no rfl rfl <| XL.no rfl rfl <| XL.no rfl rfl <| rR rfl rfl rfl (RO.pickT rfl rfl) <| rM rfl rfl rfl <| XL.no rfl rfl <| XL.no rfl rfl ?_
     refine XL.no rfl rfl <| XL.no rfl rfl <| rR rfl rfl rfl (RO.pickT rfl rfl) <| rM rfl rfl rfl <| XL.no rfl rfl <| XL.no rfl rfl <| XL.no rfl rfl <| XL.no rfl rfl <| XL.no rfl rfl <| rR rfl rfl rfl (RO.pickT rfl rfl) <| rM rfl rfl rfl <| XL.no rfl rfl <| XL.no rfl rfl <| XL.no rfl rfl ?_
     refine XL.no rfl rfl <| XL.no rfl rfl <| rR rfl rfl rfl (RO.pickT rfl rfl) <| XL.nil ?_
     have e_ := Option.some.inj h1
     subst e_
     exact XQ.joinR true (stle (tR rfl (tR rfl tZ)) (hR rfl hZ) kZ rfl (Nat.zero_le _) rfl rfl rfl (bB rfl rfl bZ) rfl rfl) h0
    ·
     replace h1 := condF c4 h1
     refine rR rfl rfl rfl (RO.fieldOwn fo_48_4 rfl) <| rR rfl rfl rfl (RO.loadOwnAgg ag_42 rfl rfl rfl rfl) ?_
     refine bindK h1 (fun x5 hx5 h1 => ?_)
     refine XL.put rfl rfl (lb rfl) (OpOK.callFun (m50_ok a0.value x5 hx5) rfl (.cons (.agg (.cons (.d _) (.cons (.d _) (.cons (.d _) (.cons (.d _) (.cons (.d _) .nil)))))) .nil)) <| rR rfl rfl rfl (RO.not rfl) <| rR rfl rfl rfl (RO.pickF rfl rfl) <| rM rfl rfl rfl ?_
     refine XL.case (d := 22) (c := (!x5)) rfl (fun c6 => ?_) (fun c6 => ?_)
     ·
      replace h1 := condT c6 h1
      refine XL.no rfl rfl <| XL.no rfl rfl <| XL.no rfl rfl <| XL.no rfl rfl <| rR rfl rfl rfl (RO.pickT rfl rfl) <| rM rfl rfl rfl <| XL.no rfl rfl <| XL.no rfl rfl <| XL.no rfl rfl <| XL.no rfl rfl <| rR rfl rfl rfl (RO.pickT rfl rfl) <| rM rfl rfl rfl <| XL.no rfl rfl <| XL.no rfl rfl ?_
      refine XL.no rfl rfl <| XL.no rfl rfl <| XL.no rfl rfl <| rR rfl rfl rfl (RO.pickT rfl rfl) <| rM rfl rfl rfl <| XL.no rfl rfl <| XL.no rfl rfl <| XL.no rfl rfl <| XL.no rfl rfl <| XL.no rfl rfl <| rR rfl rfl rfl (RO.pickT rfl rfl) <| XL.nil ?_
      have e_ := Option.some.inj h1
      subst e_
      exact XQ.joinR true (stle (tR rfl (tR rfl tZ)) (hR rfl hZ) kZ rfl (Nat.zero_le _) rfl rfl rfl (bB rfl rfl bZ) rfl rfl) h0
     ·
      replace h1 := condF c6 h1
      refine rR rfl rfl rfl (RO.fieldOwn fo_48_6 rfl) <| rR rfl rfl rfl (RO.loadOwn ag_43 rfl rfl rfl) <| rR rfl rfl rfl (RO.lenE (α := Ctr) sl_43 rfl (.d _)) <| rR rfl rfl rfl (RO.binInt rfl rfl rfl) <| rR rfl rfl rfl (RO.pickF rfl rfl) <| rM rfl rfl rfl ?_
      refine XL.case (d := 28) (c := (decide (40 < (a0.ctors.length : Int)))) rfl (fun c7 => ?_) (fun c7 => ?_)
      ·
       replace h1 := condT c7 h1
       refine XL.no rfl rfl <| XL.no rfl rfl <| XL.no rfl rfl <| XL.no rfl rfl <| rR rfl rfl rfl (RO.pickT rfl rfl) <| rM rfl rfl rfl <| XL.no rfl rfl <| XL.no rfl rfl <| XL.no rfl rfl <| XL.no rfl rfl <| XL.no rfl rfl <| rR rfl rfl rfl (RO.pickT rfl rfl) <| rM rfl rfl rfl <| XL.no rfl rfl ?_
       refine XL.no rfl rfl <| XL.no rfl rfl <| XL.no rfl rfl <| XL.no rfl rfl <| rR rfl rfl rfl (RO.pickT rfl rfl) <| XL.nil ?_
       have e_ := Option.some.inj h1
       subst e_
       exact XQ.joinR true (stle (tR rfl (tR rfl tZ)) (hR rfl hZ) kZ rfl (Nat.zero_le _) rfl rfl rfl (bB rfl rfl bZ) rfl rfl) h0
      ·
       replace h1 := condF c7 h1
       refine rR rfl rfl rfl (RO.fieldOwn fo_48_8 rfl) <| rR rfl rfl rfl (RO.loadOwn ag_46 rfl rfl rfl) <| rR rfl rfl rfl (RO.lenE (α := Fn) sl_46 rfl (.d _)) <| rR rfl rfl rfl (RO.binInt rfl rfl rfl) <| rR rfl rfl rfl (RO.pickF rfl rfl) <| rM rfl rfl rfl ?_
       refine XL.case (d := 34) (c := (decide (12 < (a0.funs.length : Int)))) rfl (fun c8 => ?_) (fun c8 => ?_)
       ·
        replace h1 := condT c8 h1
        refine XL.no rfl rfl <| XL.no rfl rfl <| XL.no rfl rfl <| XL.no rfl rfl <| XL.no rfl rfl <| rR rfl rfl rfl (RO.pickT rfl rfl) <| rM rfl rfl rfl <| XL.no rfl rfl <| XL.no rfl rfl <| XL.no rfl rfl <| XL.no rfl rfl <| XL.no rfl rfl <| rR rfl rfl rfl (RO.pickT rfl rfl) <| XL.nil ?_
        have e_ := Option.some.inj h1
        subst e_
        exact XQ.joinR true (stle (tR rfl (tR rfl tZ)) (hR rfl hZ) kZ rfl (Nat.zero_le _) rfl rfl rfl (bB rfl rfl bZ) rfl rfl) h0
       ·
        replace h1 := condF c8 h1
        refine rR rfl rfl rfl (RO.fieldOwn fo_48_7 rfl) <| rR rfl rfl rfl (RO.fieldOwn fo_45_1 rfl) <| rR rfl rfl rfl (RO.loadOwnAgg ag_42 rfl rfl rfl rfl) ?_
        refine bindK h1 (fun x9 hx9 h1 => ?_)
        refine XL.put rfl rfl (lb rfl) (OpOK.callFun (m50_ok a0.rcr.ty x9 hx9) rfl (.cons (.agg (.cons (.d _) (.cons (.d _) (.cons (.d _) (.cons (.d _) (.cons (.d _) .nil)))))) .nil)) <| rR rfl rfl rfl (RO.not rfl) <| rR rfl rfl rfl (RO.pickF rfl rfl) <| rM rfl rfl rfl ?_
        refine XL.case (d := 41) (c := (!x9)) rfl (fun c10 => ?_) (fun c10 => ?_)
        ·
         replace h1 := condT c10 h1
         refine XL.no rfl rfl <| XL.no rfl rfl <| XL.no rfl rfl <| XL.no rfl rfl <| XL.no rfl rfl <| rR rfl rfl rfl (RO.pickT rfl rfl) <| XL.nil ?_
         have e_ := Option.some.inj h1
         subst e_
         exact XQ.joinR true (stle (tR rfl (tR rfl tZ)) (hR rfl hZ) kZ rfl (Nat.zero_le _) rfl rfl rfl (bB rfl rfl bZ) rfl rfl) h0
        ·
         replace h1 := condF c10 h1
         refine rR rfl rfl rfl (RO.fieldOwn fo_48_7 rfl) <| rR rfl rfl rfl (RO.fieldOwn fo_45_2 rfl) <| rR rfl rfl rfl (RO.loadOwn ag_40 rfl rfl rfl) <| rR rfl rfl rfl (RO.lenE (α := Tm) sl_40 rfl (.d _)) <| rR rfl rfl rfl (RO.binInt rfl rfl rfl) <| rR rfl rfl rfl (RO.pickF rfl rfl) <| XL.nil ?_
         have e_ := Option.some.inj h1
         subst e_
         exact XQ.joinR (decide (40 < (a0.rcr.rules.length : Int))) (stle (tR rfl (tR rfl tZ)) (hR rfl hZ) kZ rfl (Nat.zero_le _) rfl rfl rfl (bB rfl rfl bZ) rfl rfl) h0
  ·
   intro v1 h0
   refine XQ.seq ?_
   refine XC.cond (b := v1) rfl (fun c11 => ?_) (fun c11 => ?_)
   ·
    replace h0 := condT c11 h0
    refine XC.seq <| XC.region <| rA rfl rfl rfl <| XL.nil <| XQ.seq <| XC.ret ?_
    have e_ := Option.some.inj h0
    subst e_
    exact XQ.retF (fun _ _ h => h) rfl (RAs.tmp rfl .nil) (.cons (.one (.d _)) .nil)
   ·
    replace h0 := condF c11 h0
    refine XC.skip <| XQ.seq <| XC.seq <| XC.seq <| XC.region <| rA rfl rfl rfl <| XL.nil <| XQ.seq <| XC.block ?_
    refine XC.joinX 0 (fun (o12 : Unit) => ⟨[(1, .v (.one (.ptr 0 0)))], [(0, .cells 48 (cE a0))], [], 1, 124, []⟩) (fun (o12 : Unit) => (Option.bind (loopN (m30_l1 a0) FUEL 0) (Sum.elim (fun (o13 : Unit) => Option.bind (loopN (m30_l2 a0) FUEL 0) (Sum.elim (fun (o14 : Unit) => some true) (fun o => some o))) (fun o => some o))) = some r) ?_ ?_
    ·
     refine bindK h0 (fun o13 hl1 h0 => ?_)
     refine XC.loopM (m30_l0 a0) (fun s1 => ⟨[(1, .v (.one (.ptr 0 0))), (3, .v (.one (dI s1)))], [(0, .cells 48 (cE a0))], [], 1, 124, []⟩) 0 o13 (stle (tR rfl (tR rfl tZ)) (hR rfl hZ) kZ rfl (Nat.zero_le _) rfl rfl rfl (bB rfl rfl bZ) rfl rfl) hl1 (fun s1 n1 oo1 h1 ho1 => ?_)
     unfold m30_l0 at h1
     refine XC.seq <| XC.seq <| XC.region <| rM rfl rfl rfl <| rR rfl rfl rfl (RO.fieldOwn fo_48_6 rfl) <| rR rfl rfl rfl (RO.loadOwn ag_43 rfl rfl rfl) <| rR rfl rfl rfl (RO.lenE (α := Ctr) sl_43 rfl (.d _)) <| rR rfl rfl rfl (RO.binInt rfl rfl rfl) <| XL.nil <| XQ.seq ?_
     refine XC.cond (b := (decide (s1 < (a0.ctors.length : Int)))) rfl (fun c14 => ?_) (fun c14 => ?_)
     ·
      replace h1 := condT c14 h1
      refine XC.skip <| XQ.seq <| XC.seq <| XC.block <| XC.seq ?_
      refine XC.joinR (fun (v15 : Bool) => ⟨[(1, .v (.one (.ptr 0 0))), (3, .v (.one (dI s1))), (72, .v (.one (dB v15)))], [(0, .cells 48 (cE a0))], [], 1, 124, []⟩) (fun (v15 : Bool) => (cond v15
          (some (.done (.inr false)))
          (some (.next (w64 (s1 + 1))))) = some oo1) ?_ ?_
      ·
       refine bindK h1 (fun w2_ h2 h1 => ?_)
       refine XC.region <| rR rfl rfl rfl (RO.fieldOwn fo_48_6 rfl) <| rR rfl rfl rfl (RO.loadOwn ag_43 rfl rfl rfl) <| rM rfl rfl rfl ?_
       refine bindK h2 (fun x16 hx16 h2 => ?_)
       refine rR rfl rfl rfl (RO.indexE (α := Ctr) sl_43 rfl (.d _) rfl hx16) <| rR rfl rfl rfl (RO.fieldPel fo_84_0 rfl) <| rR rfl rfl rfl (RO.loadPel ag_9 rfl rfl) <| rR rfl rfl rfl (RO.lenS st_9 rfl) <| rR rfl rfl rfl (RO.binInt rfl rfl rfl) <| rM rfl rfl rfl ?_
       refine XL.case (d := 63) (c := (decide (200 < (x16.name.length : Int)))) rfl (fun c17 => ?_) (fun c17 => ?_)
       ·
        replace h2 := condT c17 h2
        refine XL.no rfl rfl <| XL.no rfl rfl <| XL.no rfl rfl <| XL.no rfl rfl <| XL.no rfl rfl <| XL.no rfl rfl <| XL.no rfl rfl <| XL.no rfl rfl <| rR rfl rfl rfl (RO.pickT rfl rfl) <| XL.nil ?_
        have e_ := Option.some.inj h2
        subst e_
        exact XQ.joinR true (stle (tR rfl (tR rfl (tR rfl tZ))) (hR rfl hZ) kZ rfl (Nat.zero_le _) rfl rfl rfl (bB rfl rfl bZ) rfl rfl) h1
       ·
        replace h2 := condF c17 h2
        refine rR rfl rfl rfl (RO.fieldOwn fo_48_6 rfl) <| rR rfl rfl rfl (RO.loadOwn ag_43 rfl rfl rfl) <| rM rfl rfl rfl ?_
        refine bindK h2 (fun x18 hx18 h2 => ?_)
        refine rR rfl rfl rfl (RO.indexE (α := Ctr) sl_43 rfl (.d _) rfl hx18) <| rR rfl rfl rfl (RO.fieldPel fo_84_1 rfl) <| rR rfl rfl rfl (RO.loadPelAgg ag_42 rfl rfl rfl) ?_
        refine bindK h2 (fun x19 hx19 h2 => ?_)
        refine XL.put rfl rfl (lb rfl) (OpOK.callFun (m50_ok x18.ty x19 hx19) rfl (.cons (.agg (.cons (.d _) (.cons (.d _) (.cons (.d _) (.cons (.d _) (.cons (.d _) .nil)))))) .nil)) <| rR rfl rfl rfl (RO.not rfl) <| rR rfl rfl rfl (RO.pickF rfl rfl) <| XL.nil ?_
        have e_ := Option.some.inj h2
        subst e_
        exact XQ.joinR (!x19) (stle (tR rfl (tR rfl (tR rfl tZ))) (hR rfl hZ) kZ rfl (Nat.zero_le _) rfl rfl rfl (bB rfl rfl bZ) rfl rfl) h1
      ·
       intro v15 h1
       refine XQ.seq ?_
       refine XC.cond (b := v15) rfl (fun c20 => ?_) (fun c20 => ?_)
       ·
        replace h1 := condT c20 h1
        refine XC.seq <| XC.region <| rA rfl rfl rfl <| XL.nil <| XQ.seq <| XC.ret ?_
        have e_ := Option.some.inj h1
        subst e_
        have e_ : _ = _ := ho1
        subst e_
        try dsimp only [Sum.elim_inl, Sum.elim_inr] at h0
        have e_ := Option.some.inj h0
        subst e_
        exact XQ.retF (fun _ _ h => h) rfl (RAs.tmp rfl .nil) (.cons (.one (.d _)) .nil)
       ·
        replace h1 := condF c20 h1
        refine XC.skip <| XQ.inBlock <| XQ.seq <| XC.region <| rM rfl rfl rfl <| rR rfl rfl rfl (RO.binInt rfl rfl rfl) <| rA rfl rfl rfl <| XL.nil ?_
        have e_ := Option.some.inj h1
        subst e_
        refine XQ.nextM (w64 (s1 + 1)) (stle (tR rfl (tR rfl tZ)) (hR rfl hZ) kZ rfl (Nat.zero_le _) rfl rfl rfl (bB rfl rfl bZ) rfl rfl) ho1
     ·
      replace h1 := condF c14 h1
      refine XC.exit <| XQ.thenE <| XQ.thenE ?_
      have e_ := Option.some.inj h1
      subst e_
      have e_ : _ = _ := ho1
      subst e_
      exact XQ.joinX () (stle (tR rfl tZ) (hR rfl hZ) kZ rfl (Nat.zero_le _) rfl rfl rfl (bB rfl rfl bZ) rfl rfl) h0
    ·
     intro o12 h0
     refine XQ.blockX <| XQ.seq <| XC.seq <| XC.seq <| XC.region <| rA rfl rfl rfl <| XL.nil <| XQ.seq <| XC.block ?_
     refine XC.joinX 2 (fun (o21 : Unit) => ⟨[(1, .v (.one (.ptr 0 0)))], [(0, .cells 48 (cE a0))], [], 1, 124, []⟩) (fun (o21 : Unit) => (Option.bind (loopN (m30_l2 a0) FUEL 0) (Sum.elim (fun (o22 : Unit) => some true) (fun o => some o))) = some r) ?_ ?_
     ·
      refine bindK h0 (fun o22 hl1 h0 => ?_)
      refine XC.loopM (m30_l1 a0) (fun s1 => ⟨[(1, .v (.one (.ptr 0 0))), (4, .v (.one (dI s1)))], [(0, .cells 48 (cE a0))], [], 1, 124, []⟩) 0 o22 (stle (tR rfl (tR rfl tZ)) (hR rfl hZ) kZ rfl (Nat.zero_le _) rfl rfl rfl (bB rfl rfl bZ) rfl rfl) hl1 (fun s1 n1 oo1 h1 ho1 => ?_)
      unfold m30_l1 at h1
      refine XC.seq <| XC.seq <| XC.region <| rM rfl rfl rfl <| rR rfl rfl rfl (RO.fieldOwn fo_48_7 rfl) <| rR rfl rfl rfl (RO.fieldOwn fo_45_2 rfl) <| rR rfl rfl rfl (RO.loadOwn ag_40 rfl rfl rfl) <| rR rfl rfl rfl (RO.lenE (α := Tm) sl_40 rfl (.d _)) <| rR rfl rfl rfl (RO.binInt rfl rfl rfl) <| XL.nil <| XQ.seq ?_
      refine XC.cond (b := (decide (s1 < (a0.rcr.rules.length : Int)))) rfl (fun c23 => ?_) (fun c23 => ?_)
      ·
       replace h1 := condT c23 h1
       refine XC.skip <| XQ.seq <| XC.seq <| XC.block <| XC.seq <| XC.region <| rR rfl rfl rfl (RO.fieldOwn fo_48_7 rfl) <| rR rfl rfl rfl (RO.fieldOwn fo_45_2 rfl) <| rR rfl rfl rfl (RO.loadOwn ag_40 rfl rfl rfl) <| rM rfl rfl rfl ?_
       refine bindK h1 (fun x24 hx24 h1 => ?_)
       refine rR rfl rfl rfl (RO.indexE (α := Tm) sl_40 rfl (.d _) rfl hx24) <| rR rfl rfl rfl (RO.loadPelCE (x24 : Tm) ag_42 rfl) ?_
       refine bindK h1 (fun x25 hx25 h1 => ?_)
       refine XL.put rfl rfl (lb rfl) (OpOK.callFun (m50_ok x24 x25 hx25) rfl (.cons (.agg (.cons (.d _) (.cons (.d _) (.cons (.d _) (.cons (.d _) (.cons (.d _) .nil)))))) .nil)) <| rR rfl rfl rfl (RO.not rfl) <| XL.nil <| XQ.seq ?_
       refine XC.cond (b := (!x25)) rfl (fun c26 => ?_) (fun c26 => ?_)
       ·
        replace h1 := condT c26 h1
        refine XC.seq <| XC.region <| rA rfl rfl rfl <| XL.nil <| XQ.seq <| XC.ret ?_
        have e_ := Option.some.inj h1
        subst e_
        have e_ : _ = _ := ho1
        subst e_
        try dsimp only [Sum.elim_inl, Sum.elim_inr] at h0
        have e_ := Option.some.inj h0
        subst e_
        exact XQ.retF (fun _ _ h => h) rfl (RAs.tmp rfl .nil) (.cons (.one (.d _)) .nil)
       ·
        replace h1 := condF c26 h1
        refine XC.skip <| XQ.inBlock <| XQ.seq <| XC.region <| rM rfl rfl rfl <| rR rfl rfl rfl (RO.binInt rfl rfl rfl) <| rA rfl rfl rfl <| XL.nil ?_
        have e_ := Option.some.inj h1
        subst e_
        refine XQ.nextM (w64 (s1 + 1)) (stle (tR rfl (tR rfl tZ)) (hR rfl hZ) kZ rfl (Nat.zero_le _) rfl rfl rfl (bB rfl rfl bZ) rfl rfl) ho1
      ·
       replace h1 := condF c23 h1
       refine XC.exit <| XQ.thenE <| XQ.thenE ?_
       have e_ := Option.some.inj h1
       subst e_
       have e_ : _ = _ := ho1
       subst e_
       exact XQ.joinX () (stle (tR rfl tZ) (hR rfl hZ) kZ rfl (Nat.zero_le _) rfl rfl rfl (bB rfl rfl bZ) rfl rfl) h0
     ·
      intro o21 h0
      refine XQ.blockX <| XQ.seq <| XC.seq <| XC.seq <| XC.region <| rA rfl rfl rfl <| XL.nil <| XQ.seq <| XC.block ?_
      refine XC.joinX 4 (fun (o27 : Unit) => ⟨[], [(0, .cells 48 (cE a0))], [], 1, 124, []⟩) (fun (o27 : Unit) => (some true) = some r) ?_ ?_
      ·
       refine bindK h0 (fun o28 hl1 h0 => ?_)
       refine XC.loopM (m30_l2 a0) (fun s1 => ⟨[(1, .v (.one (.ptr 0 0))), (5, .v (.one (dI s1)))], [(0, .cells 48 (cE a0))], [], 1, 124, []⟩) 0 o28 (stle (tR rfl (tR rfl tZ)) (hR rfl hZ) kZ rfl (Nat.zero_le _) rfl rfl rfl (bB rfl rfl bZ) rfl rfl) hl1 (fun s1 n1 oo1 h1 ho1 => ?_)
       unfold m30_l2 at h1
       refine XC.seq <| XC.seq <| XC.region <| rM rfl rfl rfl <| rR rfl rfl rfl (RO.fieldOwn fo_48_8 rfl) <| rR rfl rfl rfl (RO.loadOwn ag_46 rfl rfl rfl) <| rR rfl rfl rfl (RO.lenE (α := Fn) sl_46 rfl (.d _)) <| rR rfl rfl rfl (RO.binInt rfl rfl rfl) <| XL.nil <| XQ.seq ?_
       refine XC.cond (b := (decide (s1 < (a0.funs.length : Int)))) rfl (fun c29 => ?_) (fun c29 => ?_)
       ·
        replace h1 := condT c29 h1
        refine XC.skip <| XQ.seq <| XC.seq <| XC.block <| XC.seq ?_
        refine XC.joinR (fun (v30 : Bool) => ⟨[(1, .v (.one (.ptr 0 0))), (5, .v (.one (dI s1))), (123, .v (.one (dB v30)))], [(0, .cells 48 (cE a0))], [], 1, 124, []⟩) (fun (v30 : Bool) => (cond v30
            (some (.done (.inr false)))
            (some (.next (w64 (s1 + 1))))) = some oo1) ?_ ?_
        ·
         refine bindK h1 (fun w2_ h2 h1 => ?_)
         refine XC.region <| rR rfl rfl rfl (RO.fieldOwn fo_48_8 rfl) <| rR rfl rfl rfl (RO.loadOwn ag_46 rfl rfl rfl) <| rM rfl rfl rfl ?_
         refine bindK h2 (fun x31 hx31 h2 => ?_)
         refine rR rfl rfl rfl (RO.indexE (α := Fn) sl_46 rfl (.d _) rfl hx31) <| rR rfl rfl rfl (RO.fieldPel fo_89_0 rfl) <| rR rfl rfl rfl (RO.loadPel ag_9 rfl rfl) <| rR rfl rfl rfl (RO.lenS st_9 rfl) <| rR rfl rfl rfl (RO.binInt rfl rfl rfl) <| rM rfl rfl rfl ?_
         refine XL.case (d := 104) (c := (decide (200 < (x31.name.length : Int)))) rfl (fun c32 => ?_) (fun c32 => ?_)
         ·
          replace h2 := condT c32 h2
          refine XL.no rfl rfl <| XL.no rfl rfl <| XL.no rfl rfl <| XL.no rfl rfl <| XL.no rfl rfl <| XL.no rfl rfl <| XL.no rfl rfl <| XL.no rfl rfl <| rR rfl rfl rfl (RO.pickT rfl rfl) <| rM rfl rfl rfl <| XL.no rfl rfl <| XL.no rfl rfl <| XL.no rfl rfl <| XL.no rfl rfl ?_
          refine XL.no rfl rfl <| XL.no rfl rfl <| XL.no rfl rfl <| XL.no rfl rfl <| rR rfl rfl rfl (RO.pickT rfl rfl) <| XL.nil ?_
          have e_ := Option.some.inj h2
          subst e_
          exact XQ.joinR true (stle (tR rfl (tR rfl (tR rfl tZ))) (hR rfl hZ) kZ rfl (Nat.zero_le _) rfl rfl rfl (bB rfl rfl bZ) rfl rfl) h1
         ·
          replace h2 := condF c32 h2
          refine rR rfl rfl rfl (RO.fieldOwn fo_48_8 rfl) <| rR rfl rfl rfl (RO.loadOwn ag_46 rfl rfl rfl) <| rM rfl rfl rfl ?_
          refine bindK h2 (fun x33 hx33 h2 => ?_)
          refine rR rfl rfl rfl (RO.indexE (α := Fn) sl_46 rfl (.d _) rfl hx33) <| rR rfl rfl rfl (RO.fieldPel fo_89_1 rfl) <| rR rfl rfl rfl (RO.loadPelAgg ag_42 rfl rfl rfl) ?_
          refine bindK h2 (fun x34 hx34 h2 => ?_)
          refine XL.put rfl rfl (lb rfl) (OpOK.callFun (m50_ok x33.ty x34 hx34) rfl (.cons (.agg (.cons (.d _) (.cons (.d _) (.cons (.d _) (.cons (.d _) (.cons (.d _) .nil)))))) .nil)) <| rR rfl rfl rfl (RO.not rfl) <| rR rfl rfl rfl (RO.pickF rfl rfl) <| rM rfl rfl rfl ?_
          refine XL.case (d := 114) (c := (!x34)) rfl (fun c35 => ?_) (fun c35 => ?_)
          ·
           replace h2 := condT c35 h2
           refine XL.no rfl rfl <| XL.no rfl rfl <| XL.no rfl rfl <| XL.no rfl rfl <| XL.no rfl rfl <| XL.no rfl rfl <| XL.no rfl rfl <| XL.no rfl rfl <| rR rfl rfl rfl (RO.pickT rfl rfl) <| XL.nil ?_
           have e_ := Option.some.inj h2
           subst e_
           exact XQ.joinR true (stle (tR rfl (tR rfl (tR rfl tZ))) (hR rfl hZ) kZ rfl (Nat.zero_le _) rfl rfl rfl (bB rfl rfl bZ) rfl rfl) h1
          ·
           replace h2 := condF c35 h2
           refine rR rfl rfl rfl (RO.fieldOwn fo_48_8 rfl) <| rR rfl rfl rfl (RO.loadOwn ag_46 rfl rfl rfl) <| rM rfl rfl rfl ?_
           refine bindK h2 (fun x36 hx36 h2 => ?_)
           refine rR rfl rfl rfl (RO.indexE (α := Fn) sl_46 rfl (.d _) rfl hx36) <| rR rfl rfl rfl (RO.fieldPel fo_89_3 rfl) <| rR rfl rfl rfl (RO.loadPelAgg ag_87 rfl rfl rfl) ?_
           refine bindK h2 (fun x37 hx37 h2 => ?_)
           refine XL.put rfl rfl (lb rfl) (OpOK.callFun (m51_ok x36.tree 0 x37 hx37) rfl (.cons (.agg (.cons (.d _) (.cons (.d _) (.cons (.d _) (.cons (.d _) (.cons (.d _) (.cons (.d _) (.cons (.d _) (.cons (.d _) .nil))))))))) (.cons (.one (.d _)) .nil))) <| rR rfl rfl rfl (RO.not rfl) <| rR rfl rfl rfl (RO.pickF rfl rfl) <| XL.nil ?_
           have e_ := Option.some.inj h2
           subst e_
           exact XQ.joinR (!x37) (stle (tR rfl (tR rfl (tR rfl tZ))) (hR rfl hZ) kZ rfl (Nat.zero_le _) rfl rfl rfl (bB rfl rfl bZ) rfl rfl) h1
        ·
         intro v30 h1
         refine XQ.seq ?_
         refine XC.cond (b := v30) rfl (fun c38 => ?_) (fun c38 => ?_)
         ·
          replace h1 := condT c38 h1
          refine XC.seq <| XC.region <| rA rfl rfl rfl <| XL.nil <| XQ.seq <| XC.ret ?_
          have e_ := Option.some.inj h1
          subst e_
          have e_ : _ = _ := ho1
          subst e_
          try dsimp only [Sum.elim_inl, Sum.elim_inr] at h0
          have e_ := Option.some.inj h0
          subst e_
          exact XQ.retF (fun _ _ h => h) rfl (RAs.tmp rfl .nil) (.cons (.one (.d _)) .nil)
         ·
          replace h1 := condF c38 h1
          refine XC.skip <| XQ.inBlock <| XQ.seq <| XC.region <| rM rfl rfl rfl <| rR rfl rfl rfl (RO.binInt rfl rfl rfl) <| rA rfl rfl rfl <| XL.nil ?_
          have e_ := Option.some.inj h1
          subst e_
          refine XQ.nextM (w64 (s1 + 1)) (stle (tR rfl (tR rfl tZ)) (hR rfl hZ) kZ rfl (Nat.zero_le _) rfl rfl rfl (bB rfl rfl bZ) rfl rfl) ho1
       ·
        replace h1 := condF c29 h1
        refine XC.exit <| XQ.thenE <| XQ.thenE ?_
        have e_ := Option.some.inj h1
        subst e_
        have e_ : _ = _ := ho1
        subst e_
        exact XQ.joinX () (stle tZ (hR rfl hZ) kZ rfl (Nat.zero_le _) rfl rfl rfl (bB rfl rfl bZ) rfl rfl) h0
      ·
       intro o27 h0
       refine XQ.blockX <| XQ.seq <| XC.seq <| XC.region <| rA rfl rfl rfl <| XL.nil <| XQ.seq <| XC.ret ?_
       have e_ := Option.some.inj h0
       subst e_
       exact XQ.retF (fun _ _ h => h) rfl (RAs.tmp rfl .nil) (.cons (.one (.d _)) .nil)
def m9_l0 (a0 : List Dcl) (s1 : Int) : Option (LO Int (Unit ⊕ Bool)) :=
  Option.bind (cond (decide (s1 < (a0.length : Int)))
    (some (decide (s1 < 80)))
    (some false)) (fun (v2 : Bool) => cond v2
    (Option.bind (idx a0 s1) fun (x4 : Dcl) =>
  Option.bind (m30 x4) fun (x5 : Bool) =>
  cond (!x5)
    (some (.done (.inr false)))
    (some (.next (w64 (s1 + 1)))))
    (some (.done (.inl ()))))
def m9 (a0 : List Dcl) : Option Bool :=
  Option.bind (loopN (m9_l0 a0) FUEL 0) (Sum.elim (fun (o1 : Unit) => some (decide ((a0.length : Int) ≤ 70))) (fun o => some o))
set_option maxRecDepth 100000 in
set_option maxHeartbeats 2000000 in
theorem m9_ok (a0 : List Dcl) (r : Bool) (h0 : m9 a0 = some r) : Fun Try.prog 9 [.one (dS a0)] (resOf [.one (dB r)]) := by
  unfold m9 at h0
  refine Fun.of_bodyM 9 23 Try.func9 rfl en_9 rfl (lb rfl) (fun S w => ?_)
  simp only [entry]
  refine XC.seq <| XC.region <| rA rfl rfl rfl <| XL.nil <| XQ.seq <| XC.seq <| XC.seq <| XC.region <| rA rfl rfl rfl <| XL.nil <| XQ.seq <| XC.block ?_
  refine XC.joinX 0 (fun (o1 : Unit) => ⟨[(0, .v (.one (dS a0)))], [], [], 0, 23, []⟩) (fun (o1 : Unit) => (some (decide ((a0.length : Int) ≤ 70))) = some r) ?_ ?_
  ·
   refine bindK h0 (fun o2 hl1 h0 => ?_)
   refine XC.loopM (m9_l0 a0) (fun s1 => ⟨[(0, .v (.one (dS a0))), (3, .v (.one (dI s1)))], [], [], 0, 23, []⟩) 0 o2 (stle (tR rfl (tR rfl tZ)) hZ kZ rfl (Nat.zero_le _) rfl rfl rfl bZ rfl rfl) hl1 (fun s1 n1 oo1 h1 ho1 => ?_)
   unfold m9_l0 at h1
   refine XC.seq <| XC.seq ?_
   refine XC.joinR (fun (v3 : Bool) => ⟨[(0, .v (.one (dS a0))), (3, .v (.one (dI s1))), (11, .v (.one (dB v3)))], [], [], 0, 23, []⟩) (fun (v3 : Bool) => (cond v3
       (Option.bind (idx a0 s1) fun (x5 : Dcl) =>
     Option.bind (m30 x5) fun (x6 : Bool) =>
     cond (!x6)
       (some (.done (.inr false)))
       (some (.next (w64 (s1 + 1)))))
       (some (.done (.inl ())))) = some oo1) ?_ ?_
   ·
    refine bindK h1 (fun w2_ h2 h1 => ?_)
    refine XC.region <| rM rfl rfl rfl <| rM rfl rfl rfl <| rR rfl rfl rfl (RO.lenE (α := Dcl) sl_22 rfl (.d _)) <| rR rfl rfl rfl (RO.binInt rfl rfl rfl) <| rM rfl rfl rfl ?_
    refine XL.case (d := 8) (c := (decide (s1 < (a0.length : Int)))) rfl (fun c4 => ?_) (fun c4 => ?_)
    ·
     replace h2 := condT c4 h2
     refine rM rfl rfl rfl <| rR rfl rfl rfl (RO.binInt rfl rfl rfl) <| rR rfl rfl rfl (RO.pickT rfl rfl) <| XL.nil ?_
     have e_ := Option.some.inj h2
     subst e_
     exact XQ.joinR (decide (s1 < 80)) (stle (tR rfl (tR rfl (tR rfl tZ))) hZ kZ rfl (Nat.zero_le _) rfl rfl rfl bZ rfl rfl) h1
    ·
     replace h2 := condF c4 h2
     refine XL.no rfl rfl <| XL.no rfl rfl <| rR rfl rfl rfl (RO.pickF rfl rfl) <| XL.nil ?_
     have e_ := Option.some.inj h2
     subst e_
     exact XQ.joinR false (stle (tR rfl (tR rfl (tR rfl tZ))) hZ kZ rfl (Nat.zero_le _) rfl rfl rfl bZ rfl rfl) h1
   ·
    intro v3 h1
    refine XQ.seq ?_
    refine XC.cond (b := v3) rfl (fun c5 => ?_) (fun c5 => ?_)
    ·
     replace h1 := condT c5 h1
     refine XC.skip <| XQ.seq <| XC.seq <| XC.block <| XC.seq <| XC.region <| rM rfl rfl rfl <| rM rfl rfl rfl ?_
     refine bindK h1 (fun x6 hx6 h1 => ?_)
     refine rR rfl rfl rfl (RO.indexE (α := Dcl) sl_22 rfl (.d _) rfl hx6) <| rR rfl rfl rfl (RO.loadPelCE (x6 : Dcl) ag_48 rfl) ?_
     refine bindK h1 (fun x7 hx7 h1 => ?_)
     refine XL.put rfl rfl (lb rfl) (OpOK.callFun (m30_ok x6 x7 hx7) rfl (.cons (.agg (.cons (.d _) (.cons (.d _) (.cons (.d _) (.cons (.d _) (.cons (.d _) (.cons (.d _) (.cons (.d _) (.cons (.d _) (.cons (.d _) (.cons (.d _) (.cons (.d _) (.cons (.d _) (.cons (.d _) (.cons (.d _) (.cons (.d _) (.cons (.d _) (.cons (.d _) (.cons (.d _) (.cons (.d _) (.cons (.d _) (.cons (.d _) (.cons (.d _) (.cons (.d _) .nil)))))))))))))))))))))))) .nil)) <| rR rfl rfl rfl (RO.not rfl) <| XL.nil <| XQ.seq ?_
     refine XC.cond (b := (!x7)) rfl (fun c8 => ?_) (fun c8 => ?_)
     ·
      replace h1 := condT c8 h1
      refine XC.seq <| XC.region <| rA rfl rfl rfl <| XL.nil <| XQ.seq <| XC.ret ?_
      have e_ := Option.some.inj h1
      subst e_
      have e_ : _ = _ := ho1
      subst e_
      try dsimp only [Sum.elim_inl, Sum.elim_inr] at h0
      have e_ := Option.some.inj h0
      subst e_
      exact XQ.retF (fun _ _ h => h) rfl (RAs.tmp rfl .nil) (.cons (.one (.d _)) .nil)
     ·
      replace h1 := condF c8 h1
      refine XC.skip <| XQ.inBlock <| XQ.seq <| XC.region <| rM rfl rfl rfl <| rR rfl rfl rfl (RO.binInt rfl rfl rfl) <| rA rfl rfl rfl <| XL.nil ?_
      have e_ := Option.some.inj h1
      subst e_
      refine XQ.nextM (w64 (s1 + 1)) (stle (tR rfl (tR rfl tZ)) hZ kZ rfl (Nat.zero_le _) rfl rfl rfl bZ rfl rfl) ho1
    ·
     replace h1 := condF c5 h1
     refine XC.exit <| XQ.thenE <| XQ.thenE ?_
     have e_ := Option.some.inj h1
     subst e_
     have e_ : _ = _ := ho1
     subst e_
     exact XQ.joinX () (stle (tR rfl tZ) hZ kZ rfl (Nat.zero_le _) rfl rfl rfl bZ rfl rfl) h0
  ·
   intro o1 h0
   refine XQ.blockX <| XQ.seq <| XC.seq <| XC.region <| rM rfl rfl rfl <| rR rfl rfl rfl (RO.lenE (α := Dcl) sl_22 rfl (.d _)) <| rR rfl rfl rfl (RO.binInt rfl rfl rfl) <| rA rfl rfl rfl <| XL.nil <| XQ.seq <| XC.ret ?_
   have e_ := Option.some.inj h0
   subst e_
   exact XQ.retF (fun _ _ h => h) rfl (RAs.tmp rfl .nil) (.cons (.one (.d _)) .nil)
end Go.Proofs.Ytijcchddnnnmdaa
namespace Go.Proofs.Ytijcchddnnnmdaa
open Go.RowKit Go.Shelf
set_option linter.unusedSimpArgs false
set_option linter.unusedVariables false
theorem en_29 : Enters Try.prog 29 := enters_of Try.func29 (by kernel_rfl) rfl
def m29_l0 (a0 : List Int) (a1 : List Int) (s1 : Int) : Option (LO Int (Unit ⊕ Bool)) :=
  cond (decide (s1 < (a0.length : Int)))
    (Option.bind (idx a0 s1) fun (x4 : Int) =>
  Option.bind (idx a1 s1) fun (x5 : Int) =>
  cond (x4 != x5)
    (some (.done (.inr false)))
    (some (.next (w64 (s1 + 1)))))
    (some (.done (.inl ())))
def m29 (a0 : List Int) (a1 : List Int) : Option Bool :=
  cond ((a0.length : Int) != (a1.length : Int))
    (some false)
    (Option.bind (loopN (m29_l0 a0 a1) FUEL 0) (Sum.elim (fun (o2 : Unit) => some true) (fun o => some o)))
set_option maxRecDepth 100000 in
set_option maxHeartbeats 2000000 in
theorem m29_ok (a0 : List Int) (a1 : List Int) (r : Bool) (h0 : m29 a0 a1 = some r) : Fun Try.prog 29 [.one (dS a0), .one (dS a1)] (resOf [.one (dB r)]) := by
  unfold m29 at h0
  refine Fun.of_bodyM 9 26 Try.func29 rfl en_29 rfl (lb rfl) (fun S w => ?_)
  simp only [entry]
  refine XC.seq <| XC.region <| rA rfl rfl rfl <| XL.nil <| XQ.seq <| XC.seq <| XC.seq <| XC.region <| rM rfl rfl rfl <| rR rfl rfl rfl (RO.lenE (α := Int) sl_54 rfl (.d _)) <| rM rfl rfl rfl <| rR rfl rfl rfl (RO.lenE (α := Int) sl_54 rfl (.d _)) <| rR rfl rfl rfl (RO.binInt rfl rfl rfl) <| XL.nil ?_
  refine XQ.seq ?_
  refine XC.cond (b := ((a0.length : Int) != (a1.length : Int))) rfl (fun c1 => ?_) (fun c1 => ?_)
  ·
   replace h0 := condT c1 h0
   refine XC.seq <| XC.region <| rA rfl rfl rfl <| XL.nil <| XQ.seq <| XC.ret ?_
   have e_ := Option.some.inj h0
   subst e_
   exact XQ.retF (fun _ _ h => h) rfl (RAs.tmp rfl .nil) (.cons (.one (.d _)) .nil)
  ·
   replace h0 := condF c1 h0
   refine XC.skip <| XQ.seq <| XC.seq <| XC.seq <| XC.region <| rM rfl rfl rfl <| rR rfl rfl rfl (RO.lenE (α := Int) sl_54 rfl (.d _)) <| rM rfl rfl rfl <| XL.nil <| XQ.seq <| XC.block ?_
   refine XC.joinX 0 (fun (o2 : Unit) => ⟨[], [], [], 0, 26, []⟩) (fun (o2 : Unit) => (some true) = some r) ?_ ?_
   ·
    refine bindK h0 (fun o3 hl1 h0 => ?_)
    refine XC.loopM (m29_l0 a0 a1) (fun s1 => ⟨[(0, .v (.one (dS a0))), (1, .v (.one (dS a1))), (12, .v (.one (dI (a0.length : Int)))), (13, .v (.one (dI s1)))], [], [], 0, 26, []⟩) 0 o3 (stle (tR rfl (tR rfl (tR rfl (tR rfl tZ)))) hZ kZ rfl (Nat.zero_le _) rfl rfl rfl bZ rfl rfl) hl1 (fun s1 n1 oo1 h1 ho1 => ?_)
    unfold m29_l0 at h1
    refine XC.seq <| XC.region <| rR rfl rfl rfl (RO.binInt rfl rfl rfl) <| XL.nil <| XQ.seq <| XC.seq ?_
    refine XC.cond (b := (decide (s1 < (a0.length : Int)))) rfl (fun c4 => ?_) (fun c4 => ?_)
    ·
     replace h1 := condT c4 h1
     refine XC.skip <| XQ.seq <| XC.seq <| XC.block <| XC.seq <| XC.region <| rM rfl rfl rfl <| rA rfl rfl rfl <| XL.nil <| XQ.seq <| XC.seq ?_
     refine XC.anyRun [] [] mixed (by kernel_rfl) (by kernel_rfl) (by kernel_rfl) ?_
     refine RunA.rd rfl rfl rfl (OpOK.of_ro (RO.move rfl)) rfl <| RunA.rd rfl rfl rfl (OpOK.of_ro (RO.move rfl)) rfl ?_
     refine bindK h1 (fun x5 hx5 h1 => ?_)
     refine RunA.rd rfl rfl rfl (OpOK.of_ro (RO.indexE (α := Int) sl_54 rfl (.d _) rfl hx5)) rfl <| RunA.rd rfl rfl rfl (OpOK.of_ro (RO.loadPel ag_3 rfl rfl)) rfl <| RunA.rd rfl rfl rfl (OpOK.of_ro (RO.move rfl)) rfl <| RunA.rd rfl rfl rfl (OpOK.of_ro (RO.move rfl)) rfl ?_
     refine bindK h1 (fun x6 hx6 h1 => ?_)
     refine RunA.rd rfl rfl rfl (OpOK.of_ro (RO.indexE (α := Int) sl_54 rfl (.d _) rfl hx6)) rfl <| RunA.rd rfl rfl rfl (OpOK.of_ro (RO.loadPel ag_3 rfl rfl)) rfl <| RunA.rd rfl rfl rfl (OpOK.of_ro (RO.binInt rfl rfl rfl)) rfl ?_
     refine RunA.nil ⟨?ex, _, _, rfl, ?_⟩
     case ex => exact trivial
     refine XQ.less (st' := ⟨[(0, .v (.one (dS a0))), (1, .v (.one (dS a1))), (12, .v (.one (dI (a0.length : Int)))), (13, .v (.one (dI s1))), (24, .v (.one (dB (x5 != x6))))], [], [], 0, 26, []⟩) (stle (tR rfl (tR rfl (tR rfl (tR rfl (tR rfl tZ))))) hZ kZ rfl (Nat.zero_le _) rfl rfl rfl bZ rfl rfl) <| XQ.seq ?_
     refine XC.cond (b := (x5 != x6)) rfl (fun c7 => ?_) (fun c7 => ?_)
     ·
      replace h1 := condT c7 h1
      refine XC.seq <| XC.region <| rA rfl rfl rfl <| XL.nil <| XQ.seq <| XC.ret ?_
      have e_ := Option.some.inj h1
      subst e_
      have e_ : _ = _ := ho1
      subst e_
      try dsimp only [Sum.elim_inl, Sum.elim_inr] at h0
      have e_ := Option.some.inj h0
      subst e_
      exact XQ.retF (fun _ _ h => h) rfl (RAs.tmp rfl .nil) (.cons (.one (.d _)) .nil)
     ·
      replace h1 := condF c7 h1
      refine XC.skip <| XQ.inBlock <| XQ.seq <| XC.region <| rR rfl rfl rfl (RO.binInt rfl rfl rfl) <| rM rfl rfl rfl <| XL.nil ?_
      have e_ := Option.some.inj h1
      subst e_
      refine XQ.nextM (w64 (s1 + 1)) (stle (tR rfl (tR rfl (tR rfl (tR rfl tZ)))) hZ kZ rfl (Nat.zero_le _) rfl rfl rfl bZ rfl rfl) ho1
    ·
     replace h1 := condF c4 h1
     refine XC.exit <| XQ.thenE <| XQ.thenE ?_
     have e_ := Option.some.inj h1
     subst e_
     have e_ : _ = _ := ho1
     subst e_
     exact XQ.joinX () (stle tZ hZ kZ rfl (Nat.zero_le _) rfl rfl rfl bZ rfl rfl) h0
   ·
    intro o2 h0
    refine XQ.blockX <| XQ.seq <| XC.seq <| XC.region <| rA rfl rfl rfl <| XL.nil <| XQ.seq <| XC.ret ?_
    have e_ := Option.some.inj h0
    subst e_
    exact XQ.retF (fun _ _ h => h) rfl (RAs.tmp rfl .nil) (.cons (.one (.d _)) .nil)
end Go.Proofs.Ytijcchddnnnmdaa
namespace Go.Proofs.Ytijcchddnnnmdaa
open Go.RowKit Go.Lib
set_option linter.unusedSimpArgs false
set_option linter.unusedVariables false
set_option linter.unusedSectionVars false
theorem loop_any {α σ τ β : Type} {step : τ → Option (LO τ β)} (l : List α) (mk : Int → σ → τ) (hlen : l.length ≤ 900000000)
    (hin : ∀ (a : List α) (x : α) (b : List α) (s : σ), l = a ++ x :: b → (∃ r, step (mk (a.length : Int) s) = some (.done r)) ∨ ∃ s', step (mk (a.length : Int) s) = some (.next (mk (w64 ((a.length : Int) + 1)) s')))
    (hout : ∀ s, ∃ r, step (mk (l.length : Int) s) = some (.done r)) (s0 : σ) : ∃ r, loopN step FUEL (mk 0 s0) = some r := by
  obtain ⟨r, h, -⟩ := loop_all l mk (fun _ _ => True) (fun _ => True) hlen (fun a x b s e _ => (hin a x b s e).elim (fun ⟨r, h⟩ => .inl ⟨r, h, trivial⟩) (fun ⟨s', h⟩ => .inr ⟨s', h, trivial⟩)) (fun s _ => let ⟨r, h⟩ := hout s; ⟨r, h, trivial⟩) s0 trivial
  exact ⟨r, h⟩
theorem size_some : ∀ (n : Nat) (t : Tm), t.size ≤ n → t.size ≤ 900000000 → ∃ r, recO m65F n t = some r
  | 0, t, h, _ => by rw [t.size_eq] at h; omega
  | n + 1, t, h, h2 => by
    show ∃ r, m65s (recO m65F n) t = some r
    unfold m65s
    have hl := kids_len t
    obtain ⟨r, e⟩ := loop_any (step := m65_l0 t (recO m65F n)) t.kids (fun i (s : Int) => (s, i)) (by omega)
      (fun a x b s e => by
        have hx := Tm.kid_size (t := t) (k := x) (by rw [e]; simp)
        obtain ⟨r, hr⟩ := size_some n x (by omega) (by omega)
        refine .inr ⟨w64 (s + r), ?_⟩
        unfold m65_l0
        dsimp only
        rw [e, lt_mid, idx_mid]
        simp only [cond_true, Option.bind_some]
        rw [hr]; rfl) (fun s => ⟨s, by unfold m65_l0; dsimp only; rw [lt_end]; rfl⟩) 1
    rw [e]; exact ⟨r, rfl⟩
theorem depth_some : ∀ (n : Nat) (t : Tm), t.size ≤ n → t.size ≤ 900000000 → ∃ r, recO m66F n t = some r
  | 0, t, h, _ => by rw [t.size_eq] at h; omega
  | n + 1, t, h, h2 => by
    show ∃ r, m66s (recO m66F n) t = some r
    unfold m66s
    have hl := kids_len t
    obtain ⟨r, e⟩ := loop_any (step := m66_l0 t (recO m66F n)) t.kids (fun i (s : Int) => (s, i)) (by omega)
      (fun a x b s e => by
        have hx := Tm.kid_size (t := t) (k := x) (by rw [e]; simp)
        obtain ⟨r, hr⟩ := depth_some n x (by omega) (by omega)
        refine .inr ⟨max s r, ?_⟩
        unfold m66_l0
        dsimp only
        rw [e, lt_mid, idx_mid]
        simp only [cond_true, Option.bind_some]
        rw [hr]; rfl) (fun s => ⟨s, by unfold m66_l0; dsimp only; rw [lt_end]; rfl⟩) 0
    rw [e]; exact ⟨_, rfl⟩
theorem m50_some (t : Tm) (h : t.size ≤ 900000000) : ∃ b, m50 t = some b := by
  unfold m50
  obtain ⟨r, e⟩ := size_some FUEL t (by unfold FUEL; omega) h
  obtain ⟨r2, e2⟩ := depth_some FUEL t (by unfold FUEL; omega) h
  unfold m65 m66
  rw [e, e2]
  simp only [Option.bind_some]
  cases decide (r ≤ 400) <;> exact ⟨_, rfl⟩
theorem tree_some : ∀ (n : Nat) (t : Tr) (d : Int), t.size ≤ n → t.size ≤ 900000000 → ∃ r, recO m51F n (t, d) = some r
  | 0, t, d, h, _ => by rw [t.size_eq] at h; omega
  | n + 1, t, d, h, h2 => by
    show ∃ r, m51s (recO m51F n) t d = some r
    unfold m51s
    have hl := branches_len t
    have hsz := t.size_eq
    obtain ⟨b, hb⟩ := m50_some t.body (by omega)
    obtain ⟨r, e⟩ := loop_any (step := m51_l0 t (recO m51F n) d) t.branches (fun i (s : Unit) => i) (by omega)
      (fun a x c s e => by
        have hx := Tr.kid_size (t := t) (b := x) (by rw [e]; simp)
        obtain ⟨r, hr⟩ := tree_some n x.tree (w64 (d + 1)) (by omega) (by omega)
        unfold m51_l0
        rw [e, lt_mid, idx_mid]
        simp only [cond_true, Option.bind_some]
        rw [hr]
        cases r with
        | false => exact .inl ⟨_, rfl⟩
        | true =>
          simp only [Option.bind_some, Bool.not_true, cond_false]
          cases decide (200 < (x.ctor.length : Int)) with
          | true => exact .inl ⟨_, rfl⟩
          | false => exact .inr ⟨(), rfl⟩) (fun s => ⟨_, by unfold m51_l0; rw [lt_end]; rfl⟩) ()
    rw [e, hb]
    cases decide (40 < d) with
    | true => exact ⟨_, rfl⟩
    | false =>
      cases decide (40 < (t.branches.length : Int)) with
      | true => exact ⟨_, rfl⟩
      | false =>
        cases b with
        | false => exact ⟨_, rfl⟩
        | true =>
          cases r with
          | inl u => exact ⟨_, rfl⟩
          | inr u => exact ⟨_, rfl⟩
theorem m30_some (d : Dcl) (h : d.size ≤ 900000000) : ∃ b, m30 d = some b := by
  have h1 := ctors_len d
  have h2 := funs_len d
  have h3 := rules_len d
  have hty := term_mem (d := d) (t := d.ty) (by unfold termsOf; simp)
  have hval := term_mem (d := d) (t := d.value) (by unfold termsOf; simp)
  have hrt := term_mem (d := d) (t := d.rcr.ty) (by unfold termsOf; simp)
  obtain ⟨b1, e1⟩ := m50_some d.ty (by omega)
  obtain ⟨b2, e2⟩ := m50_some d.value (by omega)
  obtain ⟨b3, e3⟩ := m50_some d.rcr.ty (by omega)
  obtain ⟨r1, l1⟩ := loop_any (step := m30_l0 d) d.ctors (fun i (s : Unit) => i) (by omega)
    (fun a x c s e => by
      have hx := term_mem (d := d) (t := x.ty) (by unfold termsOf; rw [e]; simp)
      obtain ⟨r, hr⟩ := m50_some x.ty (by omega)
      unfold m30_l0
      rw [e, lt_mid, idx_mid]
      simp only [cond_true, Option.bind_some]
      cases decide (200 < (x.name.length : Int)) with
      | true => exact .inl ⟨_, rfl⟩
      | false =>
        simp only [cond_false]
        rw [hr]
        cases r with
        | false => exact .inl ⟨_, rfl⟩
        | true => exact .inr ⟨(), rfl⟩) (fun s => ⟨_, by unfold m30_l0; rw [lt_end]; rfl⟩) ()
  obtain ⟨r2, l2⟩ := loop_any (step := m30_l1 d) d.rcr.rules (fun i (s : Unit) => i) (by omega)
    (fun a x c s e => by
      have hx := term_mem (d := d) (t := x) (by unfold termsOf; rw [e]; simp)
      obtain ⟨r, hr⟩ := m50_some x (by omega)
      unfold m30_l1
      rw [e, lt_mid, idx_mid]
      simp only [cond_true, Option.bind_some]
      rw [hr]
      cases r with
      | false => exact .inl ⟨_, rfl⟩
      | true => exact .inr ⟨(), rfl⟩) (fun s => ⟨_, by unfold m30_l1; rw [lt_end]; rfl⟩) ()
  obtain ⟨r3, l3⟩ := loop_any (step := m30_l2 d) d.funs (fun i (s : Unit) => i) (by omega)
    (fun a x c s e => by
      have hx := term_mem (d := d) (t := x.ty) (by unfold termsOf; rw [e]; simp)
      have hf := fun_mem (d := d) (f := x) (by rw [e]; simp)
      obtain ⟨r, hr⟩ := m50_some x.ty (by omega)
      obtain ⟨q, hq⟩ := tree_some FUEL x.tree 0 (by unfold FUEL; omega) (by omega)
      unfold m30_l2
      rw [e, lt_mid, idx_mid]
      simp only [cond_true, Option.bind_some]
      cases decide (200 < (x.name.length : Int)) with
      | true => exact .inl ⟨_, rfl⟩
      | false =>
        simp only [cond_false]
        rw [hr]
        cases r with
        | false => exact .inl ⟨_, rfl⟩
        | true =>
          simp only [Option.bind_some, Bool.not_true, cond_false]
          unfold m51
          rw [hq]
          cases q with
          | false => exact .inl ⟨_, rfl⟩
          | true => exact .inr ⟨(), rfl⟩) (fun s => ⟨_, by unfold m30_l2; rw [lt_end]; rfl⟩) ()
  have tail : ∃ b, Option.bind (loopN (m30_l0 d) FUEL 0) (Sum.elim (fun (o3 : Unit) => Option.bind (loopN (m30_l1 d) FUEL 0) (Sum.elim (fun (o4 : Unit) => Option.bind (loopN (m30_l2 d) FUEL 0) (Sum.elim (fun (o5 : Unit) => some true) (fun o => some o))) (fun o => some o))) (fun o => some o)) = some b := by
    rw [l1, l2, l3]
    cases r1 with
    | inr u => exact ⟨_, rfl⟩
    | inl u =>
      cases r2 with
      | inr u => exact ⟨_, rfl⟩
      | inl u =>
        cases r3 with
        | inr u => exact ⟨_, rfl⟩
        | inl u => exact ⟨_, rfl⟩
  obtain ⟨bt, ht⟩ := tail
  unfold m30
  rw [e1, e2, e3, ht]
  cases decide (200 < (d.name.length : Int)) with
  | true => exact ⟨_, rfl⟩
  | false =>
    cases b1 with
    | false => exact ⟨_, rfl⟩
    | true =>
      cases b2 with
      | false => exact ⟨_, rfl⟩
      | true =>
        cases decide (40 < (d.ctors.length : Int)) with
        | true => exact ⟨_, rfl⟩
        | false =>
          cases decide (12 < (d.funs.length : Int)) with
          | true => exact ⟨_, rfl⟩
          | false =>
            cases b3 with
            | false => exact ⟨_, rfl⟩
            | true =>
              cases h7 : decide (40 < (d.rcr.rules.length : Int)) with
              | true => exact ⟨false, by simp [h7]⟩
              | false => exact ⟨bt, by simp [h7]⟩
theorem m9_some (env : List Dcl) (h : envSz env ≤ 900000000) : ∃ b, m9 env = some b ∧ (b = true → env.length ≤ 70) := by
  have hel := env_len env
  obtain ⟨r, e, hr⟩ := loop_all (step := m9_l0 env) env (fun i (s : Unit) => i) (fun _ _ => True) (fun r => r = .inl () ∨ r = .inr false) (by omega)
    (fun a x c s e _ => by
      have hx := size_le (env := env) (d := x) (by rw [e]; simp)
      obtain ⟨r, hr⟩ := m30_some x (by omega)
      unfold m9_l0
      rw [e, lt_mid, idx_mid]
      simp only [cond_true, Option.bind_some]
      cases decide ((a.length : Int) < 80) with
      | false => exact .inl ⟨_, rfl, .inl rfl⟩
      | true =>
        simp only [cond_true]
        rw [hr]
        cases r with
        | false => exact .inl ⟨_, rfl, .inr rfl⟩
        | true => exact .inr ⟨(), rfl, trivial⟩) (fun s _ => ⟨_, by unfold m9_l0; rw [lt_end]; rfl, .inl rfl⟩) () trivial
  unfold m9
  rw [e]
  rcases hr with rfl | rfl
  · exact ⟨_, rfl, fun hb => by have := of_decide_eq_true hb; omega⟩
  · exact ⟨false, rfl, fun hb => by cases hb⟩
end Go.Proofs.Ytijcchddnnnmdaa
namespace Go.Proofs.Ytijcchddnnnmdaa
open Go.RowKit Go.Shelf
set_option linter.unusedSimpArgs false
set_option linter.unusedVariables false
def m23o_l0 (x10 : (List Bs)) (s2 : Int × (GMap Bs Int)) (s3 : Int × (GMap Bs Int)) : Option (LO (Int × (GMap Bs Int)) (((GMap Bs Int)) ⊕ (((List (List Int)) × (GMap Bs Int)) ⊕ Unit ⊕ Unit))) :=
  cond (decide (s3.1 < (x10.length : Int)))
    (Option.bind (idx x10 s3.1) fun (x13 : Bs) =>
  cond (gmHas s3.2 x13)
    (some (.done (.inr (.inr (.inl ())))))
    (some (.next ((w64 (s3.1 + 1)), (gmSet s3.2 x13 s2.1)))))
    (some (.done (.inl s3.2)))
def m23o_l1 (nn : Nat) (a0 : List Dcl) (s2 : Int × (GMap Bs Int)) : Option (LO (Int × (GMap Bs Int)) (((GMap Bs Int)) ⊕ (((List (List Int)) × (GMap Bs Int)) ⊕ Unit ⊕ Unit))) :=
  cond (decide (s2.1 < ((nn : Nat) : Int)))
    (Option.bind (idx a0 s2.1) fun (x8 : Dcl) =>
  guardO (Nat.beq a0.length nn)
  (Option.bind (m37 x8) fun (x10 : (List Bs)) =>
  Option.bind (loopN (m23o_l0 x10 s2) FUEL (0, s2.2)) (Sum.elim (fun (o11 : (GMap Bs Int)) => some (.next ((w64 (s2.1 + 1)), o11))) (fun o => some (.done (.inr o))))))
    (some (.done (.inl s2.2)))
def m23o_l2 (x11 : (List Bs)) (o6 : (GMap Bs Int)) (s3 : (List Int) × Int) : Option (LO ((List Int) × Int) (((List Int)) ⊕ (((List (List Int)) × (GMap Bs Int)) ⊕ Unit ⊕ Unit))) :=
  cond (decide (s3.2 < (x11.length : Int)))
    (Option.bind (idx x11 s3.2) fun (x14 : Bs) =>
  cond (!(gmHas o6 x14))
    (some (.done (.inr (.inr (.inr ())))))
    (guardO (Nat.ble (s3.1.length + ([(gmVal o6 x14)]).length) 1000000000)
  (some (.next ((s3.1 ++ ([(gmVal o6 x14)])), (w64 (s3.2 + 1)))))))
    (some (.done (.inl s3.1)))
def m23o_l3 (nn : Nat) (a0 : List Dcl) (o6 : (GMap Bs Int)) (s2 : Int × (List (List Int))) : Option (LO (Int × (List (List Int))) (((List (List Int))) ⊕ (((List (List Int)) × (GMap Bs Int)) ⊕ Unit ⊕ Unit))) :=
  cond (decide (s2.1 < ((nn : Nat) : Int)))
    (Option.bind (idx a0 s2.1) fun (x9 : Dcl) =>
  guardO (Nat.beq a0.length nn)
  (Option.bind (m53 x9) fun (x11 : (List Bs)) =>
  Option.bind (loopN (m23o_l2 x11 o6) FUEL (([] : List Int), 0)) (Sum.elim (fun (o12 : (List Int)) => Option.bind (sortF o12) fun (x13 : List Int) =>
  Option.bind (compactF x13 ((Enc.encL o12).length)) fun (x14 : List Int) =>
  guardO (Nat.ble (s2.2.length + ([x14]).length) 1000000000)
  (some (.next ((w64 (s2.1 + 1)), (s2.2 ++ ([x14])))))) (fun o => some (.done (.inr o))))))
    (some (.done (.inl s2.2)))
def m23o (a0 : List Dcl) (nn : Nat) : Option ((List (List Int)) × Int) :=
  Option.bind (Option.bind (loopN (m23o_l1 nn a0) FUEL (0, gmNil)) (Sum.elim (fun (o6 : (GMap Bs Int)) => Option.bind (loopN (m23o_l3 nn a0 o6) FUEL (0, ([] : List (List Int)))) (Sum.elim (fun (o7 : (List (List Int))) => some (.inl (o7, o6))) (fun o => some o))) (fun o => some o))) (Sum.elim (fun (y1 : (List (List Int)) × (GMap Bs Int)) => some (y1.1, 0)) (Sum.elim (fun (y2 : Unit) => some (([] : List (List Int)), 8)) (fun (y3 : Unit) => some (([] : List (List Int)), 9))))
set_option maxRecDepth 100000 in
set_option maxHeartbeats 2000000 in
theorem m23o_ok (a0 : List Dcl) (nn : Nat) (r : (List (List Int)) × Int) (h0 : m23o a0 nn = some r) : CallM Try.prog 23 [.one (.osl 0 0 nn nn)] ⟨[(0, .cells 48 (flatE a0))], [], 1⟩ (resOf [.one (dS r.1), .one (dI r.2)]) ⟨[(0, .cells 48 (flatE a0))], [], 6⟩ := by
  unfold m23o at h0
  refine CallM.of_bodyD ⟨[(2, .v (.one (dS r.1))), (3, .v (.one (dI r.2)))], [(0, .cells 48 (flatE a0))], [], 6, 14, []⟩ rfl rfl en_23 (lb rfl) rfl (RAs.tmp rfl (RAs.tmp rfl .nil)) (fun w0 M V0 Q hv0 hQ0 => ?_)
  simp only [entry]
  refine XC.seq <| XC.region <| rA rfl rfl rfl <| rA rfl rfl rfl <| XL.nil <| XQ.seq <| XC.seq <| XC.region <| rM rfl rfl rfl ?_
  refine bindK h0 (fun y5 h1 h0 => ?_)
  have hc4 : CallM Try.prog 34 [.one (.osl 0 0 nn nn)] ⟨[(0, .cells 48 (flatE a0))], [], 1⟩ (resOf (((Sum.elim (fun (y1 : (List (List Int)) × (GMap Bs Int)) => ([.agg [dA 4 y1.1, .mp 2], .one (dI 0)] : List AV)) (Sum.elim (fun (y2 : Unit) => ([.agg [dN, .d (.v (.map none))], .one (dI 8)] : List AV)) (fun (y3 : Unit) => ([.agg [dN, .d (.v (.map none))], .one (dI 9)] : List AV))))) y5)) ⟨(((Sum.elim (fun (y1 : (List (List Int)) × (GMap Bs Int)) => (⟨[(2, .v (.one (.ptr 1 0))), (3, .v (.one (dI 0)))], [(0, .cells 48 (flatE a0)), (1, .cells 72 [dA 4 y1.1, .mp 2]), (2, .mp (gmE y1.2.1) y1.2.2)], [(4, some ⟨54, 1, (Enc.encL y1.1).length, []⟩)], 5, 88, []⟩ : St)) (Sum.elim (fun (y2 : Unit) => (⟨[(2, .v (.one (.ptr 1 0))), (3, .v (.one (dI 8)))], [(0, .cells 48 (flatE a0)), (1, .cells 72 [dN, .d (.v (.map none))])], [], 5, 88, []⟩ : St)) (fun (y3 : Unit) => (⟨[(2, .v (.one (.ptr 1 0))), (3, .v (.one (dI 9)))], [(0, .cells 48 (flatE a0)), (1, .cells 72 [dN, .d (.v (.map none))])], [], 7, 88, []⟩ : St))))) y5).hp, (((Sum.elim (fun (y1 : (List (List Int)) × (GMap Bs Int)) => (⟨[(2, .v (.one (.ptr 1 0))), (3, .v (.one (dI 0)))], [(0, .cells 48 (flatE a0)), (1, .cells 72 [dA 4 y1.1, .mp 2]), (2, .mp (gmE y1.2.1) y1.2.2)], [(4, some ⟨54, 1, (Enc.encL y1.1).length, []⟩)], 5, 88, []⟩ : St)) (Sum.elim (fun (y2 : Unit) => (⟨[(2, .v (.one (.ptr 1 0))), (3, .v (.one (dI 8)))], [(0, .cells 48 (flatE a0)), (1, .cells 72 [dN, .d (.v (.map none))])], [], 5, 88, []⟩ : St)) (fun (y3 : Unit) => (⟨[(2, .v (.one (.ptr 1 0))), (3, .v (.one (dI 9)))], [(0, .cells 48 (flatE a0)), (1, .cells 72 [dN, .d (.v (.map none))])], [], 7, 88, []⟩ : St))))) y5).tk, (((Sum.elim (fun (y1 : (List (List Int)) × (GMap Bs Int)) => (⟨[(2, .v (.one (.ptr 1 0))), (3, .v (.one (dI 0)))], [(0, .cells 48 (flatE a0)), (1, .cells 72 [dA 4 y1.1, .mp 2]), (2, .mp (gmE y1.2.1) y1.2.2)], [(4, some ⟨54, 1, (Enc.encL y1.1).length, []⟩)], 5, 88, []⟩ : St)) (Sum.elim (fun (y2 : Unit) => (⟨[(2, .v (.one (.ptr 1 0))), (3, .v (.one (dI 8)))], [(0, .cells 48 (flatE a0)), (1, .cells 72 [dN, .d (.v (.map none))])], [], 5, 88, []⟩ : St)) (fun (y3 : Unit) => (⟨[(2, .v (.one (.ptr 1 0))), (3, .v (.one (dI 9)))], [(0, .cells 48 (flatE a0)), (1, .cells 72 [dN, .d (.v (.map none))])], [], 7, 88, []⟩ : St))))) y5).nx⟩ := by
   refine CallM.of_bodyT y5 ((Sum.elim (fun (y1 : (List (List Int)) × (GMap Bs Int)) => (⟨[(2, .v (.one (.ptr 1 0))), (3, .v (.one (dI 0)))], [(0, .cells 48 (flatE a0)), (1, .cells 72 [dA 4 y1.1, .mp 2]), (2, .mp (gmE y1.2.1) y1.2.2)], [(4, some ⟨54, 1, (Enc.encL y1.1).length, []⟩)], 5, 88, []⟩ : St)) (Sum.elim (fun (y2 : Unit) => (⟨[(2, .v (.one (.ptr 1 0))), (3, .v (.one (dI 8)))], [(0, .cells 48 (flatE a0)), (1, .cells 72 [dN, .d (.v (.map none))])], [], 5, 88, []⟩ : St)) (fun (y3 : Unit) => (⟨[(2, .v (.one (.ptr 1 0))), (3, .v (.one (dI 9)))], [(0, .cells 48 (flatE a0)), (1, .cells 72 [dN, .d (.v (.map none))])], [], 7, 88, []⟩ : St))))) ((Sum.elim (fun (y1 : (List (List Int)) × (GMap Bs Int)) => ([.agg [dA 4 y1.1, .mp 2], .one (dI 0)] : List AV)) (Sum.elim (fun (y2 : Unit) => ([.agg [dN, .d (.v (.map none))], .one (dI 8)] : List AV)) (fun (y3 : Unit) => ([.agg [dN, .d (.v (.map none))], .one (dI 9)] : List AV))))) rfl rfl en_34 (lb rfl) (fun z_ => by cases z_ with
     | inl _ => rfl
     | inr z_ => exact (by cases z_ <;> rfl)) (fun z_ => by cases z_ with
     | inl _ => exact (RAs.agg ag_72 rfl rfl rfl rfl (RAs.tmp rfl .nil))
     | inr z_ => exact (by cases z_ with
     | inl _ => exact (RAs.agg ag_72 rfl rfl rfl rfl (RAs.tmp rfl .nil))
     | inr _ => exact (RAs.agg ag_72 rfl rfl rfl rfl (RAs.tmp rfl .nil)))) (fun w0 M V0 Q hv1 hQ1 => ?_)
   simp only [entry]
   refine XC.seq <| XC.region <| XL.put rfl rfl (lb rfl) (OpOK.alloc z_72 rfl) <| rA rfl rfl rfl <| XL.nil <| XQ.seq <| XC.seq <| XC.region <| XL.put rfl rfl (lb rfl) (OpOK.makeMapG Bs Int) <| rR rfl rfl rfl (RO.build1 bd_72 rfl rfl rfl) <| XL.put rfl rfl (lb rfl) (OpOK.alloc z_72 rfl) <| XL.eff rfl rfl (OpOK.store ag_72 rfl rfl rfl rfl (lb rfl) rfl) <| XL.nil <| XQ.seq ?_
   refine XC.seq <| XC.seq <| XC.region <| rM rfl rfl rfl <| rR rfl rfl rfl (RO.lenOsl sl_22 rfl) <| rM rfl rfl rfl <| XL.nil <| XQ.seq <| XC.block ?_
   refine XC.joinX 0 (fun (o6 : (GMap Bs Int)) => ⟨[(0, .v (.one (.osl 0 0 nn nn))), (2, .v (.one (.ptr 1 0))), (4, .v (.one (.ptr 3 0)))], [(0, .cells 48 (flatE a0)), (1, .cells 72 [dN, .d (.v (.map none))]), (2, .mp (gmE o6.1) o6.2), (3, .cells 72 [dN, .mp 2])], [], 4, 88, []⟩) (fun (o6 : (GMap Bs Int)) => (Option.bind (loopN (m23o_l3 nn a0 o6) FUEL (0, ([] : List (List Int)))) (Sum.elim (fun (o7 : (List (List Int))) => some (.inl (o7, o6))) (fun o => some o))) = some y5) ?_ ?_
   ·
    refine bindK h1 (fun o7 hl2 h1 => ?_)
    refine XC.loopM (m23o_l1 nn a0) (fun s2 => ⟨[(0, .v (.one (.osl 0 0 nn nn))), (2, .v (.one (.ptr 1 0))), (4, .v (.one (.ptr 3 0))), (20, .v (.one (.osl 0 0 nn nn))), (21, .v (.one (dI ((nn : Nat) : Int)))), (22, .v (.one (dI s2.1)))], [(0, .cells 48 (flatE a0)), (1, .cells 72 [dN, .d (.v (.map none))]), (2, .mp (gmE s2.2.1) s2.2.2), (3, .cells 72 [dN, .mp 2])], [], 4, 88, []⟩) (0, gmNil) o7 (stle (tR rfl (tR rfl (tR rfl (tR rfl (tR rfl (tR rfl tZ)))))) (hR rfl (hR rfl (hR rfl (hR rfl hZ)))) kZ rfl (Nat.le_trans hv1 (lb rfl)) rfl rfl rfl (bF rfl (bB rfl rfl (bG rfl (bB rfl rfl bZ)))) rfl rfl) hl2 (fun s2 n2 oo2 h2 ho2 => ?_)
    unfold m23o_l1 at h2
    refine XC.seq <| XC.region <| rR rfl rfl rfl (RO.binInt rfl rfl rfl) <| XL.nil <| XQ.seq <| XC.seq ?_
    refine XC.cond (b := (decide (s2.1 < ((nn : Nat) : Int)))) rfl (fun c8 => ?_) (fun c8 => ?_)
    ·
     replace h2 := condT c8 h2
     refine XC.skip <| XQ.seq <| XC.seq <| XC.block <| XC.seq <| XC.region <| rM rfl rfl rfl ?_
     refine bindK h2 (fun x9 hx9 h2 => ?_)
     refine guardK h2 (fun g10 h2 => ?_)
     refine rR rfl rfl rfl (RO.indexO (α := Dcl) sl_22 rfl rfl hx9 g10) <| rR rfl rfl rfl (RO.loadOE (α := Dcl) (ys := [dI x9.kind, dS8 x9.name, dI x9.params, dI x9.ty.kind, dI x9.ty.index, dS8 x9.ty.name, dS x9.ty.levels, dS x9.ty.kids, dI x9.value.kind, dI x9.value.index, dS8 x9.value.name, dS x9.value.levels, dS x9.value.kids, dI x9.fixed, dS x9.ctors, dI x9.rcr.params, dI x9.rcr.ty.kind, dI x9.rcr.ty.index, dS8 x9.rcr.ty.name, dS x9.rcr.ty.levels, dS x9.rcr.ty.kids, dS x9.rcr.rules, dS x9.funs]) ag_48 rfl rfl hx9 rfl) <| XL.put rfl rfl (lb rfl) (OpOK.alloc z_48 rfl) <| rA rfl rfl rfl <| XL.eff rfl rfl (OpOK.storeCE (x9 : Dcl) ag_48 rfl rfl rfl rfl rfl) <| XL.nil <| XQ.seq <| XC.seq <| XC.region <| rR rfl rfl rfl (RO.loadCE (x9 : Dcl) ag_48 rfl rfl) ?_
     refine bindK h2 (fun x11 hx11 h2 => ?_)
     refine XL.put rfl rfl (lb rfl) (OpOK.callFun (m37_ok x9 x11 hx11) rfl (.cons (.agg (.cons (.d _) (.cons (.d _) (.cons (.d _) (.cons (.d _) (.cons (.d _) (.cons (.d _) (.cons (.d _) (.cons (.d _) (.cons (.d _) (.cons (.d _) (.cons (.d _) (.cons (.d _) (.cons (.d _) (.cons (.d _) (.cons (.d _) (.cons (.d _) (.cons (.d _) (.cons (.d _) (.cons (.d _) (.cons (.d _) (.cons (.d _) (.cons (.d _) (.cons (.d _) .nil)))))))))))))))))))))))) .nil)) <| rR rfl rfl rfl (RO.lenE (α := Bs) sl_23 rfl (.d _)) <| rM rfl rfl rfl <| XL.nil <| XQ.seq <| XC.block ?_
     refine XC.joinX 2 (fun (o12 : (GMap Bs Int)) => ⟨[(0, .v (.one (.osl 0 0 nn nn))), (2, .v (.one (.ptr 1 0))), (4, .v (.one (.ptr 3 0))), (20, .v (.one (.osl 0 0 nn nn))), (21, .v (.one (dI ((nn : Nat) : Int)))), (22, .v (.one (dI s2.1)))], [(0, .cells 48 (flatE a0)), (1, .cells 72 [dN, .d (.v (.map none))]), (2, .mp (gmE o12.1) o12.2), (3, .cells 72 [dN, .mp 2]), (4, .cells 48 (cE x9))], [], 5, 88, []⟩) (fun (o12 : (GMap Bs Int)) => (some (.next ((w64 (s2.1 + 1)), o12))) = some oo2) ?_ ?_
     ·
      refine bindK h2 (fun o13 hl3 h2 => ?_)
      refine XC.loopM (m23o_l0 x11 s2) (fun s3 => ⟨[(0, .v (.one (.osl 0 0 nn nn))), (2, .v (.one (.ptr 1 0))), (4, .v (.one (.ptr 3 0))), (5, .v (.one (dI s2.1))), (20, .v (.one (.osl 0 0 nn nn))), (21, .v (.one (dI ((nn : Nat) : Int)))), (22, .v (.one (dI s2.1))), (28, .v (.one (dS x11))), (29, .v (.one (dI (x11.length : Int)))), (30, .v (.one (dI s3.1)))], [(0, .cells 48 (flatE a0)), (1, .cells 72 [dN, .d (.v (.map none))]), (2, .mp (gmE s3.2.1) s3.2.2), (3, .cells 72 [dN, .mp 2]), (4, .cells 48 (cE x9))], [], 5, 88, []⟩) (0, s2.2) o13 (stle (tR rfl (tR rfl (tR rfl (tR rfl (tR rfl (tR rfl (tR rfl (tR rfl (tR rfl (tR rfl tZ)))))))))) (hR rfl (hR rfl (hR rfl (hR rfl (hR rfl hZ))))) kZ rfl (Nat.le_trans hv1 (lb rfl)) rfl rfl rfl (bF rfl (bB rfl rfl (bG rfl (bB rfl rfl (bB rfl rfl bZ))))) rfl rfl) hl3 (fun s3 n3 oo3 h3 ho3 => ?_)
      unfold m23o_l0 at h3
      refine XC.seq <| XC.region <| rR rfl rfl rfl (RO.binInt rfl rfl rfl) <| XL.nil <| XQ.seq <| XC.seq ?_
      refine XC.cond (b := (decide (s3.1 < (x11.length : Int)))) rfl (fun c14 => ?_) (fun c14 => ?_)
      ·
       replace h3 := condT c14 h3
       refine XC.skip <| XQ.seq <| XC.seq <| XC.block <| XC.seq <| XC.region ?_
       refine bindK h3 (fun x15 hx15 h3 => ?_)
       refine rR rfl rfl rfl (RO.indexE (α := Bs) sl_23 rfl (.d _) rfl hx15) <| rR rfl rfl rfl (RO.loadPel ag_9 rfl rfl) <| rA rfl rfl rfl <| XL.nil <| XQ.seq <| XC.seq <| XC.seq <| XC.region <| rR rfl rfl rfl (RO.fieldOwn fo_72_1 rfl) <| rR rfl rfl rfl (RO.loadOwn ag_70 rfl rfl rfl) <| rM rfl rfl rfl <| rR rfl rfl rfl (RO.lookupGT (M := s3.2) (k := x15) mp_70 zok_int rfl rfl rfl) <| rM rfl rfl rfl <| rR rfl rfl rfl (RO.extract rfl rfl) ?_
       refine rR rfl rfl rfl (RO.extract rfl rfl) <| rA rfl rfl rfl <| rA rfl rfl rfl <| XL.nil <| XQ.seq <| XC.seq <| XC.region <| rM rfl rfl rfl <| XL.nil <| XQ.seq ?_
       refine XC.cond (b := (gmHas s3.2 x15)) rfl (fun c16 => ?_) (fun c16 => ?_)
       ·
        replace h3 := condT c16 h3
        refine XC.seq <| XC.region <| rR rfl rfl rfl (RO.build0 bd_72 rfl ) <| XL.eff rfl rfl (OpOK.store ag_72 rfl rfl rfl rfl (lb rfl) rfl) <| rA rfl rfl rfl <| XL.nil <| XQ.seq <| XC.ret ?_
        have e_ := Option.some.inj h3
        subst e_
        have e_ : _ = _ := ho3
        subst e_
        try dsimp only [Sum.elim_inl, Sum.elim_inr] at h2
        have e_ := Option.some.inj h2
        subst e_
        have e_ : _ = _ := ho2
        subst e_
        try dsimp only [Sum.elim_inl, Sum.elim_inr] at h1
        have e_ := Option.some.inj h1
        subst e_
        exact hQ1 _ _ _ (.inr rfl) rfl (show StLe _ _ ⟨[(2, .v (.one (.ptr 1 0))), (3, .v (.one (dI 8)))], [(0, .cells 48 (flatE a0)), (1, .cells 72 [dN, .d (.v (.map none))])], [], 5, 88, []⟩ from (stle (tR rfl (tR rfl tZ)) (hR rfl (hR rfl hZ)) kZ rfl (Nat.le_trans hv1 (lb rfl)) rfl rfl rfl (bF rfl (bB rfl rfl bZ)) rfl rfl))
       ·
        replace h3 := condF c16 h3
        refine XC.skip <| XQ.seq <| XC.region <| rR rfl rfl rfl (RO.fieldOwn fo_72_1 rfl) <| rR rfl rfl rfl (RO.loadOwn ag_70 rfl rfl rfl) <| rM rfl rfl rfl <| rM rfl rfl rfl <| XL.eff rfl rfl (OpOK.mapSetG (M := s3.2) (k := x15) (v := s2.1) mp_70 rfl rfl rfl rfl rfl) <| XL.nil <| XQ.inBlock <| XQ.seq <| XC.region <| rR rfl rfl rfl (RO.binInt rfl rfl rfl) <| rM rfl rfl rfl ?_
        refine XL.nil ?_
        have e_ := Option.some.inj h3
        subst e_
        refine XQ.nextM ((w64 (s3.1 + 1)), (gmSet s3.2 x15 s2.1)) (stle (tR rfl (tR rfl (tR rfl (tR rfl (tR rfl (tR rfl (tR rfl (tR rfl (tR rfl (tR rfl tZ)))))))))) (hR rfl (hR rfl (hR rfl (hR rfl (hR rfl hZ))))) kZ rfl (Nat.le_trans hv1 (lb rfl)) rfl rfl rfl (bF rfl (bB rfl rfl (bG rfl (bB rfl rfl (bB rfl rfl bZ))))) rfl rfl) ho3
      ·
       replace h3 := condF c14 h3
       refine XC.exit <| XQ.thenE <| XQ.thenE ?_
       have e_ := Option.some.inj h3
       subst e_
       have e_ : _ = _ := ho3
       subst e_
       exact XQ.joinX s3.2 (stle (tR rfl (tR rfl (tR rfl (tR rfl (tR rfl (tR rfl tZ)))))) (hR rfl (hR rfl (hR rfl (hR rfl (hR rfl hZ))))) kZ rfl (Nat.le_trans hv1 (lb rfl)) rfl rfl rfl (bF rfl (bB rfl rfl (bG rfl (bB rfl rfl (bB rfl rfl bZ))))) rfl rfl) h2
     ·
      intro o12 h2
      refine XQ.blockX <| XQ.inBlock <| XQ.seq <| XC.region <| rR rfl rfl rfl (RO.binInt rfl rfl rfl) <| rM rfl rfl rfl <| XL.nil ?_
      have e_ := Option.some.inj h2
      subst e_
      refine XQ.nextM ((w64 (s2.1 + 1)), o12) (stle (tR rfl (tR rfl (tR rfl (tR rfl (tR rfl (tR rfl tZ)))))) (hR rfl (hR rfl (hR rfl (hR rfl hZ)))) kZ rfl (Nat.le_trans hv1 (lb rfl)) rfl rfl rfl (bF rfl (bB rfl rfl (bG rfl (bB rfl rfl bZ)))) rfl rfl) ho2
    ·
     replace h2 := condF c8 h2
     refine XC.exit <| XQ.thenE <| XQ.thenE ?_
     have e_ := Option.some.inj h2
     subst e_
     have e_ : _ = _ := ho2
     subst e_
     exact XQ.joinX s2.2 (stle (tR rfl (tR rfl (tR rfl tZ))) (hR rfl (hR rfl (hR rfl (hR rfl hZ)))) kZ rfl (Nat.le_trans hv1 (lb rfl)) rfl rfl rfl (bF rfl (bB rfl rfl (bG rfl (bB rfl rfl bZ)))) rfl rfl) h1
   ·
    intro o6 h1
    refine XQ.blockX <| XQ.seq <| XC.seq <| XC.seq <| XC.region <| rM rfl rfl rfl <| rR rfl rfl rfl (RO.lenOsl sl_22 rfl) <| rM rfl rfl rfl <| XL.nil <| XQ.seq <| XC.block ?_
    refine XC.joinX 4 (fun (o17 : (List (List Int))) => ⟨[(2, .v (.one (.ptr 1 0))), (4, .v (.one (.ptr 3 0)))], [(0, .cells 48 (flatE a0)), (1, .cells 72 [dN, .d (.v (.map none))]), (2, .mp (gmE o6.1) o6.2), (3, .cells 72 [dA 4 o17, .mp 2])], [(4, some ⟨54, 1, (Enc.encL o17).length, []⟩)], 5, 88, []⟩) (fun (o17 : (List (List Int))) => (some (.inl (o17, o6))) = some y5) ?_ ?_
    ·
     refine XC.adoptC (i := 3) (off := 0) 54 1 rfl rfl ?_
     refine bindK h1 (fun o18 hl2 h1 => ?_)
     refine XC.loopM (m23o_l3 nn a0 o6) (fun s2 => ⟨[(2, .v (.one (.ptr 1 0))), (4, .v (.one (.ptr 3 0))), (49, .v (.one (.osl 0 0 nn nn))), (50, .v (.one (dI ((nn : Nat) : Int)))), (51, .v (.one (dI s2.1)))], [(0, .cells 48 (flatE a0)), (1, .cells 72 [dN, .d (.v (.map none))]), (2, .mp (gmE o6.1) o6.2), (3, .cells 72 [dA 4 s2.2, .mp 2])], [(4, some ⟨54, 1, (Enc.encL s2.2).length, []⟩)], 5, 88, []⟩) (0, ([] : List (List Int))) o18 (stle (tR rfl (tR rfl (tR rfl (tR rfl (tR rfl tZ))))) (hR rfl (hR rfl (hR rfl (hR rfl hZ)))) (kR rfl kZ) rfl (Nat.le_trans hv1 (lb rfl)) rfl rfl rfl (bF rfl (bB rfl rfl (bG rfl (bB rfl rfl bZ)))) rfl rfl) hl2 (fun s2 n2 oo2 h2 ho2 => ?_)
     unfold m23o_l3 at h2
     refine XC.seq <| XC.region <| rR rfl rfl rfl (RO.binInt rfl rfl rfl) <| XL.nil <| XQ.seq <| XC.seq ?_
     refine XC.cond (b := (decide (s2.1 < ((nn : Nat) : Int)))) rfl (fun c19 => ?_) (fun c19 => ?_)
     ·
      replace h2 := condT c19 h2
      refine XC.skip <| XQ.seq <| XC.seq <| XC.block <| XC.seq <| XC.region ?_
      refine bindK h2 (fun x20 hx20 h2 => ?_)
      refine guardK h2 (fun g21 h2 => ?_)
      refine rR rfl rfl rfl (RO.indexO (α := Dcl) sl_22 rfl rfl hx20 g21) <| rR rfl rfl rfl (RO.loadOE (α := Dcl) (ys := [dI x20.kind, dS8 x20.name, dI x20.params, dI x20.ty.kind, dI x20.ty.index, dS8 x20.ty.name, dS x20.ty.levels, dS x20.ty.kids, dI x20.value.kind, dI x20.value.index, dS8 x20.value.name, dS x20.value.levels, dS x20.value.kids, dI x20.fixed, dS x20.ctors, dI x20.rcr.params, dI x20.rcr.ty.kind, dI x20.rcr.ty.index, dS8 x20.rcr.ty.name, dS x20.rcr.ty.levels, dS x20.rcr.ty.kids, dS x20.rcr.rules, dS x20.funs]) ag_48 rfl rfl hx20 rfl) <| XL.put rfl rfl (lb rfl) (OpOK.alloc z_48 rfl) <| XL.eff rfl rfl (OpOK.storeCE (x20 : Dcl) ag_48 rfl rfl rfl rfl rfl) <| XL.nil <| XQ.seq <| XC.seq <| XC.region <| rA rfl rfl rfl <| XL.nil <| XQ.seq <| XC.seq <| XC.seq <| XC.region ?_
      refine rR rfl rfl rfl (RO.loadCE (x20 : Dcl) ag_48 rfl rfl) ?_
      refine bindK h2 (fun x22 hx22 h2 => ?_)
      refine XL.put rfl rfl (lb rfl) (OpOK.callFun (m53_ok x20 x22 hx22) rfl (.cons (.agg (.cons (.d _) (.cons (.d _) (.cons (.d _) (.cons (.d _) (.cons (.d _) (.cons (.d _) (.cons (.d _) (.cons (.d _) (.cons (.d _) (.cons (.d _) (.cons (.d _) (.cons (.d _) (.cons (.d _) (.cons (.d _) (.cons (.d _) (.cons (.d _) (.cons (.d _) (.cons (.d _) (.cons (.d _) (.cons (.d _) (.cons (.d _) (.cons (.d _) (.cons (.d _) .nil)))))))))))))))))))))))) .nil)) <| rR rfl rfl rfl (RO.lenE (α := Bs) sl_23 rfl (.d _)) <| rM rfl rfl rfl <| XL.nil <| XQ.seq <| XC.block ?_
      refine XC.joinX 6 (fun (o23 : (List Int)) => ⟨[(2, .v (.one (.ptr 1 0))), (4, .v (.one (.ptr 3 0))), (13, .v (.one (.apv 6 1 ((Enc.encL o23).length) []))), (49, .v (.one (.osl 0 0 nn nn))), (50, .v (.one (dI ((nn : Nat) : Int)))), (51, .v (.one (dI s2.1)))], [(0, .cells 48 (flatE a0)), (1, .cells 72 [dN, .d (.v (.map none))]), (2, .mp (gmE o6.1) o6.2), (3, .cells 72 [dA 4 s2.2, .mp 2]), (5, .cells 48 (cE x20))], [(4, some ⟨54, 1, (Enc.encL s2.2).length, []⟩), (6, some ⟨3, 1, (Enc.encL o23).length, (Enc.encL o23).flatten⟩)], 7, 88, []⟩) (fun (o23 : (List Int)) => (Option.bind (sortF o23) fun (x24 : List Int) =>
        Option.bind (compactF x24 ((Enc.encL o23).length)) fun (x25 : List Int) =>
        guardO (Nat.ble (s2.2.length + ([x25]).length) 1000000000)
        (some (.next ((w64 (s2.1 + 1)), (s2.2 ++ ([x25])))))) = some oo2) ?_ ?_
      ·
       refine XC.adoptT (t := 13) 3 1 rfl <| XC.privT (α := Int) (t := 13) rfl rfl ?_
       refine bindK h2 (fun o24 hl3 h2 => ?_)
       refine XC.loopM (m23o_l2 x22 o6) (fun s3 => ⟨[(2, .v (.one (.ptr 1 0))), (4, .v (.one (.ptr 3 0))), (13, .v (.one (.apv 6 1 ((Enc.encL s3.1).length) []))), (49, .v (.one (.osl 0 0 nn nn))), (50, .v (.one (dI ((nn : Nat) : Int)))), (51, .v (.one (dI s2.1))), (56, .v (.one (dS x22))), (57, .v (.one (dI (x22.length : Int)))), (58, .v (.one (dI s3.2)))], [(0, .cells 48 (flatE a0)), (1, .cells 72 [dN, .d (.v (.map none))]), (2, .mp (gmE o6.1) o6.2), (3, .cells 72 [dA 4 s2.2, .mp 2]), (5, .cells 48 (cE x20))], [(4, some ⟨54, 1, (Enc.encL s2.2).length, []⟩), (6, some ⟨3, 1, (Enc.encL s3.1).length, (Enc.encL s3.1).flatten⟩)], 7, 88, []⟩) (([] : List Int), 0) o24 (stle (tR rfl (tR rfl (tR rfl (tR rfl (tR rfl (tR rfl (tR rfl (tR rfl (tR rfl tZ))))))))) (hR rfl (hR rfl (hR rfl (hR rfl (hR rfl hZ))))) (kR rfl (kR rfl kZ)) rfl (Nat.le_trans hv1 (lb rfl)) rfl rfl rfl (bF rfl (bB rfl rfl (bG rfl (bB rfl rfl (bB rfl rfl bZ))))) rfl rfl) hl3 (fun s3 n3 oo3 h3 ho3 => ?_)
       unfold m23o_l2 at h3
       refine XC.seq <| XC.region <| rR rfl rfl rfl (RO.binInt rfl rfl rfl) <| XL.nil <| XQ.seq <| XC.seq ?_
       refine XC.cond (b := (decide (s3.2 < (x22.length : Int)))) rfl (fun c25 => ?_) (fun c25 => ?_)
       ·
        replace h3 := condT c25 h3
        refine XC.skip <| XQ.seq <| XC.seq <| XC.block <| XC.seq <| XC.region ?_
        refine bindK h3 (fun x26 hx26 h3 => ?_)
        refine rR rfl rfl rfl (RO.indexE (α := Bs) sl_23 rfl (.d _) rfl hx26) <| rR rfl rfl rfl (RO.loadPel ag_9 rfl rfl) <| rA rfl rfl rfl <| XL.nil <| XQ.seq <| XC.seq <| XC.region <| rR rfl rfl rfl (RO.fieldOwn fo_72_1 rfl) <| rR rfl rfl rfl (RO.loadOwn ag_70 rfl rfl rfl) <| rM rfl rfl rfl <| rR rfl rfl rfl (RO.lookupGT (M := o6) (k := x26) mp_70 zok_int rfl rfl rfl) <| rM rfl rfl rfl <| rR rfl rfl rfl (RO.extract rfl rfl) <| rR rfl rfl rfl (RO.extract rfl rfl) ?_
        refine rA rfl rfl rfl <| rA rfl rfl rfl <| XL.nil <| XQ.seq <| XC.seq <| XC.seq <| XC.region <| rM rfl rfl rfl <| rR rfl rfl rfl (RO.not rfl) <| XL.nil <| XQ.seq ?_
        refine XC.cond (b := (!(gmHas o6 x26))) rfl (fun c27 => ?_) (fun c27 => ?_)
        ·
         replace h3 := condT c27 h3
         refine XC.seq <| XC.region <| rR rfl rfl rfl (RO.build0 bd_72 rfl ) <| XL.eff rfl rfl (OpOK.store ag_72 rfl rfl rfl rfl (lb rfl) rfl) <| rA rfl rfl rfl <| XL.nil <| XQ.seq <| XC.ret ?_
         have e_ := Option.some.inj h3
         subst e_
         have e_ : _ = _ := ho3
         subst e_
         try dsimp only [Sum.elim_inl, Sum.elim_inr] at h2
         have e_ := Option.some.inj h2
         subst e_
         have e_ : _ = _ := ho2
         subst e_
         try dsimp only [Sum.elim_inl, Sum.elim_inr] at h1
         have e_ := Option.some.inj h1
         subst e_
         exact hQ1 _ _ _ (.inr rfl) rfl (show StLe _ _ ⟨[(2, .v (.one (.ptr 1 0))), (3, .v (.one (dI 9)))], [(0, .cells 48 (flatE a0)), (1, .cells 72 [dN, .d (.v (.map none))])], [], 7, 88, []⟩ from (stle (tR rfl (tR rfl tZ)) (hR rfl (hR rfl hZ)) kZ rfl (Nat.le_trans hv1 (lb rfl)) rfl rfl rfl (bF rfl (bB rfl rfl bZ)) rfl rfl))
        ·
         replace h3 := condF c27 h3
         refine XC.skip <| XQ.seq <| XC.region <| rM rfl rfl rfl <| rM rfl rfl rfl <| XL.put rfl rfl (lb rfl) (OpOK.lit1E (α := Int) ((gmVal o6 x26)) sl_54 z_3 rfl rfl (lb rfl) (lb rfl) rfl rfl (.cons (.d _) .nil) rfl) ?_
         refine guardK h3 (fun g28 h3 => ?_)
         refine XL.put rfl rfl (lb rfl) (OpOK.appendPr (α := Int) (l := s3.1) (l2 := ([(gmVal o6 x26)] : List Int)) sl_54 el_3 rfl rfl rfl rfl (.app _ _) rfl g28) <| rA rfl rfl rfl <| XL.nil <| XQ.inBlock <| XQ.seq <| XC.region <| rR rfl rfl rfl (RO.binInt rfl rfl rfl) <| rM rfl rfl rfl <| XL.nil ?_
         have e_ := Option.some.inj h3
         subst e_
         refine XQ.nextM ((s3.1 ++ ([(gmVal o6 x26)])), (w64 (s3.2 + 1))) (stle (tR rfl (tR rfl (tR rfl (tR rfl (tR rfl (tR rfl (tR rfl (tR rfl (tR rfl tZ))))))))) (hR rfl (hR rfl (hR rfl (hR rfl (hR rfl hZ))))) (kR rfl (kR rfl kZ)) rfl (Nat.le_trans hv1 (lb rfl)) rfl rfl rfl (bF rfl (bB rfl rfl (bG rfl (bB rfl rfl (bB rfl rfl bZ))))) rfl rfl) ho3
       ·
        replace h3 := condF c25 h3
        refine XC.exit <| XQ.thenE <| XQ.thenE ?_
        have e_ := Option.some.inj h3
        subst e_
        have e_ : _ = _ := ho3
        subst e_
        exact XQ.joinX s3.1 (stle (tR rfl (tR rfl (tR rfl (tR rfl (tR rfl (tR rfl tZ)))))) (hR rfl (hR rfl (hR rfl (hR rfl (hR rfl hZ))))) (kR rfl (kR rfl kZ)) rfl (Nat.le_trans hv1 (lb rfl)) rfl rfl rfl (bF rfl (bB rfl rfl (bG rfl (bB rfl rfl (bB rfl rfl bZ))))) rfl rfl) h2
      ·
       intro o23 h2
       refine XQ.blockX <| XQ.seq <| XC.seq <| XC.region <| rM rfl rfl rfl ?_
       refine bindK h2 (fun x29 hx29 h2 => ?_)
       refine XL.put rfl rfl (lb rfl) (OpOK.callG (hp1' := []) (tk1' := [(6, some ⟨3, 1, (Enc.encL o23).length, (Enc.encL x29).flatten⟩)]) (hpF := [(0, .cells 48 (flatE a0)), (1, .cells 72 [dN, .d (.v (.map none))]), (2, .mp (gmE o6.1) o6.2), (3, .cells 72 [dA 4 s2.2, .mp 2]), (5, .cells 48 (cE x20))]) (tkF := [(4, some ⟨54, 1, (Enc.encL s2.2).length, []⟩)]) (res2 := resOf []) (nx2 := 7) [6] rfl rfl (sortF_ok o23 x29 hx29) rfl rfl qZ rfl rfl gZ (jR rfl jZ) (hR rfl (hR rfl (hR rfl (hR rfl (hR rfl hZ))))) (kR rfl kZ) rfl rfl rfl rfl rfl bZ rfl rfl rfl rfl) <| XL.nil <| XQ.seq ?_
       refine XC.anyRun [3, 5, 7] [(0, 1), (1, 1)] mixed (by kernel_rfl) (by kernel_rfl) (by kernel_rfl) ?_
       refine RunA.rd rfl rfl rfl (OpOK.of_ro (RO.fieldOwn fo_72_0 rfl)) rfl <| RunA.rd rfl rfl rfl (OpOK.of_ro (RO.loadOwn ag_57 rfl rfl rfl)) rfl <| RunA.rd rfl rfl rfl (OpOK.of_ro (RO.move rfl)) rfl ?_
       refine bindK h2 (fun x30 hx30 h2 => ?_)
       refine RunA.eff rfl rfl rfl (OpOK.callG (hp1' := []) (tk1' := [(7, some ⟨3, 1, (Enc.encL x30).length, []⟩)]) (hpF := [(0, .cells 48 (flatE a0)), (1, .cells 72 [dN, .d (.v (.map none))]), (2, .mp (gmE o6.1) o6.2), (3, .cells 72 [dA 4 s2.2, .mp 2]), (5, .cells 48 (cE x20))]) (tkF := [(4, some ⟨54, 1, (Enc.encL s2.2).length, []⟩)]) (res2 := resOf [.one (dA 7 x30)]) (nx2 := 8) [6] rfl rfl (compactF_ok x29 ((Enc.encL o23).length) x30 hx30) rfl rfl qZ rfl rfl gZ (jR rfl jZ) (hR rfl (hR rfl (hR rfl (hR rfl (hR rfl hZ))))) (kR rfl kZ) rfl rfl rfl rfl rfl bZ rfl rfl rfl rfl) rfl <| RunA.rd rfl rfl rfl (OpOK.data1E (α := List Int) (x30) sl_57 z_54 rfl rfl (lb rfl) rfl rfl (.cons (.app _ _ _) .nil) rfl) rfl ?_
       refine guardK h2 (fun g31 h2 => ?_)
       refine RunA.eff rfl rfl rfl (OpOK.appendE (α := List Int) sl_57 el_54 rfl rfl rfl rfl rfl (.d _) g31) rfl <| RunA.rd rfl rfl rfl (OpOK.of_ro (RO.fieldOwn fo_72_0 rfl)) rfl <| RunA.eff rfl rfl rfl (OpOK.store ag_57 rfl rfl rfl rfl (lb rfl) rfl) rfl ?_
       refine RunA.nil ⟨?ex, _, _, rfl, ?_⟩
       case ex => exact ⟨⟨_, rfl, _, _, rfl, rfl, rfl, .inl ⟨rfl, _, OpOK.of_ro (RO.fieldOwn fo_72_0 rfl), rfl⟩⟩, ⟨_, rfl, _, _, rfl, rfl, rfl, .inl ⟨rfl, _, OpOK.of_ro (RO.loadOwn ag_57 rfl rfl rfl), rfl⟩⟩, trivial⟩
       refine XQ.less (st' := ⟨[(2, .v (.one (.ptr 1 0))), (4, .v (.one (.ptr 3 0))), (49, .v (.one (.osl 0 0 nn nn))), (50, .v (.one (dI ((nn : Nat) : Int)))), (51, .v (.one (dI s2.1)))], [(0, .cells 48 (flatE a0)), (1, .cells 72 [dN, .d (.v (.map none))]), (2, .mp (gmE o6.1) o6.2), (3, .cells 72 [dA 4 ((s2.2 ++ ([x30])) : List (List Int)), .mp 2]), (5, .cells 48 (cE x20))], [(4, some ⟨54, 1, (Enc.encL ((s2.2 ++ ([x30])) : List (List Int))).length, []⟩), (7, some ⟨3, 1, (Enc.encL x30).length, []⟩)], 8, 88, []⟩) (stle (tR rfl (tR rfl (tR rfl (tR rfl (tR rfl tZ))))) (hR rfl (hR rfl (hR rfl (hR rfl (hR rfl hZ))))) (kR rfl (kR rfl kZ)) rfl (Nat.le_trans hv1 (lb rfl)) rfl rfl rfl (bF rfl (bB rfl rfl (bG rfl (bB rfl rfl (bB rfl rfl bZ))))) rfl rfl) <| XQ.inBlock <| XQ.seq <| XC.region <| rR rfl rfl rfl (RO.binInt rfl rfl rfl) <| rM rfl rfl rfl <| XL.nil ?_
       have e_ := Option.some.inj h2
       subst e_
       refine XQ.nextM ((w64 (s2.1 + 1)), (s2.2 ++ ([x30]))) (stle (tR rfl (tR rfl (tR rfl (tR rfl (tR rfl tZ))))) (hR rfl (hR rfl (hR rfl (hR rfl hZ)))) (kR rfl kZ) rfl (Nat.le_trans hv1 (lb rfl)) rfl rfl rfl (bF rfl (bB rfl rfl (bG rfl (bB rfl rfl bZ)))) rfl rfl) ho2
     ·
      replace h2 := condF c19 h2
      refine XC.exit <| XQ.thenE <| XQ.thenE ?_
      have e_ := Option.some.inj h2
      subst e_
      have e_ : _ = _ := ho2
      subst e_
      exact XQ.joinX s2.2 (stle (tR rfl (tR rfl tZ)) (hR rfl (hR rfl (hR rfl (hR rfl hZ)))) (kR rfl kZ) rfl (Nat.le_trans hv1 (lb rfl)) rfl rfl rfl (bF rfl (bB rfl rfl (bG rfl (bB rfl rfl bZ)))) rfl rfl) h1
    ·
     intro o17 h1
     refine XQ.blockX <| XQ.seq <| XC.seq <| XC.region <| rR rfl rfl rfl (RO.loadOwnAgg ag_72 rfl rfl rfl rfl) <| XL.eff rfl rfl (OpOK.store ag_72 rfl rfl rfl rfl (lb rfl) rfl) <| rA rfl rfl rfl <| XL.nil <| XQ.seq <| XC.ret ?_
     have e_ := Option.some.inj h1
     subst e_
     exact hQ1 _ _ _ (.inr rfl) rfl (show StLe _ _ ⟨[(2, .v (.one (.ptr 1 0))), (3, .v (.one (dI 0)))], [(0, .cells 48 (flatE a0)), (1, .cells 72 [dA 4 o17, .mp 2]), (2, .mp (gmE o6.1) o6.2)], [(4, some ⟨54, 1, (Enc.encL o17).length, []⟩)], 5, 88, []⟩ from (stle (tR rfl (tR rfl tZ)) (hR rfl (hR rfl (hR rfl hZ))) (kR rfl kZ) rfl (Nat.le_trans hv1 (lb rfl)) rfl rfl rfl (bF rfl (bB rfl rfl (bG rfl bZ))) rfl rfl))
  refine sumK (C := fun q_ => CallM Try.prog 34 [.one (.osl 0 0 nn nn)] ⟨[(0, .cells 48 (flatE a0))], [], 1⟩ (resOf (((Sum.elim (fun (y1 : (List (List Int)) × (GMap Bs Int)) => ([.agg [dA 4 y1.1, .mp 2], .one (dI 0)] : List AV)) (Sum.elim (fun (y2 : Unit) => ([.agg [dN, .d (.v (.map none))], .one (dI 8)] : List AV)) (fun (y3 : Unit) => ([.agg [dN, .d (.v (.map none))], .one (dI 9)] : List AV))))) q_)) ⟨(((Sum.elim (fun (y1 : (List (List Int)) × (GMap Bs Int)) => (⟨[(2, .v (.one (.ptr 1 0))), (3, .v (.one (dI 0)))], [(0, .cells 48 (flatE a0)), (1, .cells 72 [dA 4 y1.1, .mp 2]), (2, .mp (gmE y1.2.1) y1.2.2)], [(4, some ⟨54, 1, (Enc.encL y1.1).length, []⟩)], 5, 88, []⟩ : St)) (Sum.elim (fun (y2 : Unit) => (⟨[(2, .v (.one (.ptr 1 0))), (3, .v (.one (dI 8)))], [(0, .cells 48 (flatE a0)), (1, .cells 72 [dN, .d (.v (.map none))])], [], 5, 88, []⟩ : St)) (fun (y3 : Unit) => (⟨[(2, .v (.one (.ptr 1 0))), (3, .v (.one (dI 9)))], [(0, .cells 48 (flatE a0)), (1, .cells 72 [dN, .d (.v (.map none))])], [], 7, 88, []⟩ : St))))) q_).hp, (((Sum.elim (fun (y1 : (List (List Int)) × (GMap Bs Int)) => (⟨[(2, .v (.one (.ptr 1 0))), (3, .v (.one (dI 0)))], [(0, .cells 48 (flatE a0)), (1, .cells 72 [dA 4 y1.1, .mp 2]), (2, .mp (gmE y1.2.1) y1.2.2)], [(4, some ⟨54, 1, (Enc.encL y1.1).length, []⟩)], 5, 88, []⟩ : St)) (Sum.elim (fun (y2 : Unit) => (⟨[(2, .v (.one (.ptr 1 0))), (3, .v (.one (dI 8)))], [(0, .cells 48 (flatE a0)), (1, .cells 72 [dN, .d (.v (.map none))])], [], 5, 88, []⟩ : St)) (fun (y3 : Unit) => (⟨[(2, .v (.one (.ptr 1 0))), (3, .v (.one (dI 9)))], [(0, .cells 48 (flatE a0)), (1, .cells 72 [dN, .d (.v (.map none))])], [], 7, 88, []⟩ : St))))) q_).tk, (((Sum.elim (fun (y1 : (List (List Int)) × (GMap Bs Int)) => (⟨[(2, .v (.one (.ptr 1 0))), (3, .v (.one (dI 0)))], [(0, .cells 48 (flatE a0)), (1, .cells 72 [dA 4 y1.1, .mp 2]), (2, .mp (gmE y1.2.1) y1.2.2)], [(4, some ⟨54, 1, (Enc.encL y1.1).length, []⟩)], 5, 88, []⟩ : St)) (Sum.elim (fun (y2 : Unit) => (⟨[(2, .v (.one (.ptr 1 0))), (3, .v (.one (dI 8)))], [(0, .cells 48 (flatE a0)), (1, .cells 72 [dN, .d (.v (.map none))])], [], 5, 88, []⟩ : St)) (fun (y3 : Unit) => (⟨[(2, .v (.one (.ptr 1 0))), (3, .v (.one (dI 9)))], [(0, .cells 48 (flatE a0)), (1, .cells 72 [dN, .d (.v (.map none))])], [], 7, 88, []⟩ : St))))) q_).nx⟩) hc4 h0 (fun y1 hc4 h0 => ?_) (fun z_ hc4 h0 => sumK (C := fun q_ => CallM Try.prog 34 [.one (.osl 0 0 nn nn)] ⟨[(0, .cells 48 (flatE a0))], [], 1⟩ (resOf (((Sum.elim (fun (y1 : (List (List Int)) × (GMap Bs Int)) => ([.agg [dA 4 y1.1, .mp 2], .one (dI 0)] : List AV)) (Sum.elim (fun (y2 : Unit) => ([.agg [dN, .d (.v (.map none))], .one (dI 8)] : List AV)) (fun (y3 : Unit) => ([.agg [dN, .d (.v (.map none))], .one (dI 9)] : List AV))))) (.inr q_))) ⟨(((Sum.elim (fun (y1 : (List (List Int)) × (GMap Bs Int)) => (⟨[(2, .v (.one (.ptr 1 0))), (3, .v (.one (dI 0)))], [(0, .cells 48 (flatE a0)), (1, .cells 72 [dA 4 y1.1, .mp 2]), (2, .mp (gmE y1.2.1) y1.2.2)], [(4, some ⟨54, 1, (Enc.encL y1.1).length, []⟩)], 5, 88, []⟩ : St)) (Sum.elim (fun (y2 : Unit) => (⟨[(2, .v (.one (.ptr 1 0))), (3, .v (.one (dI 8)))], [(0, .cells 48 (flatE a0)), (1, .cells 72 [dN, .d (.v (.map none))])], [], 5, 88, []⟩ : St)) (fun (y3 : Unit) => (⟨[(2, .v (.one (.ptr 1 0))), (3, .v (.one (dI 9)))], [(0, .cells 48 (flatE a0)), (1, .cells 72 [dN, .d (.v (.map none))])], [], 7, 88, []⟩ : St))))) (.inr q_)).hp, (((Sum.elim (fun (y1 : (List (List Int)) × (GMap Bs Int)) => (⟨[(2, .v (.one (.ptr 1 0))), (3, .v (.one (dI 0)))], [(0, .cells 48 (flatE a0)), (1, .cells 72 [dA 4 y1.1, .mp 2]), (2, .mp (gmE y1.2.1) y1.2.2)], [(4, some ⟨54, 1, (Enc.encL y1.1).length, []⟩)], 5, 88, []⟩ : St)) (Sum.elim (fun (y2 : Unit) => (⟨[(2, .v (.one (.ptr 1 0))), (3, .v (.one (dI 8)))], [(0, .cells 48 (flatE a0)), (1, .cells 72 [dN, .d (.v (.map none))])], [], 5, 88, []⟩ : St)) (fun (y3 : Unit) => (⟨[(2, .v (.one (.ptr 1 0))), (3, .v (.one (dI 9)))], [(0, .cells 48 (flatE a0)), (1, .cells 72 [dN, .d (.v (.map none))])], [], 7, 88, []⟩ : St))))) (.inr q_)).tk, (((Sum.elim (fun (y1 : (List (List Int)) × (GMap Bs Int)) => (⟨[(2, .v (.one (.ptr 1 0))), (3, .v (.one (dI 0)))], [(0, .cells 48 (flatE a0)), (1, .cells 72 [dA 4 y1.1, .mp 2]), (2, .mp (gmE y1.2.1) y1.2.2)], [(4, some ⟨54, 1, (Enc.encL y1.1).length, []⟩)], 5, 88, []⟩ : St)) (Sum.elim (fun (y2 : Unit) => (⟨[(2, .v (.one (.ptr 1 0))), (3, .v (.one (dI 8)))], [(0, .cells 48 (flatE a0)), (1, .cells 72 [dN, .d (.v (.map none))])], [], 5, 88, []⟩ : St)) (fun (y3 : Unit) => (⟨[(2, .v (.one (.ptr 1 0))), (3, .v (.one (dI 9)))], [(0, .cells 48 (flatE a0)), (1, .cells 72 [dN, .d (.v (.map none))])], [], 7, 88, []⟩ : St))))) (.inr q_)).nx⟩) hc4 h0 (fun y2 hc4 h0 => ?_) (fun y3 hc4 h0 => ?_))
  ·
   replace hc4 : CallM Try.prog 34 [.one (.osl 0 0 nn nn)] ⟨[(0, .cells 48 (flatE a0))], [], 1⟩ (resOf [.agg [dA 4 y1.1, .mp 2], .one (dI 0)]) ⟨[(0, .cells 48 (flatE a0)), (1, .cells 72 [dA 4 y1.1, .mp 2]), (2, .mp (gmE y1.2.1) y1.2.2)], [(4, some ⟨54, 1, (Enc.encL y1.1).length, []⟩)], 5⟩ := hc4
   refine XL.put rfl rfl (lb rfl) (OpOK.callW rfl rfl rfl hc4 rfl (hR rfl hZ) kZ) <| rM rfl rfl rfl <| rR rfl rfl rfl (RO.extract rfl rfl) <| rR rfl rfl rfl (RO.extract rfl rfl) <| XL.put rfl rfl (lb rfl) (OpOK.alloc z_72 rfl) <| XL.eff rfl rfl (OpOK.store ag_72 rfl rfl rfl rfl (lb rfl) rfl) <| rA rfl rfl rfl <| XL.nil <| XQ.seq <| XC.seq <| XC.region <| rR rfl rfl rfl (RO.fieldOwn fo_72_0 rfl) <| rR rfl rfl rfl (RO.loadOwn ag_57 rfl rfl rfl) <| rM rfl rfl rfl ?_
   refine rA rfl rfl rfl <| rA rfl rfl rfl <| XL.nil <| XQ.seq <| XC.ret ?_
   have e_ := Option.some.inj h0
   subst e_
   exact hQ0 _ _ _ (.inr rfl) rfl (stle (tC rfl (.sub (.app _ _ _)) (tR rfl tZ)) (hR rfl hZ) kZ rfl (Nat.le_trans hv0 (lb rfl)) rfl rfl rfl (bF rfl bZ) rfl rfl)
  ·
   replace hc4 : CallM Try.prog 34 [.one (.osl 0 0 nn nn)] ⟨[(0, .cells 48 (flatE a0))], [], 1⟩ (resOf [.agg [dN, .d (.v (.map none))], .one (dI 8)]) ⟨[(0, .cells 48 (flatE a0)), (1, .cells 72 [dN, .d (.v (.map none))])], [], 5⟩ := hc4
   refine XL.put rfl rfl (lb rfl) (OpOK.callW rfl rfl rfl hc4 rfl (hR rfl hZ) kZ) <| rM rfl rfl rfl <| rR rfl rfl rfl (RO.extract rfl rfl) <| rR rfl rfl rfl (RO.extract rfl rfl) <| XL.put rfl rfl (lb rfl) (OpOK.alloc z_72 rfl) <| XL.eff rfl rfl (OpOK.store ag_72 rfl rfl rfl rfl (lb rfl) rfl) <| rA rfl rfl rfl <| XL.nil <| XQ.seq <| XC.seq <| XC.region <| rR rfl rfl rfl (RO.fieldOwn fo_72_0 rfl) <| rR rfl rfl rfl (RO.loadOwn ag_57 rfl rfl rfl) <| rM rfl rfl rfl ?_
   refine rA rfl rfl rfl <| rA rfl rfl rfl <| XL.nil <| XQ.seq <| XC.ret ?_
   have e_ := Option.some.inj h0
   subst e_
   exact hQ0 _ _ _ (.inr rfl) rfl (stle (tC rfl (.sub (.nil _)) (tR rfl tZ)) (hR rfl hZ) kZ rfl (Nat.le_trans hv0 (lb rfl)) rfl rfl rfl (bF rfl bZ) rfl rfl)
  ·
   replace hc4 : CallM Try.prog 34 [.one (.osl 0 0 nn nn)] ⟨[(0, .cells 48 (flatE a0))], [], 1⟩ (resOf [.agg [dN, .d (.v (.map none))], .one (dI 9)]) ⟨[(0, .cells 48 (flatE a0)), (1, .cells 72 [dN, .d (.v (.map none))])], [], 7⟩ := hc4
   refine XL.put rfl rfl (lb rfl) (OpOK.callW rfl rfl rfl hc4 rfl (hR rfl hZ) kZ) <| rM rfl rfl rfl <| rR rfl rfl rfl (RO.extract rfl rfl) <| rR rfl rfl rfl (RO.extract rfl rfl) <| XL.put rfl rfl (lb rfl) (OpOK.alloc z_72 rfl) <| XL.eff rfl rfl (OpOK.store ag_72 rfl rfl rfl rfl (lb rfl) rfl) <| rA rfl rfl rfl <| XL.nil <| XQ.seq <| XC.seq <| XC.region <| rR rfl rfl rfl (RO.fieldOwn fo_72_0 rfl) <| rR rfl rfl rfl (RO.loadOwn ag_57 rfl rfl rfl) <| rM rfl rfl rfl ?_
   refine rA rfl rfl rfl <| rA rfl rfl rfl <| XL.nil <| XQ.seq <| XC.ret ?_
   have e_ := Option.some.inj h0
   subst e_
   exact hQ0 _ _ _ (.inr rfl) rfl (stle (tC rfl (.sub (.nil _)) (tR rfl tZ)) (hR rfl hZ) kZ rfl (Nat.le_trans hv0 (lb rfl)) rfl rfl rfl (bF rfl bZ) rfl rfl)
end Go.Proofs.Ytijcchddnnnmdaa
namespace Go.Proofs.Ytijcchddnnnmdaa
open Go.RowKit Go.Shelf
set_option linter.unusedSimpArgs false
set_option linter.unusedVariables false
def m22o_l0 (x10 : (List Bs)) (s2 : Int × (GMap Bs Int)) (s3 : Int × (GMap Bs Int)) : Option (LO (Int × (GMap Bs Int)) (((GMap Bs Int)) ⊕ (((List (List Int)) × (GMap Bs Int)) ⊕ Unit ⊕ Unit))) :=
  cond (decide (s3.1 < (x10.length : Int)))
    (Option.bind (idx x10 s3.1) fun (x13 : Bs) =>
  cond (gmHas s3.2 x13)
    (some (.done (.inr (.inr (.inl ())))))
    (some (.next ((w64 (s3.1 + 1)), (gmSet s3.2 x13 s2.1)))))
    (some (.done (.inl s3.2)))
def m22o_l1 (nn : Nat) (a0 : List Dcl) (s2 : Int × (GMap Bs Int)) : Option (LO (Int × (GMap Bs Int)) (((GMap Bs Int)) ⊕ (((List (List Int)) × (GMap Bs Int)) ⊕ Unit ⊕ Unit))) :=
  cond (decide (s2.1 < ((nn : Nat) : Int)))
    (Option.bind (idx a0 s2.1) fun (x8 : Dcl) =>
  guardO (Nat.beq a0.length nn)
  (Option.bind (m37 x8) fun (x10 : (List Bs)) =>
  Option.bind (loopN (m22o_l0 x10 s2) FUEL (0, s2.2)) (Sum.elim (fun (o11 : (GMap Bs Int)) => some (.next ((w64 (s2.1 + 1)), o11))) (fun o => some (.done (.inr o))))))
    (some (.done (.inl s2.2)))
def m22o_l2 (x11 : (List Bs)) (o6 : (GMap Bs Int)) (s3 : (List Int) × Int) : Option (LO ((List Int) × Int) (((List Int)) ⊕ (((List (List Int)) × (GMap Bs Int)) ⊕ Unit ⊕ Unit))) :=
  cond (decide (s3.2 < (x11.length : Int)))
    (Option.bind (idx x11 s3.2) fun (x14 : Bs) =>
  cond (!(gmHas o6 x14))
    (some (.done (.inr (.inr (.inr ())))))
    (guardO (Nat.ble (s3.1.length + ([(gmVal o6 x14)]).length) 1000000000)
  (some (.next ((s3.1 ++ ([(gmVal o6 x14)])), (w64 (s3.2 + 1)))))))
    (some (.done (.inl s3.1)))
def m22o_l3 (nn : Nat) (a0 : List Dcl) (o6 : (GMap Bs Int)) (s2 : Int × (List (List Int))) : Option (LO (Int × (List (List Int))) (((List (List Int))) ⊕ (((List (List Int)) × (GMap Bs Int)) ⊕ Unit ⊕ Unit))) :=
  cond (decide (s2.1 < ((nn : Nat) : Int)))
    (Option.bind (idx a0 s2.1) fun (x9 : Dcl) =>
  guardO (Nat.beq a0.length nn)
  (Option.bind (m53 x9) fun (x11 : (List Bs)) =>
  Option.bind (loopN (m22o_l2 x11 o6) FUEL (([] : List Int), 0)) (Sum.elim (fun (o12 : (List Int)) => Option.bind (sortF o12) fun (x13 : List Int) =>
  Option.bind (compactF x13 ((Enc.encL o12).length)) fun (x14 : List Int) =>
  guardO (Nat.ble (s2.2.length + ([x14]).length) 1000000000)
  (some (.next ((w64 (s2.1 + 1)), (s2.2 ++ ([x14])))))) (fun o => some (.done (.inr o))))))
    (some (.done (.inl s2.2)))
def m22o_l4 (y1 : (List (List Int)) × (GMap Bs Int)) (s1 : (List Int) × (List Bool)) (nn : Nat) (s2 : Int) : Option (LO Int Int) :=
  cond (decide (s2 < (y1.1.length : Int)))
    (Option.bind (idx y1.1 s2) fun (x37 : List Int) =>
  Option.bind (Option.bind (idx s1.2 s2) fun (x39 : Bool) =>
  guardO (Nat.beq s1.2.length (((nn : Nat) : Int).toNat))
  (cond (!x39)
    (Option.bind (m43f5 x37 (((nn : Nat) : Int).toNat) s1.2) fun (x42 : Bool) =>
  some (!x42))
    (some false))) (fun (v38 : Bool) => cond v38
    (some (.done s2))
    (some (.next (w64 (s2 + 1))))))
    (some (.done (-1)))
def m22o_l5 (nn : Nat) (y1 : (List (List Int)) × (GMap Bs Int)) (s1 : (List Int) × (List Bool)) : Option (LO ((List Int) × (List Bool)) (((List Int) × (List Bool)) ⊕ (((List Int) × Int)))) :=
  cond (decide ((s1.1.length : Int) < ((nn : Nat) : Int)))
    (Option.bind (loopN (m22o_l4 y1 s1 nn) FUEL 0) (fun (o35 : Int) => cond (decide (o35 < 0))
    (some (.done (.inr (([] : List Int), 22))))
    (Option.bind (idx s1.2 o35) fun (x37 : Bool) =>
  guardO (Nat.beq s1.2.length (((nn : Nat) : Int).toNat))
  (guardO (Nat.ble (s1.1.length + ([o35]).length) 1000000000)
  (some (.next ((s1.1 ++ ([o35])), (s1.2.set o35.toNat true))))))))
    (some (.done (.inl (s1.1, s1.2))))
def m22o (a0 : List Dcl) (nn : Nat) : Option ((List Int) × Int) :=
  Option.bind (Option.bind (loopN (m22o_l1 nn a0) FUEL (0, gmNil)) (Sum.elim (fun (o6 : (GMap Bs Int)) => Option.bind (loopN (m22o_l3 nn a0 o6) FUEL (0, ([] : List (List Int)))) (Sum.elim (fun (o7 : (List (List Int))) => some (.inl (o7, o6))) (fun o => some o))) (fun o => some o))) (Sum.elim (fun (y1 : (List (List Int)) × (GMap Bs Int)) => guardO (cond (decide (0 ≤ ((nn : Nat) : Int))) (Nat.ble (1 * ((nn : Nat) : Int).toNat) 281474976710656) false)
  (Option.bind (loopN (m22o_l5 nn y1) FUEL (([] : List Int), (List.replicate ((nn : Nat) : Int).toNat false))) (Sum.elim (fun (o33 : (List Int) × (List Bool)) => some (o33.1, 0)) (fun o => some o)))) (Sum.elim (fun (y2 : Unit) => some (([] : List Int), 8)) (fun (y3 : Unit) => some (([] : List Int), 9))))
set_option maxRecDepth 100000 in
set_option maxHeartbeats 2000000 in
theorem m22o_ok (a0 : List Dcl) (nn : Nat) (r : (List Int) × Int) (h0 : m22o a0 nn = some r) : CallM Try.prog 22 [.one (.osl 0 0 nn nn)] ⟨[(0, .cells 48 (flatE a0))], [], 1⟩ (resOf [.one (dS r.1), .one (dI r.2)]) ⟨[(0, .cells 48 (flatE a0))], [], 6⟩ := by
  unfold m22o at h0
  refine CallM.of_bodyD ⟨[(2, .v (.one (dS r.1))), (3, .v (.one (dI r.2)))], [(0, .cells 48 (flatE a0))], [], 6, 58, []⟩ rfl rfl en_22 (lb rfl) rfl (RAs.tmp rfl (RAs.tmp rfl .nil)) (fun w0 M V0 Q hv0 hQ0 => ?_)
  simp only [entry]
  refine XC.seq <| XC.region <| rA rfl rfl rfl <| rA rfl rfl rfl <| XL.nil <| XQ.seq <| XC.seq <| XC.region <| rM rfl rfl rfl ?_
  refine bindK h0 (fun y5 h1 h0 => ?_)
  have hc4 : CallM Try.prog 34 [.one (.osl 0 0 nn nn)] ⟨[(0, .cells 48 (flatE a0))], [], 1⟩ (resOf (((Sum.elim (fun (y1 : (List (List Int)) × (GMap Bs Int)) => ([.agg [dA 4 y1.1, .mp 2], .one (dI 0)] : List AV)) (Sum.elim (fun (y2 : Unit) => ([.agg [dN, .d (.v (.map none))], .one (dI 8)] : List AV)) (fun (y3 : Unit) => ([.agg [dN, .d (.v (.map none))], .one (dI 9)] : List AV))))) y5)) ⟨(((Sum.elim (fun (y1 : (List (List Int)) × (GMap Bs Int)) => (⟨[(2, .v (.one (.ptr 1 0))), (3, .v (.one (dI 0)))], [(0, .cells 48 (flatE a0)), (1, .cells 72 [dA 4 y1.1, .mp 2]), (2, .mp (gmE y1.2.1) y1.2.2)], [(4, some ⟨54, 1, (Enc.encL y1.1).length, []⟩)], 5, 88, []⟩ : St)) (Sum.elim (fun (y2 : Unit) => (⟨[(2, .v (.one (.ptr 1 0))), (3, .v (.one (dI 8)))], [(0, .cells 48 (flatE a0)), (1, .cells 72 [dN, .d (.v (.map none))])], [], 5, 88, []⟩ : St)) (fun (y3 : Unit) => (⟨[(2, .v (.one (.ptr 1 0))), (3, .v (.one (dI 9)))], [(0, .cells 48 (flatE a0)), (1, .cells 72 [dN, .d (.v (.map none))])], [], 7, 88, []⟩ : St))))) y5).hp, (((Sum.elim (fun (y1 : (List (List Int)) × (GMap Bs Int)) => (⟨[(2, .v (.one (.ptr 1 0))), (3, .v (.one (dI 0)))], [(0, .cells 48 (flatE a0)), (1, .cells 72 [dA 4 y1.1, .mp 2]), (2, .mp (gmE y1.2.1) y1.2.2)], [(4, some ⟨54, 1, (Enc.encL y1.1).length, []⟩)], 5, 88, []⟩ : St)) (Sum.elim (fun (y2 : Unit) => (⟨[(2, .v (.one (.ptr 1 0))), (3, .v (.one (dI 8)))], [(0, .cells 48 (flatE a0)), (1, .cells 72 [dN, .d (.v (.map none))])], [], 5, 88, []⟩ : St)) (fun (y3 : Unit) => (⟨[(2, .v (.one (.ptr 1 0))), (3, .v (.one (dI 9)))], [(0, .cells 48 (flatE a0)), (1, .cells 72 [dN, .d (.v (.map none))])], [], 7, 88, []⟩ : St))))) y5).tk, (((Sum.elim (fun (y1 : (List (List Int)) × (GMap Bs Int)) => (⟨[(2, .v (.one (.ptr 1 0))), (3, .v (.one (dI 0)))], [(0, .cells 48 (flatE a0)), (1, .cells 72 [dA 4 y1.1, .mp 2]), (2, .mp (gmE y1.2.1) y1.2.2)], [(4, some ⟨54, 1, (Enc.encL y1.1).length, []⟩)], 5, 88, []⟩ : St)) (Sum.elim (fun (y2 : Unit) => (⟨[(2, .v (.one (.ptr 1 0))), (3, .v (.one (dI 8)))], [(0, .cells 48 (flatE a0)), (1, .cells 72 [dN, .d (.v (.map none))])], [], 5, 88, []⟩ : St)) (fun (y3 : Unit) => (⟨[(2, .v (.one (.ptr 1 0))), (3, .v (.one (dI 9)))], [(0, .cells 48 (flatE a0)), (1, .cells 72 [dN, .d (.v (.map none))])], [], 7, 88, []⟩ : St))))) y5).nx⟩ := by
   refine CallM.of_bodyT y5 ((Sum.elim (fun (y1 : (List (List Int)) × (GMap Bs Int)) => (⟨[(2, .v (.one (.ptr 1 0))), (3, .v (.one (dI 0)))], [(0, .cells 48 (flatE a0)), (1, .cells 72 [dA 4 y1.1, .mp 2]), (2, .mp (gmE y1.2.1) y1.2.2)], [(4, some ⟨54, 1, (Enc.encL y1.1).length, []⟩)], 5, 88, []⟩ : St)) (Sum.elim (fun (y2 : Unit) => (⟨[(2, .v (.one (.ptr 1 0))), (3, .v (.one (dI 8)))], [(0, .cells 48 (flatE a0)), (1, .cells 72 [dN, .d (.v (.map none))])], [], 5, 88, []⟩ : St)) (fun (y3 : Unit) => (⟨[(2, .v (.one (.ptr 1 0))), (3, .v (.one (dI 9)))], [(0, .cells 48 (flatE a0)), (1, .cells 72 [dN, .d (.v (.map none))])], [], 7, 88, []⟩ : St))))) ((Sum.elim (fun (y1 : (List (List Int)) × (GMap Bs Int)) => ([.agg [dA 4 y1.1, .mp 2], .one (dI 0)] : List AV)) (Sum.elim (fun (y2 : Unit) => ([.agg [dN, .d (.v (.map none))], .one (dI 8)] : List AV)) (fun (y3 : Unit) => ([.agg [dN, .d (.v (.map none))], .one (dI 9)] : List AV))))) rfl rfl en_34 (lb rfl) (fun z_ => by cases z_ with
     | inl _ => rfl
     | inr z_ => exact (by cases z_ <;> rfl)) (fun z_ => by cases z_ with
     | inl _ => exact (RAs.agg ag_72 rfl rfl rfl rfl (RAs.tmp rfl .nil))
     | inr z_ => exact (by cases z_ with
     | inl _ => exact (RAs.agg ag_72 rfl rfl rfl rfl (RAs.tmp rfl .nil))
     | inr _ => exact (RAs.agg ag_72 rfl rfl rfl rfl (RAs.tmp rfl .nil)))) (fun w0 M V0 Q hv1 hQ1 => ?_)
   simp only [entry]
   refine XC.seq <| XC.region <| XL.put rfl rfl (lb rfl) (OpOK.alloc z_72 rfl) <| rA rfl rfl rfl <| XL.nil <| XQ.seq <| XC.seq <| XC.region <| XL.put rfl rfl (lb rfl) (OpOK.makeMapG Bs Int) <| rR rfl rfl rfl (RO.build1 bd_72 rfl rfl rfl) <| XL.put rfl rfl (lb rfl) (OpOK.alloc z_72 rfl) <| XL.eff rfl rfl (OpOK.store ag_72 rfl rfl rfl rfl (lb rfl) rfl) <| XL.nil <| XQ.seq ?_
   refine XC.seq <| XC.seq <| XC.region <| rM rfl rfl rfl <| rR rfl rfl rfl (RO.lenOsl sl_22 rfl) <| rM rfl rfl rfl <| XL.nil <| XQ.seq <| XC.block ?_
   refine XC.joinX 0 (fun (o6 : (GMap Bs Int)) => ⟨[(0, .v (.one (.osl 0 0 nn nn))), (2, .v (.one (.ptr 1 0))), (4, .v (.one (.ptr 3 0)))], [(0, .cells 48 (flatE a0)), (1, .cells 72 [dN, .d (.v (.map none))]), (2, .mp (gmE o6.1) o6.2), (3, .cells 72 [dN, .mp 2])], [], 4, 88, []⟩) (fun (o6 : (GMap Bs Int)) => (Option.bind (loopN (m22o_l3 nn a0 o6) FUEL (0, ([] : List (List Int)))) (Sum.elim (fun (o7 : (List (List Int))) => some (.inl (o7, o6))) (fun o => some o))) = some y5) ?_ ?_
   ·
    refine bindK h1 (fun o7 hl2 h1 => ?_)
    refine XC.loopM (m22o_l1 nn a0) (fun s2 => ⟨[(0, .v (.one (.osl 0 0 nn nn))), (2, .v (.one (.ptr 1 0))), (4, .v (.one (.ptr 3 0))), (20, .v (.one (.osl 0 0 nn nn))), (21, .v (.one (dI ((nn : Nat) : Int)))), (22, .v (.one (dI s2.1)))], [(0, .cells 48 (flatE a0)), (1, .cells 72 [dN, .d (.v (.map none))]), (2, .mp (gmE s2.2.1) s2.2.2), (3, .cells 72 [dN, .mp 2])], [], 4, 88, []⟩) (0, gmNil) o7 (stle (tR rfl (tR rfl (tR rfl (tR rfl (tR rfl (tR rfl tZ)))))) (hR rfl (hR rfl (hR rfl (hR rfl hZ)))) kZ rfl (Nat.le_trans hv1 (lb rfl)) rfl rfl rfl (bF rfl (bB rfl rfl (bG rfl (bB rfl rfl bZ)))) rfl rfl) hl2 (fun s2 n2 oo2 h2 ho2 => ?_)
    unfold m22o_l1 at h2
    refine XC.seq <| XC.region <| rR rfl rfl rfl (RO.binInt rfl rfl rfl) <| XL.nil <| XQ.seq <| XC.seq ?_
    refine XC.cond (b := (decide (s2.1 < ((nn : Nat) : Int)))) rfl (fun c8 => ?_) (fun c8 => ?_)
    ·
     replace h2 := condT c8 h2
     refine XC.skip <| XQ.seq <| XC.seq <| XC.block <| XC.seq <| XC.region <| rM rfl rfl rfl ?_
     refine bindK h2 (fun x9 hx9 h2 => ?_)
     refine guardK h2 (fun g10 h2 => ?_)
     refine rR rfl rfl rfl (RO.indexO (α := Dcl) sl_22 rfl rfl hx9 g10) <| rR rfl rfl rfl (RO.loadOE (α := Dcl) (ys := [dI x9.kind, dS8 x9.name, dI x9.params, dI x9.ty.kind, dI x9.ty.index, dS8 x9.ty.name, dS x9.ty.levels, dS x9.ty.kids, dI x9.value.kind, dI x9.value.index, dS8 x9.value.name, dS x9.value.levels, dS x9.value.kids, dI x9.fixed, dS x9.ctors, dI x9.rcr.params, dI x9.rcr.ty.kind, dI x9.rcr.ty.index, dS8 x9.rcr.ty.name, dS x9.rcr.ty.levels, dS x9.rcr.ty.kids, dS x9.rcr.rules, dS x9.funs]) ag_48 rfl rfl hx9 rfl) <| XL.put rfl rfl (lb rfl) (OpOK.alloc z_48 rfl) <| rA rfl rfl rfl <| XL.eff rfl rfl (OpOK.storeCE (x9 : Dcl) ag_48 rfl rfl rfl rfl rfl) <| XL.nil <| XQ.seq <| XC.seq <| XC.region <| rR rfl rfl rfl (RO.loadCE (x9 : Dcl) ag_48 rfl rfl) ?_
     refine bindK h2 (fun x11 hx11 h2 => ?_)
     refine XL.put rfl rfl (lb rfl) (OpOK.callFun (m37_ok x9 x11 hx11) rfl (.cons (.agg (.cons (.d _) (.cons (.d _) (.cons (.d _) (.cons (.d _) (.cons (.d _) (.cons (.d _) (.cons (.d _) (.cons (.d _) (.cons (.d _) (.cons (.d _) (.cons (.d _) (.cons (.d _) (.cons (.d _) (.cons (.d _) (.cons (.d _) (.cons (.d _) (.cons (.d _) (.cons (.d _) (.cons (.d _) (.cons (.d _) (.cons (.d _) (.cons (.d _) (.cons (.d _) .nil)))))))))))))))))))))))) .nil)) <| rR rfl rfl rfl (RO.lenE (α := Bs) sl_23 rfl (.d _)) <| rM rfl rfl rfl <| XL.nil <| XQ.seq <| XC.block ?_
     refine XC.joinX 2 (fun (o12 : (GMap Bs Int)) => ⟨[(0, .v (.one (.osl 0 0 nn nn))), (2, .v (.one (.ptr 1 0))), (4, .v (.one (.ptr 3 0))), (20, .v (.one (.osl 0 0 nn nn))), (21, .v (.one (dI ((nn : Nat) : Int)))), (22, .v (.one (dI s2.1)))], [(0, .cells 48 (flatE a0)), (1, .cells 72 [dN, .d (.v (.map none))]), (2, .mp (gmE o12.1) o12.2), (3, .cells 72 [dN, .mp 2]), (4, .cells 48 (cE x9))], [], 5, 88, []⟩) (fun (o12 : (GMap Bs Int)) => (some (.next ((w64 (s2.1 + 1)), o12))) = some oo2) ?_ ?_
     ·
      refine bindK h2 (fun o13 hl3 h2 => ?_)
      refine XC.loopM (m22o_l0 x11 s2) (fun s3 => ⟨[(0, .v (.one (.osl 0 0 nn nn))), (2, .v (.one (.ptr 1 0))), (4, .v (.one (.ptr 3 0))), (5, .v (.one (dI s2.1))), (20, .v (.one (.osl 0 0 nn nn))), (21, .v (.one (dI ((nn : Nat) : Int)))), (22, .v (.one (dI s2.1))), (28, .v (.one (dS x11))), (29, .v (.one (dI (x11.length : Int)))), (30, .v (.one (dI s3.1)))], [(0, .cells 48 (flatE a0)), (1, .cells 72 [dN, .d (.v (.map none))]), (2, .mp (gmE s3.2.1) s3.2.2), (3, .cells 72 [dN, .mp 2]), (4, .cells 48 (cE x9))], [], 5, 88, []⟩) (0, s2.2) o13 (stle (tR rfl (tR rfl (tR rfl (tR rfl (tR rfl (tR rfl (tR rfl (tR rfl (tR rfl (tR rfl tZ)))))))))) (hR rfl (hR rfl (hR rfl (hR rfl (hR rfl hZ))))) kZ rfl (Nat.le_trans hv1 (lb rfl)) rfl rfl rfl (bF rfl (bB rfl rfl (bG rfl (bB rfl rfl (bB rfl rfl bZ))))) rfl rfl) hl3 (fun s3 n3 oo3 h3 ho3 => ?_)
      unfold m22o_l0 at h3
      refine XC.seq <| XC.region <| rR rfl rfl rfl (RO.binInt rfl rfl rfl) <| XL.nil <| XQ.seq <| XC.seq ?_
      refine XC.cond (b := (decide (s3.1 < (x11.length : Int)))) rfl (fun c14 => ?_) (fun c14 => ?_)
      ·
       replace h3 := condT c14 h3
       refine XC.skip <| XQ.seq <| XC.seq <| XC.block <| XC.seq <| XC.region ?_
       refine bindK h3 (fun x15 hx15 h3 => ?_)
       refine rR rfl rfl rfl (RO.indexE (α := Bs) sl_23 rfl (.d _) rfl hx15) <| rR rfl rfl rfl (RO.loadPel ag_9 rfl rfl) <| rA rfl rfl rfl <| XL.nil <| XQ.seq <| XC.seq <| XC.seq <| XC.region <| rR rfl rfl rfl (RO.fieldOwn fo_72_1 rfl) <| rR rfl rfl rfl (RO.loadOwn ag_70 rfl rfl rfl) <| rM rfl rfl rfl <| rR rfl rfl rfl (RO.lookupGT (M := s3.2) (k := x15) mp_70 zok_int rfl rfl rfl) <| rM rfl rfl rfl <| rR rfl rfl rfl (RO.extract rfl rfl) ?_
       refine rR rfl rfl rfl (RO.extract rfl rfl) <| rA rfl rfl rfl <| rA rfl rfl rfl <| XL.nil <| XQ.seq <| XC.seq <| XC.region <| rM rfl rfl rfl <| XL.nil <| XQ.seq ?_
       refine XC.cond (b := (gmHas s3.2 x15)) rfl (fun c16 => ?_) (fun c16 => ?_)
       ·
        replace h3 := condT c16 h3
        refine XC.seq <| XC.region <| rR rfl rfl rfl (RO.build0 bd_72 rfl ) <| XL.eff rfl rfl (OpOK.store ag_72 rfl rfl rfl rfl (lb rfl) rfl) <| rA rfl rfl rfl <| XL.nil <| XQ.seq <| XC.ret ?_
        have e_ := Option.some.inj h3
        subst e_
        have e_ : _ = _ := ho3
        subst e_
        try dsimp only [Sum.elim_inl, Sum.elim_inr] at h2
        have e_ := Option.some.inj h2
        subst e_
        have e_ : _ = _ := ho2
        subst e_
        try dsimp only [Sum.elim_inl, Sum.elim_inr] at h1
        have e_ := Option.some.inj h1
        subst e_
        exact hQ1 _ _ _ (.inr rfl) rfl (show StLe _ _ ⟨[(2, .v (.one (.ptr 1 0))), (3, .v (.one (dI 8)))], [(0, .cells 48 (flatE a0)), (1, .cells 72 [dN, .d (.v (.map none))])], [], 5, 88, []⟩ from (stle (tR rfl (tR rfl tZ)) (hR rfl (hR rfl hZ)) kZ rfl (Nat.le_trans hv1 (lb rfl)) rfl rfl rfl (bF rfl (bB rfl rfl bZ)) rfl rfl))
       ·
        replace h3 := condF c16 h3
        refine XC.skip <| XQ.seq <| XC.region <| rR rfl rfl rfl (RO.fieldOwn fo_72_1 rfl) <| rR rfl rfl rfl (RO.loadOwn ag_70 rfl rfl rfl) <| rM rfl rfl rfl <| rM rfl rfl rfl <| XL.eff rfl rfl (OpOK.mapSetG (M := s3.2) (k := x15) (v := s2.1) mp_70 rfl rfl rfl rfl rfl) <| XL.nil <| XQ.inBlock <| XQ.seq <| XC.region <| rR rfl rfl rfl (RO.binInt rfl rfl rfl) <| rM rfl rfl rfl ?_
        refine XL.nil ?_
        have e_ := Option.some.inj h3
        subst e_
        refine XQ.nextM ((w64 (s3.1 + 1)), (gmSet s3.2 x15 s2.1)) (stle (tR rfl (tR rfl (tR rfl (tR rfl (tR rfl (tR rfl (tR rfl (tR rfl (tR rfl (tR rfl tZ)))))))))) (hR rfl (hR rfl (hR rfl (hR rfl (hR rfl hZ))))) kZ rfl (Nat.le_trans hv1 (lb rfl)) rfl rfl rfl (bF rfl (bB rfl rfl (bG rfl (bB rfl rfl (bB rfl rfl bZ))))) rfl rfl) ho3
      ·
       replace h3 := condF c14 h3
       refine XC.exit <| XQ.thenE <| XQ.thenE ?_
       have e_ := Option.some.inj h3
       subst e_
       have e_ : _ = _ := ho3
       subst e_
       exact XQ.joinX s3.2 (stle (tR rfl (tR rfl (tR rfl (tR rfl (tR rfl (tR rfl tZ)))))) (hR rfl (hR rfl (hR rfl (hR rfl (hR rfl hZ))))) kZ rfl (Nat.le_trans hv1 (lb rfl)) rfl rfl rfl (bF rfl (bB rfl rfl (bG rfl (bB rfl rfl (bB rfl rfl bZ))))) rfl rfl) h2
     ·
      intro o12 h2
      refine XQ.blockX <| XQ.inBlock <| XQ.seq <| XC.region <| rR rfl rfl rfl (RO.binInt rfl rfl rfl) <| rM rfl rfl rfl <| XL.nil ?_
      have e_ := Option.some.inj h2
      subst e_
      refine XQ.nextM ((w64 (s2.1 + 1)), o12) (stle (tR rfl (tR rfl (tR rfl (tR rfl (tR rfl (tR rfl tZ)))))) (hR rfl (hR rfl (hR rfl (hR rfl hZ)))) kZ rfl (Nat.le_trans hv1 (lb rfl)) rfl rfl rfl (bF rfl (bB rfl rfl (bG rfl (bB rfl rfl bZ)))) rfl rfl) ho2
    ·
     replace h2 := condF c8 h2
     refine XC.exit <| XQ.thenE <| XQ.thenE ?_
     have e_ := Option.some.inj h2
     subst e_
     have e_ : _ = _ := ho2
     subst e_
     exact XQ.joinX s2.2 (stle (tR rfl (tR rfl (tR rfl tZ))) (hR rfl (hR rfl (hR rfl (hR rfl hZ)))) kZ rfl (Nat.le_trans hv1 (lb rfl)) rfl rfl rfl (bF rfl (bB rfl rfl (bG rfl (bB rfl rfl bZ)))) rfl rfl) h1
   ·
    intro o6 h1
    refine XQ.blockX <| XQ.seq <| XC.seq <| XC.seq <| XC.region <| rM rfl rfl rfl <| rR rfl rfl rfl (RO.lenOsl sl_22 rfl) <| rM rfl rfl rfl <| XL.nil <| XQ.seq <| XC.block ?_
    refine XC.joinX 4 (fun (o17 : (List (List Int))) => ⟨[(2, .v (.one (.ptr 1 0))), (4, .v (.one (.ptr 3 0)))], [(0, .cells 48 (flatE a0)), (1, .cells 72 [dN, .d (.v (.map none))]), (2, .mp (gmE o6.1) o6.2), (3, .cells 72 [dA 4 o17, .mp 2])], [(4, some ⟨54, 1, (Enc.encL o17).length, []⟩)], 5, 88, []⟩) (fun (o17 : (List (List Int))) => (some (.inl (o17, o6))) = some y5) ?_ ?_
    ·
     refine XC.adoptC (i := 3) (off := 0) 54 1 rfl rfl ?_
     refine bindK h1 (fun o18 hl2 h1 => ?_)
     refine XC.loopM (m22o_l3 nn a0 o6) (fun s2 => ⟨[(2, .v (.one (.ptr 1 0))), (4, .v (.one (.ptr 3 0))), (49, .v (.one (.osl 0 0 nn nn))), (50, .v (.one (dI ((nn : Nat) : Int)))), (51, .v (.one (dI s2.1)))], [(0, .cells 48 (flatE a0)), (1, .cells 72 [dN, .d (.v (.map none))]), (2, .mp (gmE o6.1) o6.2), (3, .cells 72 [dA 4 s2.2, .mp 2])], [(4, some ⟨54, 1, (Enc.encL s2.2).length, []⟩)], 5, 88, []⟩) (0, ([] : List (List Int))) o18 (stle (tR rfl (tR rfl (tR rfl (tR rfl (tR rfl tZ))))) (hR rfl (hR rfl (hR rfl (hR rfl hZ)))) (kR rfl kZ) rfl (Nat.le_trans hv1 (lb rfl)) rfl rfl rfl (bF rfl (bB rfl rfl (bG rfl (bB rfl rfl bZ)))) rfl rfl) hl2 (fun s2 n2 oo2 h2 ho2 => ?_)
     unfold m22o_l3 at h2
     refine XC.seq <| XC.region <| rR rfl rfl rfl (RO.binInt rfl rfl rfl) <| XL.nil <| XQ.seq <| XC.seq ?_
     refine XC.cond (b := (decide (s2.1 < ((nn : Nat) : Int)))) rfl (fun c19 => ?_) (fun c19 => ?_)
     ·
      replace h2 := condT c19 h2
      refine XC.skip <| XQ.seq <| XC.seq <| XC.block <| XC.seq <| XC.region ?_
      refine bindK h2 (fun x20 hx20 h2 => ?_)
      refine guardK h2 (fun g21 h2 => ?_)
      refine rR rfl rfl rfl (RO.indexO (α := Dcl) sl_22 rfl rfl hx20 g21) <| rR rfl rfl rfl (RO.loadOE (α := Dcl) (ys := [dI x20.kind, dS8 x20.name, dI x20.params, dI x20.ty.kind, dI x20.ty.index, dS8 x20.ty.name, dS x20.ty.levels, dS x20.ty.kids, dI x20.value.kind, dI x20.value.index, dS8 x20.value.name, dS x20.value.levels, dS x20.value.kids, dI x20.fixed, dS x20.ctors, dI x20.rcr.params, dI x20.rcr.ty.kind, dI x20.rcr.ty.index, dS8 x20.rcr.ty.name, dS x20.rcr.ty.levels, dS x20.rcr.ty.kids, dS x20.rcr.rules, dS x20.funs]) ag_48 rfl rfl hx20 rfl) <| XL.put rfl rfl (lb rfl) (OpOK.alloc z_48 rfl) <| XL.eff rfl rfl (OpOK.storeCE (x20 : Dcl) ag_48 rfl rfl rfl rfl rfl) <| XL.nil <| XQ.seq <| XC.seq <| XC.region <| rA rfl rfl rfl <| XL.nil <| XQ.seq <| XC.seq <| XC.seq <| XC.region ?_
      refine rR rfl rfl rfl (RO.loadCE (x20 : Dcl) ag_48 rfl rfl) ?_
      refine bindK h2 (fun x22 hx22 h2 => ?_)
      refine XL.put rfl rfl (lb rfl) (OpOK.callFun (m53_ok x20 x22 hx22) rfl (.cons (.agg (.cons (.d _) (.cons (.d _) (.cons (.d _) (.cons (.d _) (.cons (.d _) (.cons (.d _) (.cons (.d _) (.cons (.d _) (.cons (.d _) (.cons (.d _) (.cons (.d _) (.cons (.d _) (.cons (.d _) (.cons (.d _) (.cons (.d _) (.cons (.d _) (.cons (.d _) (.cons (.d _) (.cons (.d _) (.cons (.d _) (.cons (.d _) (.cons (.d _) (.cons (.d _) .nil)))))))))))))))))))))))) .nil)) <| rR rfl rfl rfl (RO.lenE (α := Bs) sl_23 rfl (.d _)) <| rM rfl rfl rfl <| XL.nil <| XQ.seq <| XC.block ?_
      refine XC.joinX 6 (fun (o23 : (List Int)) => ⟨[(2, .v (.one (.ptr 1 0))), (4, .v (.one (.ptr 3 0))), (13, .v (.one (.apv 6 1 ((Enc.encL o23).length) []))), (49, .v (.one (.osl 0 0 nn nn))), (50, .v (.one (dI ((nn : Nat) : Int)))), (51, .v (.one (dI s2.1)))], [(0, .cells 48 (flatE a0)), (1, .cells 72 [dN, .d (.v (.map none))]), (2, .mp (gmE o6.1) o6.2), (3, .cells 72 [dA 4 s2.2, .mp 2]), (5, .cells 48 (cE x20))], [(4, some ⟨54, 1, (Enc.encL s2.2).length, []⟩), (6, some ⟨3, 1, (Enc.encL o23).length, (Enc.encL o23).flatten⟩)], 7, 88, []⟩) (fun (o23 : (List Int)) => (Option.bind (sortF o23) fun (x24 : List Int) =>
        Option.bind (compactF x24 ((Enc.encL o23).length)) fun (x25 : List Int) =>
        guardO (Nat.ble (s2.2.length + ([x25]).length) 1000000000)
        (some (.next ((w64 (s2.1 + 1)), (s2.2 ++ ([x25])))))) = some oo2) ?_ ?_
      ·
       refine XC.adoptT (t := 13) 3 1 rfl <| XC.privT (α := Int) (t := 13) rfl rfl ?_
       refine bindK h2 (fun o24 hl3 h2 => ?_)
       refine XC.loopM (m22o_l2 x22 o6) (fun s3 => ⟨[(2, .v (.one (.ptr 1 0))), (4, .v (.one (.ptr 3 0))), (13, .v (.one (.apv 6 1 ((Enc.encL s3.1).length) []))), (49, .v (.one (.osl 0 0 nn nn))), (50, .v (.one (dI ((nn : Nat) : Int)))), (51, .v (.one (dI s2.1))), (56, .v (.one (dS x22))), (57, .v (.one (dI (x22.length : Int)))), (58, .v (.one (dI s3.2)))], [(0, .cells 48 (flatE a0)), (1, .cells 72 [dN, .d (.v (.map none))]), (2, .mp (gmE o6.1) o6.2), (3, .cells 72 [dA 4 s2.2, .mp 2]), (5, .cells 48 (cE x20))], [(4, some ⟨54, 1, (Enc.encL s2.2).length, []⟩), (6, some ⟨3, 1, (Enc.encL s3.1).length, (Enc.encL s3.1).flatten⟩)], 7, 88, []⟩) (([] : List Int), 0) o24 (stle (tR rfl (tR rfl (tR rfl (tR rfl (tR rfl (tR rfl (tR rfl (tR rfl (tR rfl tZ))))))))) (hR rfl (hR rfl (hR rfl (hR rfl (hR rfl hZ))))) (kR rfl (kR rfl kZ)) rfl (Nat.le_trans hv1 (lb rfl)) rfl rfl rfl (bF rfl (bB rfl rfl (bG rfl (bB rfl rfl (bB rfl rfl bZ))))) rfl rfl) hl3 (fun s3 n3 oo3 h3 ho3 => ?_)
       unfold m22o_l2 at h3
       refine XC.seq <| XC.region <| rR rfl rfl rfl (RO.binInt rfl rfl rfl) <| XL.nil <| XQ.seq <| XC.seq ?_
       refine XC.cond (b := (decide (s3.2 < (x22.length : Int)))) rfl (fun c25 => ?_) (fun c25 => ?_)
       ·
        replace h3 := condT c25 h3
        refine XC.skip <| XQ.seq <| XC.seq <| XC.block <| XC.seq <| XC.region ?_
        refine bindK h3 (fun x26 hx26 h3 => ?_)
        refine rR rfl rfl rfl (RO.indexE (α := Bs) sl_23 rfl (.d _) rfl hx26) <| rR rfl rfl rfl (RO.loadPel ag_9 rfl rfl) <| rA rfl rfl rfl <| XL.nil <| XQ.seq <| XC.seq <| XC.region <| rR rfl rfl rfl (RO.fieldOwn fo_72_1 rfl) <| rR rfl rfl rfl (RO.loadOwn ag_70 rfl rfl rfl) <| rM rfl rfl rfl <| rR rfl rfl rfl (RO.lookupGT (M := o6) (k := x26) mp_70 zok_int rfl rfl rfl) <| rM rfl rfl rfl <| rR rfl rfl rfl (RO.extract rfl rfl) <| rR rfl rfl rfl (RO.extract rfl rfl) ?_
        refine rA rfl rfl rfl <| rA rfl rfl rfl <| XL.nil <| XQ.seq <| XC.seq <| XC.seq <| XC.region <| rM rfl rfl rfl <| rR rfl rfl rfl (RO.not rfl) <| XL.nil <| XQ.seq ?_
        refine XC.cond (b := (!(gmHas o6 x26))) rfl (fun c27 => ?_) (fun c27 => ?_)
        ·
         replace h3 := condT c27 h3
         refine XC.seq <| XC.region <| rR rfl rfl rfl (RO.build0 bd_72 rfl ) <| XL.eff rfl rfl (OpOK.store ag_72 rfl rfl rfl rfl (lb rfl) rfl) <| rA rfl rfl rfl <| XL.nil <| XQ.seq <| XC.ret ?_
         have e_ := Option.some.inj h3
         subst e_
         have e_ : _ = _ := ho3
         subst e_
         try dsimp only [Sum.elim_inl, Sum.elim_inr] at h2
         have e_ := Option.some.inj h2
         subst e_
         have e_ : _ = _ := ho2
         subst e_
         try dsimp only [Sum.elim_inl, Sum.elim_inr] at h1
         have e_ := Option.some.inj h1
         subst e_
         exact hQ1 _ _ _ (.inr rfl) rfl (show StLe _ _ ⟨[(2, .v (.one (.ptr 1 0))), (3, .v (.one (dI 9)))], [(0, .cells 48 (flatE a0)), (1, .cells 72 [dN, .d (.v (.map none))])], [], 7, 88, []⟩ from (stle (tR rfl (tR rfl tZ)) (hR rfl (hR rfl hZ)) kZ rfl (Nat.le_trans hv1 (lb rfl)) rfl rfl rfl (bF rfl (bB rfl rfl bZ)) rfl rfl))
        ·
         replace h3 := condF c27 h3
         refine XC.skip <| XQ.seq <| XC.region <| rM rfl rfl rfl <| rM rfl rfl rfl <| XL.put rfl rfl (lb rfl) (OpOK.lit1E (α := Int) ((gmVal o6 x26)) sl_54 z_3 rfl rfl (lb rfl) (lb rfl) rfl rfl (.cons (.d _) .nil) rfl) ?_
         refine guardK h3 (fun g28 h3 => ?_)
         refine XL.put rfl rfl (lb rfl) (OpOK.appendPr (α := Int) (l := s3.1) (l2 := ([(gmVal o6 x26)] : List Int)) sl_54 el_3 rfl rfl rfl rfl (.app _ _) rfl g28) <| rA rfl rfl rfl <| XL.nil <| XQ.inBlock <| XQ.seq <| XC.region <| rR rfl rfl rfl (RO.binInt rfl rfl rfl) <| rM rfl rfl rfl <| XL.nil ?_
         have e_ := Option.some.inj h3
         subst e_
         refine XQ.nextM ((s3.1 ++ ([(gmVal o6 x26)])), (w64 (s3.2 + 1))) (stle (tR rfl (tR rfl (tR rfl (tR rfl (tR rfl (tR rfl (tR rfl (tR rfl (tR rfl tZ))))))))) (hR rfl (hR rfl (hR rfl (hR rfl (hR rfl hZ))))) (kR rfl (kR rfl kZ)) rfl (Nat.le_trans hv1 (lb rfl)) rfl rfl rfl (bF rfl (bB rfl rfl (bG rfl (bB rfl rfl (bB rfl rfl bZ))))) rfl rfl) ho3
       ·
        replace h3 := condF c25 h3
        refine XC.exit <| XQ.thenE <| XQ.thenE ?_
        have e_ := Option.some.inj h3
        subst e_
        have e_ : _ = _ := ho3
        subst e_
        exact XQ.joinX s3.1 (stle (tR rfl (tR rfl (tR rfl (tR rfl (tR rfl (tR rfl tZ)))))) (hR rfl (hR rfl (hR rfl (hR rfl (hR rfl hZ))))) (kR rfl (kR rfl kZ)) rfl (Nat.le_trans hv1 (lb rfl)) rfl rfl rfl (bF rfl (bB rfl rfl (bG rfl (bB rfl rfl (bB rfl rfl bZ))))) rfl rfl) h2
      ·
       intro o23 h2
       refine XQ.blockX <| XQ.seq <| XC.seq <| XC.region <| rM rfl rfl rfl ?_
       refine bindK h2 (fun x29 hx29 h2 => ?_)
       refine XL.put rfl rfl (lb rfl) (OpOK.callG (hp1' := []) (tk1' := [(6, some ⟨3, 1, (Enc.encL o23).length, (Enc.encL x29).flatten⟩)]) (hpF := [(0, .cells 48 (flatE a0)), (1, .cells 72 [dN, .d (.v (.map none))]), (2, .mp (gmE o6.1) o6.2), (3, .cells 72 [dA 4 s2.2, .mp 2]), (5, .cells 48 (cE x20))]) (tkF := [(4, some ⟨54, 1, (Enc.encL s2.2).length, []⟩)]) (res2 := resOf []) (nx2 := 7) [6] rfl rfl (sortF_ok o23 x29 hx29) rfl rfl qZ rfl rfl gZ (jR rfl jZ) (hR rfl (hR rfl (hR rfl (hR rfl (hR rfl hZ))))) (kR rfl kZ) rfl rfl rfl rfl rfl bZ rfl rfl rfl rfl) <| XL.nil <| XQ.seq ?_
       refine XC.anyRun [3, 5, 7] [(0, 1), (1, 1)] mixed (by kernel_rfl) (by kernel_rfl) (by kernel_rfl) ?_
       refine RunA.rd rfl rfl rfl (OpOK.of_ro (RO.fieldOwn fo_72_0 rfl)) rfl <| RunA.rd rfl rfl rfl (OpOK.of_ro (RO.loadOwn ag_57 rfl rfl rfl)) rfl <| RunA.rd rfl rfl rfl (OpOK.of_ro (RO.move rfl)) rfl ?_
       refine bindK h2 (fun x30 hx30 h2 => ?_)
       refine RunA.eff rfl rfl rfl (OpOK.callG (hp1' := []) (tk1' := [(7, some ⟨3, 1, (Enc.encL x30).length, []⟩)]) (hpF := [(0, .cells 48 (flatE a0)), (1, .cells 72 [dN, .d (.v (.map none))]), (2, .mp (gmE o6.1) o6.2), (3, .cells 72 [dA 4 s2.2, .mp 2]), (5, .cells 48 (cE x20))]) (tkF := [(4, some ⟨54, 1, (Enc.encL s2.2).length, []⟩)]) (res2 := resOf [.one (dA 7 x30)]) (nx2 := 8) [6] rfl rfl (compactF_ok x29 ((Enc.encL o23).length) x30 hx30) rfl rfl qZ rfl rfl gZ (jR rfl jZ) (hR rfl (hR rfl (hR rfl (hR rfl (hR rfl hZ))))) (kR rfl kZ) rfl rfl rfl rfl rfl bZ rfl rfl rfl rfl) rfl <| RunA.rd rfl rfl rfl (OpOK.data1E (α := List Int) (x30) sl_57 z_54 rfl rfl (lb rfl) rfl rfl (.cons (.app _ _ _) .nil) rfl) rfl ?_
       refine guardK h2 (fun g31 h2 => ?_)
       refine RunA.eff rfl rfl rfl (OpOK.appendE (α := List Int) sl_57 el_54 rfl rfl rfl rfl rfl (.d _) g31) rfl <| RunA.rd rfl rfl rfl (OpOK.of_ro (RO.fieldOwn fo_72_0 rfl)) rfl <| RunA.eff rfl rfl rfl (OpOK.store ag_57 rfl rfl rfl rfl (lb rfl) rfl) rfl ?_
       refine RunA.nil ⟨?ex, _, _, rfl, ?_⟩
       case ex => exact ⟨⟨_, rfl, _, _, rfl, rfl, rfl, .inl ⟨rfl, _, OpOK.of_ro (RO.fieldOwn fo_72_0 rfl), rfl⟩⟩, ⟨_, rfl, _, _, rfl, rfl, rfl, .inl ⟨rfl, _, OpOK.of_ro (RO.loadOwn ag_57 rfl rfl rfl), rfl⟩⟩, trivial⟩
       refine XQ.less (st' := ⟨[(2, .v (.one (.ptr 1 0))), (4, .v (.one (.ptr 3 0))), (49, .v (.one (.osl 0 0 nn nn))), (50, .v (.one (dI ((nn : Nat) : Int)))), (51, .v (.one (dI s2.1)))], [(0, .cells 48 (flatE a0)), (1, .cells 72 [dN, .d (.v (.map none))]), (2, .mp (gmE o6.1) o6.2), (3, .cells 72 [dA 4 ((s2.2 ++ ([x30])) : List (List Int)), .mp 2]), (5, .cells 48 (cE x20))], [(4, some ⟨54, 1, (Enc.encL ((s2.2 ++ ([x30])) : List (List Int))).length, []⟩), (7, some ⟨3, 1, (Enc.encL x30).length, []⟩)], 8, 88, []⟩) (stle (tR rfl (tR rfl (tR rfl (tR rfl (tR rfl tZ))))) (hR rfl (hR rfl (hR rfl (hR rfl (hR rfl hZ))))) (kR rfl (kR rfl kZ)) rfl (Nat.le_trans hv1 (lb rfl)) rfl rfl rfl (bF rfl (bB rfl rfl (bG rfl (bB rfl rfl (bB rfl rfl bZ))))) rfl rfl) <| XQ.inBlock <| XQ.seq <| XC.region <| rR rfl rfl rfl (RO.binInt rfl rfl rfl) <| rM rfl rfl rfl <| XL.nil ?_
       have e_ := Option.some.inj h2
       subst e_
       refine XQ.nextM ((w64 (s2.1 + 1)), (s2.2 ++ ([x30]))) (stle (tR rfl (tR rfl (tR rfl (tR rfl (tR rfl tZ))))) (hR rfl (hR rfl (hR rfl (hR rfl hZ)))) (kR rfl kZ) rfl (Nat.le_trans hv1 (lb rfl)) rfl rfl rfl (bF rfl (bB rfl rfl (bG rfl (bB rfl rfl bZ)))) rfl rfl) ho2
     ·
      replace h2 := condF c19 h2
      refine XC.exit <| XQ.thenE <| XQ.thenE ?_
      have e_ := Option.some.inj h2
      subst e_
      have e_ : _ = _ := ho2
      subst e_
      exact XQ.joinX s2.2 (stle (tR rfl (tR rfl tZ)) (hR rfl (hR rfl (hR rfl (hR rfl hZ)))) (kR rfl kZ) rfl (Nat.le_trans hv1 (lb rfl)) rfl rfl rfl (bF rfl (bB rfl rfl (bG rfl (bB rfl rfl bZ)))) rfl rfl) h1
    ·
     intro o17 h1
     refine XQ.blockX <| XQ.seq <| XC.seq <| XC.region <| rR rfl rfl rfl (RO.loadOwnAgg ag_72 rfl rfl rfl rfl) <| XL.eff rfl rfl (OpOK.store ag_72 rfl rfl rfl rfl (lb rfl) rfl) <| rA rfl rfl rfl <| XL.nil <| XQ.seq <| XC.ret ?_
     have e_ := Option.some.inj h1
     subst e_
     exact hQ1 _ _ _ (.inr rfl) rfl (show StLe _ _ ⟨[(2, .v (.one (.ptr 1 0))), (3, .v (.one (dI 0)))], [(0, .cells 48 (flatE a0)), (1, .cells 72 [dA 4 o17, .mp 2]), (2, .mp (gmE o6.1) o6.2)], [(4, some ⟨54, 1, (Enc.encL o17).length, []⟩)], 5, 88, []⟩ from (stle (tR rfl (tR rfl tZ)) (hR rfl (hR rfl (hR rfl hZ))) (kR rfl kZ) rfl (Nat.le_trans hv1 (lb rfl)) rfl rfl rfl (bF rfl (bB rfl rfl (bG rfl bZ))) rfl rfl))
  refine sumK (C := fun q_ => CallM Try.prog 34 [.one (.osl 0 0 nn nn)] ⟨[(0, .cells 48 (flatE a0))], [], 1⟩ (resOf (((Sum.elim (fun (y1 : (List (List Int)) × (GMap Bs Int)) => ([.agg [dA 4 y1.1, .mp 2], .one (dI 0)] : List AV)) (Sum.elim (fun (y2 : Unit) => ([.agg [dN, .d (.v (.map none))], .one (dI 8)] : List AV)) (fun (y3 : Unit) => ([.agg [dN, .d (.v (.map none))], .one (dI 9)] : List AV))))) q_)) ⟨(((Sum.elim (fun (y1 : (List (List Int)) × (GMap Bs Int)) => (⟨[(2, .v (.one (.ptr 1 0))), (3, .v (.one (dI 0)))], [(0, .cells 48 (flatE a0)), (1, .cells 72 [dA 4 y1.1, .mp 2]), (2, .mp (gmE y1.2.1) y1.2.2)], [(4, some ⟨54, 1, (Enc.encL y1.1).length, []⟩)], 5, 88, []⟩ : St)) (Sum.elim (fun (y2 : Unit) => (⟨[(2, .v (.one (.ptr 1 0))), (3, .v (.one (dI 8)))], [(0, .cells 48 (flatE a0)), (1, .cells 72 [dN, .d (.v (.map none))])], [], 5, 88, []⟩ : St)) (fun (y3 : Unit) => (⟨[(2, .v (.one (.ptr 1 0))), (3, .v (.one (dI 9)))], [(0, .cells 48 (flatE a0)), (1, .cells 72 [dN, .d (.v (.map none))])], [], 7, 88, []⟩ : St))))) q_).hp, (((Sum.elim (fun (y1 : (List (List Int)) × (GMap Bs Int)) => (⟨[(2, .v (.one (.ptr 1 0))), (3, .v (.one (dI 0)))], [(0, .cells 48 (flatE a0)), (1, .cells 72 [dA 4 y1.1, .mp 2]), (2, .mp (gmE y1.2.1) y1.2.2)], [(4, some ⟨54, 1, (Enc.encL y1.1).length, []⟩)], 5, 88, []⟩ : St)) (Sum.elim (fun (y2 : Unit) => (⟨[(2, .v (.one (.ptr 1 0))), (3, .v (.one (dI 8)))], [(0, .cells 48 (flatE a0)), (1, .cells 72 [dN, .d (.v (.map none))])], [], 5, 88, []⟩ : St)) (fun (y3 : Unit) => (⟨[(2, .v (.one (.ptr 1 0))), (3, .v (.one (dI 9)))], [(0, .cells 48 (flatE a0)), (1, .cells 72 [dN, .d (.v (.map none))])], [], 7, 88, []⟩ : St))))) q_).tk, (((Sum.elim (fun (y1 : (List (List Int)) × (GMap Bs Int)) => (⟨[(2, .v (.one (.ptr 1 0))), (3, .v (.one (dI 0)))], [(0, .cells 48 (flatE a0)), (1, .cells 72 [dA 4 y1.1, .mp 2]), (2, .mp (gmE y1.2.1) y1.2.2)], [(4, some ⟨54, 1, (Enc.encL y1.1).length, []⟩)], 5, 88, []⟩ : St)) (Sum.elim (fun (y2 : Unit) => (⟨[(2, .v (.one (.ptr 1 0))), (3, .v (.one (dI 8)))], [(0, .cells 48 (flatE a0)), (1, .cells 72 [dN, .d (.v (.map none))])], [], 5, 88, []⟩ : St)) (fun (y3 : Unit) => (⟨[(2, .v (.one (.ptr 1 0))), (3, .v (.one (dI 9)))], [(0, .cells 48 (flatE a0)), (1, .cells 72 [dN, .d (.v (.map none))])], [], 7, 88, []⟩ : St))))) q_).nx⟩) hc4 h0 (fun y1 hc4 h0 => ?_) (fun z_ hc4 h0 => sumK (C := fun q_ => CallM Try.prog 34 [.one (.osl 0 0 nn nn)] ⟨[(0, .cells 48 (flatE a0))], [], 1⟩ (resOf (((Sum.elim (fun (y1 : (List (List Int)) × (GMap Bs Int)) => ([.agg [dA 4 y1.1, .mp 2], .one (dI 0)] : List AV)) (Sum.elim (fun (y2 : Unit) => ([.agg [dN, .d (.v (.map none))], .one (dI 8)] : List AV)) (fun (y3 : Unit) => ([.agg [dN, .d (.v (.map none))], .one (dI 9)] : List AV))))) (.inr q_))) ⟨(((Sum.elim (fun (y1 : (List (List Int)) × (GMap Bs Int)) => (⟨[(2, .v (.one (.ptr 1 0))), (3, .v (.one (dI 0)))], [(0, .cells 48 (flatE a0)), (1, .cells 72 [dA 4 y1.1, .mp 2]), (2, .mp (gmE y1.2.1) y1.2.2)], [(4, some ⟨54, 1, (Enc.encL y1.1).length, []⟩)], 5, 88, []⟩ : St)) (Sum.elim (fun (y2 : Unit) => (⟨[(2, .v (.one (.ptr 1 0))), (3, .v (.one (dI 8)))], [(0, .cells 48 (flatE a0)), (1, .cells 72 [dN, .d (.v (.map none))])], [], 5, 88, []⟩ : St)) (fun (y3 : Unit) => (⟨[(2, .v (.one (.ptr 1 0))), (3, .v (.one (dI 9)))], [(0, .cells 48 (flatE a0)), (1, .cells 72 [dN, .d (.v (.map none))])], [], 7, 88, []⟩ : St))))) (.inr q_)).hp, (((Sum.elim (fun (y1 : (List (List Int)) × (GMap Bs Int)) => (⟨[(2, .v (.one (.ptr 1 0))), (3, .v (.one (dI 0)))], [(0, .cells 48 (flatE a0)), (1, .cells 72 [dA 4 y1.1, .mp 2]), (2, .mp (gmE y1.2.1) y1.2.2)], [(4, some ⟨54, 1, (Enc.encL y1.1).length, []⟩)], 5, 88, []⟩ : St)) (Sum.elim (fun (y2 : Unit) => (⟨[(2, .v (.one (.ptr 1 0))), (3, .v (.one (dI 8)))], [(0, .cells 48 (flatE a0)), (1, .cells 72 [dN, .d (.v (.map none))])], [], 5, 88, []⟩ : St)) (fun (y3 : Unit) => (⟨[(2, .v (.one (.ptr 1 0))), (3, .v (.one (dI 9)))], [(0, .cells 48 (flatE a0)), (1, .cells 72 [dN, .d (.v (.map none))])], [], 7, 88, []⟩ : St))))) (.inr q_)).tk, (((Sum.elim (fun (y1 : (List (List Int)) × (GMap Bs Int)) => (⟨[(2, .v (.one (.ptr 1 0))), (3, .v (.one (dI 0)))], [(0, .cells 48 (flatE a0)), (1, .cells 72 [dA 4 y1.1, .mp 2]), (2, .mp (gmE y1.2.1) y1.2.2)], [(4, some ⟨54, 1, (Enc.encL y1.1).length, []⟩)], 5, 88, []⟩ : St)) (Sum.elim (fun (y2 : Unit) => (⟨[(2, .v (.one (.ptr 1 0))), (3, .v (.one (dI 8)))], [(0, .cells 48 (flatE a0)), (1, .cells 72 [dN, .d (.v (.map none))])], [], 5, 88, []⟩ : St)) (fun (y3 : Unit) => (⟨[(2, .v (.one (.ptr 1 0))), (3, .v (.one (dI 9)))], [(0, .cells 48 (flatE a0)), (1, .cells 72 [dN, .d (.v (.map none))])], [], 7, 88, []⟩ : St))))) (.inr q_)).nx⟩) hc4 h0 (fun y2 hc4 h0 => ?_) (fun y3 hc4 h0 => ?_))
  ·
   replace hc4 : CallM Try.prog 34 [.one (.osl 0 0 nn nn)] ⟨[(0, .cells 48 (flatE a0))], [], 1⟩ (resOf [.agg [dA 4 y1.1, .mp 2], .one (dI 0)]) ⟨[(0, .cells 48 (flatE a0)), (1, .cells 72 [dA 4 y1.1, .mp 2]), (2, .mp (gmE y1.2.1) y1.2.2)], [(4, some ⟨54, 1, (Enc.encL y1.1).length, []⟩)], 5⟩ := hc4
   refine XL.put rfl rfl (lb rfl) (OpOK.callW rfl rfl rfl hc4 rfl (hR rfl hZ) kZ) <| rM rfl rfl rfl <| rR rfl rfl rfl (RO.extract rfl rfl) <| rR rfl rfl rfl (RO.extract rfl rfl) <| XL.put rfl rfl (lb rfl) (OpOK.alloc z_72 rfl) <| XL.eff rfl rfl (OpOK.store ag_72 rfl rfl rfl rfl (lb rfl) rfl) <| rA rfl rfl rfl <| XL.nil <| XQ.seq <| XC.seq <| XC.seq <| XC.region <| rM rfl rfl rfl <| rR rfl rfl rfl (RO.binInt rfl rfl rfl) ?_
   refine XL.nil <| XQ.seq ?_
   refine XC.cond rfl (fun h => nomatch h) (fun _ => ?_)
   refine XC.skip <| XQ.seq <| XC.seq <| XC.region <| rA rfl rfl rfl <| XL.nil <| XQ.seq <| XC.seq <| XC.region <| rM rfl rfl rfl <| rR rfl rfl rfl (RO.lenOsl sl_22 rfl) ?_
   refine guardK h0 (fun g32 h0 => ?_)
   refine XL.put rfl rfl (lb rfl) (OpOK.makeO (α := Bool) (z := false) sl_75 z_4 rfl rfl el_4 rfl rfl g32 rfl (by repeat (first | exact CLs.nil | refine CLs.cons (by first | exact .refl _ | exact .sub (.app _ _ _) | exact .sub (.nil _)) ?_))) ?_
   refine XL.put rfl rfl (lb rfl) (OpOK.alloc z_75 rfl) <| XL.eff rfl rfl (OpOK.store ag_75 rfl rfl rfl rfl (lb rfl) rfl) <| XL.nil <| XQ.seq <| XC.seq <| XC.block ?_
   refine XC.joinX 0 (fun (o33 : (List Int) × (List Bool)) => ⟨[(6, .v (.one (dA 8 o33.1)))], [(0, .cells 48 (flatE a0)), (1, .cells 72 [dA 4 y1.1, .mp 2]), (2, .mp (gmE y1.2.1) y1.2.2), (5, .cells 72 [dA 4 y1.1, .mp 2]), (6, .cells 4 (flatE o33.2)), (7, .cells 75 [.osl 6 0 (((nn : Nat) : Int).toNat) (((nn : Nat) : Int).toNat)])], [(4, some ⟨54, 1, (Enc.encL y1.1).length, []⟩), (8, some ⟨3, 1, (Enc.encL o33.1).length, []⟩)], 9, 58, []⟩) (fun (o33 : (List Int) × (List Bool)) => (some (o33.1, 0)) = some r) ?_ ?_
   ·
    refine XC.adoptT (t := 6) 3 1 rfl ?_
    refine bindK h0 (fun o34 hl1 h0 => ?_)
    refine XC.loopM (m22o_l5 nn y1) (fun s1 => ⟨[(0, .v (.one (.osl 0 0 nn nn))), (4, .v (.one (.ptr 5 0))), (6, .v (.one (dA 8 s1.1))), (7, .v (.one (.ptr 7 0)))], [(0, .cells 48 (flatE a0)), (1, .cells 72 [dA 4 y1.1, .mp 2]), (2, .mp (gmE y1.2.1) y1.2.2), (5, .cells 72 [dA 4 y1.1, .mp 2]), (6, .cells 4 (flatE s1.2)), (7, .cells 75 [.osl 6 0 (((nn : Nat) : Int).toNat) (((nn : Nat) : Int).toNat)])], [(4, some ⟨54, 1, (Enc.encL y1.1).length, []⟩), (8, some ⟨3, 1, (Enc.encL s1.1).length, []⟩)], 9, 58, []⟩) (([] : List Int), (List.replicate ((nn : Nat) : Int).toNat false)) o34 (stle (tR rfl (tR rfl (tR rfl (tR rfl tZ)))) (hR rfl (hR rfl (hR rfl (hR rfl (hR rfl (hR rfl hZ)))))) (kR rfl (kR rfl kZ)) rfl (Nat.le_trans hv0 (lb rfl)) rfl rfl rfl (bF rfl (bB rfl rfl (bG rfl (bB rfl rfl (bF rfl (bB rfl rfl bZ)))))) rfl rfl) hl1 (fun s1 n1 oo1 h1 ho1 => ?_)
    unfold m22o_l5 at h1
    refine XC.seq <| XC.seq <| XC.region <| rM rfl rfl rfl <| rR rfl rfl rfl (RO.lenE (α := Int) sl_54 rfl (.app _ _)) <| rM rfl rfl rfl <| rR rfl rfl rfl (RO.lenOsl sl_22 rfl) <| rR rfl rfl rfl (RO.binInt rfl rfl rfl) <| XL.nil <| XQ.seq ?_
    refine XC.cond (b := (decide ((s1.1.length : Int) < ((nn : Nat) : Int)))) rfl (fun c35 => ?_) (fun c35 => ?_)
    ·
     replace h1 := condT c35 h1
     refine XC.skip <| XQ.seq <| XC.block <| XC.seq <| XC.region <| rA rfl rfl rfl <| XL.nil <| XQ.seq <| XC.seq <| XC.seq <| XC.region <| rR rfl rfl rfl (RO.fieldOwn fo_72_0 rfl) <| rR rfl rfl rfl (RO.loadOwn ag_57 rfl rfl rfl) <| rR rfl rfl rfl (RO.lenE (α := List Int) sl_57 rfl (.app _ _)) ?_
     refine rM rfl rfl rfl <| XL.nil <| XQ.seq <| XC.block ?_
     refine XC.joinX 2 (fun (o36 : Int) => ⟨[(0, .v (.one (.osl 0 0 nn nn))), (4, .v (.one (.ptr 5 0))), (6, .v (.one (dA 8 s1.1))), (7, .v (.one (.ptr 7 0))), (8, .v (.one (dI o36)))], [(0, .cells 48 (flatE a0)), (1, .cells 72 [dA 4 y1.1, .mp 2]), (2, .mp (gmE y1.2.1) y1.2.2), (5, .cells 72 [dA 4 y1.1, .mp 2]), (6, .cells 4 (flatE s1.2)), (7, .cells 75 [.osl 6 0 (((nn : Nat) : Int).toNat) (((nn : Nat) : Int).toNat)])], [(4, some ⟨54, 1, (Enc.encL y1.1).length, []⟩), (8, some ⟨3, 1, (Enc.encL s1.1).length, []⟩)], 9, 58, []⟩) (fun (o36 : Int) => (cond (decide (o36 < 0))
         (some (.done (.inr (([] : List Int), 22))))
         (Option.bind (idx s1.2 o36) fun (x38 : Bool) =>
       guardO (Nat.beq s1.2.length (((nn : Nat) : Int).toNat))
       (guardO (Nat.ble (s1.1.length + ([o36]).length) 1000000000)
       (some (.next ((s1.1 ++ ([o36])), (s1.2.set o36.toNat true))))))) = some oo1) ?_ ?_
     ·
      refine bindK h1 (fun o37 hl2 h1 => ?_)
      refine XC.loopM (m22o_l4 y1 s1 nn) (fun s2 => ⟨[(0, .v (.one (.osl 0 0 nn nn))), (4, .v (.one (.ptr 5 0))), (6, .v (.one (dA 8 s1.1))), (7, .v (.one (.ptr 7 0))), (8, .v (.one (dI (-1)))), (28, .v (.one (dA 4 y1.1))), (29, .v (.one (dI (y1.1.length : Int)))), (30, .v (.one (dI s2)))], [(0, .cells 48 (flatE a0)), (1, .cells 72 [dA 4 y1.1, .mp 2]), (2, .mp (gmE y1.2.1) y1.2.2), (5, .cells 72 [dA 4 y1.1, .mp 2]), (6, .cells 4 (flatE s1.2)), (7, .cells 75 [.osl 6 0 (((nn : Nat) : Int).toNat) (((nn : Nat) : Int).toNat)])], [(4, some ⟨54, 1, (Enc.encL y1.1).length, []⟩), (8, some ⟨3, 1, (Enc.encL s1.1).length, []⟩)], 9, 58, []⟩) 0 o37 (stle (tR rfl (tR rfl (tR rfl (tR rfl (tR rfl (tR rfl (tR rfl (tR rfl tZ)))))))) (hR rfl (hR rfl (hR rfl (hR rfl (hR rfl (hR rfl hZ)))))) (kR rfl (kR rfl kZ)) rfl (Nat.le_trans hv0 (lb rfl)) rfl rfl rfl (bF rfl (bB rfl rfl (bG rfl (bB rfl rfl (bF rfl (bB rfl rfl bZ)))))) rfl rfl) hl2 (fun s2 n2 oo2 h2 ho2 => ?_)
      unfold m22o_l4 at h2
      refine XC.seq <| XC.region <| rR rfl rfl rfl (RO.binInt rfl rfl rfl) <| XL.nil <| XQ.seq <| XC.seq ?_
      refine XC.cond (b := (decide (s2 < (y1.1.length : Int)))) rfl (fun c38 => ?_) (fun c38 => ?_)
      ·
       replace h2 := condT c38 h2
       refine XC.skip <| XQ.seq <| XC.seq <| XC.block <| XC.seq <| XC.region <| rM rfl rfl rfl ?_
       refine bindK h2 (fun x39 hx39 h2 => ?_)
       refine rR rfl rfl rfl (RO.indexE (α := List Int) sl_57 rfl (.app _ _) rfl hx39) <| rR rfl rfl rfl (RO.loadPel ag_54 rfl rfl) <| rA rfl rfl rfl <| rA rfl rfl rfl <| XL.nil <| XQ.seq <| XC.seq ?_
       refine XC.joinR (fun (v40 : Bool) => ⟨[(0, .v (.one (.osl 0 0 nn nn))), (4, .v (.one (.ptr 5 0))), (6, .v (.one (dA 8 s1.1))), (7, .v (.one (.ptr 7 0))), (8, .v (.one (dI (-1)))), (9, .v (.one (dI s2))), (28, .v (.one (dA 4 y1.1))), (29, .v (.one (dI (y1.1.length : Int)))), (30, .v (.one (dI s2))), (45, .v (.one (dB v40)))], [(0, .cells 48 (flatE a0)), (1, .cells 72 [dA 4 y1.1, .mp 2]), (2, .mp (gmE y1.2.1) y1.2.2), (5, .cells 72 [dA 4 y1.1, .mp 2]), (6, .cells 4 (flatE s1.2)), (7, .cells 75 [.osl 6 0 (((nn : Nat) : Int).toNat) (((nn : Nat) : Int).toNat)])], [(4, some ⟨54, 1, (Enc.encL y1.1).length, []⟩), (8, some ⟨3, 1, (Enc.encL s1.1).length, []⟩)], 9, 58, []⟩) (fun (v40 : Bool) => (cond v40
           (some (.done s2))
           (some (.next (w64 (s2 + 1))))) = some oo2) ?_ ?_
       ·
        refine bindK h2 (fun w3_ h3 h2 => ?_)
        refine XC.region <| rR rfl rfl rfl (RO.loadOwn ag_75 rfl rfl rfl) <| rM rfl rfl rfl ?_
        refine bindK h3 (fun x41 hx41 h3 => ?_)
        refine guardK h3 (fun g42 h3 => ?_)
        refine rR rfl rfl rfl (RO.indexO (α := Bool) sl_75 rfl rfl hx41 g42) <| rR rfl rfl rfl (RO.loadOF (α := Bool) (m := s2) (f := 0) ag_4 rfl rfl hx41 rfl) <| rR rfl rfl rfl (RO.not rfl) <| rM rfl rfl rfl ?_
        refine XL.case (d := 40) (c := (!x41)) rfl (fun c43 => ?_) (fun c43 => ?_)
        ·
         replace h3 := condT c43 h3
         refine rM rfl rfl rfl <| rR rfl rfl rfl (RO.makeFunc1 rfl) ?_
         refine bindK h3 (fun x44 hx44 h3 => ?_)
         refine XL.put rfl rfl (lb rfl) (OpOK.callG (hp1' := [(7, .cells 75 [.osl 6 0 (((nn : Nat) : Int).toNat) (((nn : Nat) : Int).toNat)]), (6, .cells 4 (flatE s1.2))]) (tk1' := []) (hpF := [(0, .cells 48 (flatE a0)), (1, .cells 72 [dA 4 y1.1, .mp 2]), (2, .mp (gmE y1.2.1) y1.2.2), (5, .cells 72 [dA 4 y1.1, .mp 2])]) (tkF := [(4, some ⟨54, 1, (Enc.encL y1.1).length, []⟩), (8, some ⟨3, 1, (Enc.encL s1.1).length, []⟩)]) (res2 := resOf [.one (dB x44)]) (nx2 := 9) [7, 6] rfl rfl (m43f5_ok x39 (((nn : Nat) : Int).toNat) s1.2 x44 hx44) rfl rfl (qB rfl rfl (qF rfl qZ)) rfl rfl (gR rfl (gF rfl gZ)) jZ (hR rfl (hR rfl (hR rfl (hR rfl hZ)))) (kR rfl (kR rfl kZ)) rfl rfl rfl rfl rfl (bB rfl rfl (bF rfl bZ)) rfl rfl rfl rfl) <| rR rfl rfl rfl (RO.not rfl) <| rR rfl rfl rfl (RO.pickT rfl rfl) <| XL.nil ?_
         have e_ := Option.some.inj h3
         subst e_
         exact XQ.joinR (!x44) (stle (tR rfl (tR rfl (tR rfl (tR rfl (tR rfl (tR rfl (tR rfl (tR rfl (tR rfl (tR rfl tZ)))))))))) (hR rfl (hR rfl (hR rfl (hR rfl (hR rfl (hR rfl hZ)))))) (kR rfl (kR rfl kZ)) rfl (Nat.le_trans hv0 (lb rfl)) rfl rfl rfl (bF rfl (bB rfl rfl (bG rfl (bB rfl rfl (bF rfl (bB rfl rfl bZ)))))) rfl rfl) h2
        ·
         replace h3 := condF c43 h3
         refine XL.no rfl rfl <| XL.no rfl rfl <| XL.no rfl rfl <| XL.no rfl rfl <| rR rfl rfl rfl (RO.pickF rfl rfl) <| XL.nil ?_
         have e_ := Option.some.inj h3
         subst e_
         exact XQ.joinR false (stle (tR rfl (tR rfl (tR rfl (tR rfl (tR rfl (tR rfl (tR rfl (tR rfl (tR rfl (tR rfl tZ)))))))))) (hR rfl (hR rfl (hR rfl (hR rfl (hR rfl (hR rfl hZ)))))) (kR rfl (kR rfl kZ)) rfl (Nat.le_trans hv0 (lb rfl)) rfl rfl rfl (bF rfl (bB rfl rfl (bG rfl (bB rfl rfl (bF rfl (bB rfl rfl bZ)))))) rfl rfl) h2
       ·
        intro v40 h2
        refine XQ.seq ?_
        refine XC.cond (b := v40) rfl (fun c45 => ?_) (fun c45 => ?_)
        ·
         replace h2 := condT c45 h2
         refine XC.seq <| XC.region <| rM rfl rfl rfl <| rA rfl rfl rfl <| XL.nil <| XQ.seq <| XC.exit ?_
         refine XQ.blockE (by decide) ?_
         refine XQ.thenE <| XQ.thenE ?_
         have e_ := Option.some.inj h2
         subst e_
         have e_ : _ = _ := ho2
         subst e_
         exact XQ.joinX s2 (stle (tR rfl (tR rfl (tR rfl (tR rfl (tR rfl tZ))))) (hR rfl (hR rfl (hR rfl (hR rfl (hR rfl (hR rfl hZ)))))) (kR rfl (kR rfl kZ)) rfl (Nat.le_trans hv0 (lb rfl)) rfl rfl rfl (bF rfl (bB rfl rfl (bG rfl (bB rfl rfl (bF rfl (bB rfl rfl bZ)))))) rfl rfl) h1
        ·
         replace h2 := condF c45 h2
         refine XC.skip <| XQ.inBlock <| XQ.seq <| XC.region <| rR rfl rfl rfl (RO.binInt rfl rfl rfl) <| rM rfl rfl rfl <| XL.nil ?_
         have e_ := Option.some.inj h2
         subst e_
         refine XQ.nextM (w64 (s2 + 1)) (stle (tR rfl (tR rfl (tR rfl (tR rfl (tR rfl (tR rfl (tR rfl (tR rfl tZ)))))))) (hR rfl (hR rfl (hR rfl (hR rfl (hR rfl (hR rfl hZ)))))) (kR rfl (kR rfl kZ)) rfl (Nat.le_trans hv0 (lb rfl)) rfl rfl rfl (bF rfl (bB rfl rfl (bG rfl (bB rfl rfl (bF rfl (bB rfl rfl bZ)))))) rfl rfl) ho2
      ·
       replace h2 := condF c38 h2
       refine XC.exit <| XQ.thenE <| XQ.thenE ?_
       have e_ := Option.some.inj h2
       subst e_
       have e_ : _ = _ := ho2
       subst e_
       exact XQ.joinX (-1) (stle (tR rfl (tR rfl (tR rfl (tR rfl (tR rfl tZ))))) (hR rfl (hR rfl (hR rfl (hR rfl (hR rfl (hR rfl hZ)))))) (kR rfl (kR rfl kZ)) rfl (Nat.le_trans hv0 (lb rfl)) rfl rfl rfl (bF rfl (bB rfl rfl (bG rfl (bB rfl rfl (bF rfl (bB rfl rfl bZ)))))) rfl rfl) h1
     ·
      intro o36 h1
      refine XQ.blockX <| XQ.seq <| XC.seq <| XC.seq <| XC.region <| rM rfl rfl rfl <| rR rfl rfl rfl (RO.binInt rfl rfl rfl) <| XL.nil <| XQ.seq ?_
      refine XC.cond (b := (decide (o36 < 0))) rfl (fun c46 => ?_) (fun c46 => ?_)
      ·
       replace h1 := condT c46 h1
       refine XC.seq <| XC.region <| rA rfl rfl rfl <| rA rfl rfl rfl <| XL.nil <| XQ.seq <| XC.ret ?_
       have e_ := Option.some.inj h1
       subst e_
       have e_ : _ = _ := ho1
       subst e_
       try dsimp only [Sum.elim_inl, Sum.elim_inr] at h0
       have e_ := Option.some.inj h0
       subst e_
       exact hQ0 _ _ _ (.inr rfl) rfl (stle (tC rfl (.sub (.nil _)) (tR rfl tZ)) (hR rfl hZ) kZ rfl (Nat.le_trans hv0 (lb rfl)) rfl rfl rfl (bF rfl bZ) rfl rfl)
      ·
       replace h1 := condF c46 h1
       refine XC.skip <| XQ.seq <| XC.seq <| XC.region <| rR rfl rfl rfl (RO.loadOwn ag_75 rfl rfl rfl) <| rM rfl rfl rfl ?_
       refine bindK h1 (fun x47 hx47 h1 => ?_)
       refine guardK h1 (fun g48 h1 => ?_)
       refine rR rfl rfl rfl (RO.indexO (α := Bool) sl_75 rfl rfl hx47 g48) <| XL.eff rfl rfl (OpOK.storeOE (α := Bool) (y' := .one (dB true)) (v := true) ag_4 rfl rfl (.one (.d _)) rfl rfl hx47 rfl) <| XL.nil <| XQ.seq <| XC.region <| rM rfl rfl rfl <| rM rfl rfl rfl <| XL.put rfl rfl (lb rfl) (OpOK.lit1E (α := Int) (o36) sl_54 z_3 rfl rfl (lb rfl) (lb rfl) rfl rfl (.cons (.d _) .nil) rfl) ?_
       refine guardK h1 (fun g49 h1 => ?_)
       refine XL.put rfl rfl (lb rfl) (OpOK.appendE (α := Int) sl_54 el_3 rfl rfl rfl rfl rfl (.app _ _) g49) <| rA rfl rfl rfl <| XL.nil <| XQ.inBlock ?_
       have e_ := Option.some.inj h1
       subst e_
       refine XQ.nextM ((s1.1 ++ ([o36])), (s1.2.set o36.toNat true)) (stle (tR rfl (tR rfl (tR rfl (tR rfl tZ)))) (hR rfl (hR rfl (hR rfl (hR rfl (hR rfl (hR rfl hZ)))))) (kR rfl (kR rfl kZ)) rfl (Nat.le_trans hv0 (lb rfl)) rfl rfl rfl (bF rfl (bB rfl rfl (bG rfl (bB rfl rfl (bF rfl (bB rfl rfl bZ)))))) rfl rfl) ho1
    ·
     replace h1 := condF c35 h1
     refine XC.exit <| XQ.thenE <| XQ.thenE ?_
     have e_ := Option.some.inj h1
     subst e_
     have e_ : _ = _ := ho1
     subst e_
     exact XQ.joinX (s1.1, s1.2) (stle (tR rfl tZ) (hR rfl (hR rfl (hR rfl (hR rfl (hR rfl (hR rfl hZ)))))) (kR rfl (kR rfl kZ)) rfl (Nat.le_trans hv0 (lb rfl)) rfl rfl rfl (bF rfl (bB rfl rfl (bG rfl (bB rfl rfl (bF rfl (bB rfl rfl bZ)))))) rfl rfl) h0
   ·
    intro o33 h0
    refine XQ.blockX <| XQ.seq <| XC.seq <| XC.region <| rM rfl rfl rfl <| rA rfl rfl rfl <| rA rfl rfl rfl <| XL.nil <| XQ.seq <| XC.ret ?_
    have e_ := Option.some.inj h0
    subst e_
    exact hQ0 _ _ _ (.inr rfl) rfl (stle (tC rfl (.sub (.app _ _ _)) (tR rfl tZ)) (hR rfl hZ) kZ rfl (Nat.le_trans hv0 (lb rfl)) rfl rfl rfl (bF rfl bZ) rfl rfl)
  ·
   replace hc4 : CallM Try.prog 34 [.one (.osl 0 0 nn nn)] ⟨[(0, .cells 48 (flatE a0))], [], 1⟩ (resOf [.agg [dN, .d (.v (.map none))], .one (dI 8)]) ⟨[(0, .cells 48 (flatE a0)), (1, .cells 72 [dN, .d (.v (.map none))])], [], 5⟩ := hc4
   refine XL.put rfl rfl (lb rfl) (OpOK.callW rfl rfl rfl hc4 rfl (hR rfl hZ) kZ) <| rM rfl rfl rfl <| rR rfl rfl rfl (RO.extract rfl rfl) <| rR rfl rfl rfl (RO.extract rfl rfl) <| XL.put rfl rfl (lb rfl) (OpOK.alloc z_72 rfl) <| XL.eff rfl rfl (OpOK.store ag_72 rfl rfl rfl rfl (lb rfl) rfl) <| rA rfl rfl rfl <| XL.nil <| XQ.seq <| XC.seq <| XC.seq <| XC.region <| rM rfl rfl rfl <| rR rfl rfl rfl (RO.binInt rfl rfl rfl) ?_
   refine XL.nil <| XQ.seq ?_
   refine XC.cond rfl (fun _ => ?_) (fun h => nomatch h)
   refine XC.seq <| XC.region <| rM rfl rfl rfl <| rA rfl rfl rfl <| rA rfl rfl rfl <| XL.nil <| XQ.seq <| XC.ret ?_
   have e_ := Option.some.inj h0
   subst e_
   exact hQ0 _ _ _ (.inr rfl) rfl (stle (tC rfl (.sub (.nil _)) (tR rfl tZ)) (hR rfl hZ) kZ rfl (Nat.le_trans hv0 (lb rfl)) rfl rfl rfl (bF rfl bZ) rfl rfl)
  ·
   replace hc4 : CallM Try.prog 34 [.one (.osl 0 0 nn nn)] ⟨[(0, .cells 48 (flatE a0))], [], 1⟩ (resOf [.agg [dN, .d (.v (.map none))], .one (dI 9)]) ⟨[(0, .cells 48 (flatE a0)), (1, .cells 72 [dN, .d (.v (.map none))])], [], 7⟩ := hc4
   refine XL.put rfl rfl (lb rfl) (OpOK.callW rfl rfl rfl hc4 rfl (hR rfl hZ) kZ) <| rM rfl rfl rfl <| rR rfl rfl rfl (RO.extract rfl rfl) <| rR rfl rfl rfl (RO.extract rfl rfl) <| XL.put rfl rfl (lb rfl) (OpOK.alloc z_72 rfl) <| XL.eff rfl rfl (OpOK.store ag_72 rfl rfl rfl rfl (lb rfl) rfl) <| rA rfl rfl rfl <| XL.nil <| XQ.seq <| XC.seq <| XC.seq <| XC.region <| rM rfl rfl rfl <| rR rfl rfl rfl (RO.binInt rfl rfl rfl) ?_
   refine XL.nil <| XQ.seq ?_
   refine XC.cond rfl (fun _ => ?_) (fun h => nomatch h)
   refine XC.seq <| XC.region <| rM rfl rfl rfl <| rA rfl rfl rfl <| rA rfl rfl rfl <| XL.nil <| XQ.seq <| XC.ret ?_
   have e_ := Option.some.inj h0
   subst e_
   exact hQ0 _ _ _ (.inr rfl) rfl (stle (tC rfl (.sub (.nil _)) (tR rfl tZ)) (hR rfl hZ) kZ rfl (Nat.le_trans hv0 (lb rfl)) rfl rfl rfl (bF rfl bZ) rfl rfl)
end Go.Proofs.Ytijcchddnnnmdaa
namespace Go.Proofs.Ytijcchddnnnmdaa
open Go.RowKit Go.Shelf
set_option linter.unusedSimpArgs false
set_option linter.unusedVariables false
theorem ag_106 : tyAgg Try.prog 106 = some (false, 1) := by kernel_rfl
theorem z_106 : tyZero Try.prog 106 = some [.nilFunc] := by kernel_rfl
theorem el_48 : tyElem Try.prog 48 = some (23, 360) := by kernel_rfl
theorem en_15 : Enters Try.prog 15 := enters_of Try.func15 (by kernel_rfl) rfl
theorem en_35 : Enters Try.prog 35 := enters_of Try.func35 (by kernel_rfl) rfl
theorem en_56 : Enters Try.prog 56 := enters_of Try.func56 (by kernel_rfl) rfl
def m56f11_l0 (x6 : List Int) (rc : Int × Nat × (List Bool) × (List (List Int)) → Option ((List Bool))) (a1 : Nat) (a3 : List (List Int)) (s1 : Int × (List Bool)) : Option (LO (Int × (List Bool)) (((List Bool)))) :=
  cond (decide (s1.1 < (x6.length : Int)))
    (Option.bind (idx x6 s1.1) fun (x9 : Int) =>
  Option.bind (rc (x9, a1, s1.2, a3)) fun (x10 : (List Bool)) =>
  some (.next ((w64 (s1.1 + 1)), x10)))
    (some (.done s1.2))
def m56f11s (rc : Int × Nat × (List Bool) × (List (List Int)) → Option ((List Bool))) (a0 : Int) (a1 : Nat) (a2 : List Bool) (a3 : List (List Int)) : Option ((List Bool)) :=
  Option.bind (idx a2 a0) fun (x1 : Bool) =>
  guardO (Nat.beq a2.length a1)
  (cond x1
    (some a2)
    (Option.bind (idx a2 a0) fun (x4 : Bool) =>
  guardO (Nat.beq a2.length a1)
  (Option.bind (idx a3 a0) fun (x6 : List Int) =>
  Option.bind (loopN (m56f11_l0 x6 rc a1 a3) FUEL (0, (a2.set a0.toNat true))) (fun (o7 : (List Bool)) => some o7))))
def m56f11F (rc : Int × Nat × (List Bool) × (List (List Int)) → Option ((List Bool))) (u : Int × Nat × (List Bool) × (List (List Int))) : Option ((List Bool)) := m56f11s rc u.1 u.2.1 u.2.2.1 u.2.2.2
def m56f11 (a0 : Int) (a1 : Nat) (a2 : List Bool) (a3 : List (List Int)) : Option ((List Bool)) := recO m56f11F FUEL (a0, a1, a2, a3)
set_option maxRecDepth 100000 in
set_option maxHeartbeats 2000000 in
theorem m56f11s_ok (rc : Int × Nat × (List Bool) × (List (List Int)) → Option ((List Bool))) (H : ∀ (a0 : Int) (a1 : Nat) (a2 : List Bool) (a3 : List (List Int)) (r : (List Bool)), rc (a0, a1, a2, a3) = some r → CallM Try.prog 56 [.one (dI a0), .one (.ptr 0 0), .one (.ptr 2 0), .one (.ptr 4 0)] ⟨[(0, .cells 75 [.osl 1 0 a1 a1]), (1, .cells 4 (flatE a2)), (2, .cells 57 [dA 3 a3]), (4, .cells 106 [.fn 56 [(0, 0), (2, 0), (4, 0)]])], [(3, some ⟨54, 1, (Enc.encL a3).length, []⟩)], 5⟩ (resOf []) ⟨[(0, .cells 75 [.osl 1 0 a1 a1]), (1, .cells 4 (flatE r)), (2, .cells 57 [dA 3 a3]), (4, .cells 106 [.fn 56 [(0, 0), (2, 0), (4, 0)]])], [(3, some ⟨54, 1, (Enc.encL a3).length, []⟩)], 5⟩) (a0 : Int) (a1 : Nat) (a2 : List Bool) (a3 : List (List Int)) (r : (List Bool)) (h0 : m56f11s rc a0 a1 a2 a3 = some r) : CallM Try.prog 56 [.one (dI a0), .one (.ptr 0 0), .one (.ptr 2 0), .one (.ptr 4 0)] ⟨[(0, .cells 75 [.osl 1 0 a1 a1]), (1, .cells 4 (flatE a2)), (2, .cells 57 [dA 3 a3]), (4, .cells 106 [.fn 56 [(0, 0), (2, 0), (4, 0)]])], [(3, some ⟨54, 1, (Enc.encL a3).length, []⟩)], 5⟩ (resOf []) ⟨[(0, .cells 75 [.osl 1 0 a1 a1]), (1, .cells 4 (flatE r)), (2, .cells 57 [dA 3 a3]), (4, .cells 106 [.fn 56 [(0, 0), (2, 0), (4, 0)]])], [(3, some ⟨54, 1, (Enc.encL a3).length, []⟩)], 5⟩ := by
  unfold m56f11s at h0
  refine CallM.of_bodyD ⟨[], [(0, .cells 75 [.osl 1 0 a1 a1]), (1, .cells 4 (flatE r)), (2, .cells 57 [dA 3 a3]), (4, .cells 106 [.fn 56 [(0, 0), (2, 0), (4, 0)]])], [(3, some ⟨54, 1, (Enc.encL a3).length, []⟩)], 5, 27, []⟩ rfl rfl en_56 (lb rfl) rfl .nil (fun w0 M V0 Q hv0 hQ0 => ?_)
  simp only [entry]
  refine XC.seq <| XC.seq <| XC.region <| rR rfl rfl rfl (RO.loadOwn ag_75 rfl rfl rfl) <| rM rfl rfl rfl ?_
  refine bindK h0 (fun x1 hx1 h0 => ?_)
  refine guardK h0 (fun g2 h0 => ?_)
  refine rR rfl rfl rfl (RO.indexO (α := Bool) sl_75 rfl rfl hx1 g2) <| rR rfl rfl rfl (RO.loadOF (α := Bool) (m := a0) (f := 0) ag_4 rfl rfl hx1 rfl) <| XL.nil <| XQ.seq ?_
  refine XC.cond (b := x1) rfl (fun c3 => ?_) (fun c3 => ?_)
  ·
   replace h0 := condT c3 h0
   refine XC.ret ?_
   have e_ := Option.some.inj h0
   subst e_
   exact hQ0 _ _ _ (.inr rfl) rfl (stle tZ (hR rfl (hR rfl (hR rfl (hR rfl hZ)))) (kR rfl kZ) rfl (Nat.le_trans hv0 (lb rfl)) rfl rfl rfl (bB rfl rfl (bF rfl (bB rfl rfl (bB rfl rfl bZ)))) rfl rfl)
  ·
   replace h0 := condF c3 h0
   refine XC.skip <| XQ.seq <| XC.seq <| XC.region <| rR rfl rfl rfl (RO.loadOwn ag_75 rfl rfl rfl) <| rM rfl rfl rfl ?_
   refine bindK h0 (fun x4 hx4 h0 => ?_)
   refine guardK h0 (fun g5 h0 => ?_)
   refine rR rfl rfl rfl (RO.indexO (α := Bool) sl_75 rfl rfl hx4 g5) <| XL.eff rfl rfl (OpOK.storeOE (α := Bool) (y' := .one (dB true)) (v := true) ag_4 rfl rfl (.one (.d _)) rfl rfl hx4 rfl) <| XL.nil <| XQ.seq <| XC.seq <| XC.region <| rR rfl rfl rfl (RO.loadOwn ag_57 rfl rfl rfl) <| rM rfl rfl rfl ?_
   refine bindK h0 (fun x6 hx6 h0 => ?_)
   refine rR rfl rfl rfl (RO.indexE (α := List Int) sl_57 rfl (.app _ _) rfl hx6) <| rR rfl rfl rfl (RO.loadPel ag_54 rfl rfl) <| rR rfl rfl rfl (RO.lenE (α := Int) sl_54 rfl (.d _)) <| rM rfl rfl rfl <| XL.nil <| XQ.seq <| XC.block ?_
   refine XC.joinX 0 (fun (o7 : (List Bool)) => ⟨[], [(0, .cells 75 [.osl 1 0 a1 a1]), (1, .cells 4 (flatE o7)), (2, .cells 57 [dA 3 a3]), (4, .cells 106 [.fn 56 [(0, 0), (2, 0), (4, 0)]])], [(3, some ⟨54, 1, (Enc.encL a3).length, []⟩)], 5, 27, []⟩) (fun (o7 : (List Bool)) => (some o7) = some r) ?_ ?_
   ·
    refine bindK h0 (fun o8 hl1 h0 => ?_)
    refine XC.loopM (m56f11_l0 x6 rc a1 a3) (fun s1 => ⟨[(3, .v (.one (.ptr 4 0))), (17, .v (.one (dS x6))), (18, .v (.one (dI (x6.length : Int)))), (19, .v (.one (dI s1.1)))], [(0, .cells 75 [.osl 1 0 a1 a1]), (1, .cells 4 (flatE s1.2)), (2, .cells 57 [dA 3 a3]), (4, .cells 106 [.fn 56 [(0, 0), (2, 0), (4, 0)]])], [(3, some ⟨54, 1, (Enc.encL a3).length, []⟩)], 5, 27, []⟩) (0, (a2.set a0.toNat true)) o8 (stle (tR rfl (tR rfl (tR rfl (tR rfl tZ)))) (hR rfl (hR rfl (hR rfl (hR rfl hZ)))) (kR rfl kZ) rfl (Nat.le_trans hv0 (lb rfl)) rfl rfl rfl (bB rfl rfl (bF rfl (bB rfl rfl (bB rfl rfl bZ)))) rfl rfl) hl1 (fun s1 n1 oo1 h1 ho1 => ?_)
    unfold m56f11_l0 at h1
    refine XC.seq <| XC.region <| rR rfl rfl rfl (RO.binInt rfl rfl rfl) <| XL.nil <| XQ.seq <| XC.seq ?_
    refine XC.cond (b := (decide (s1.1 < (x6.length : Int)))) rfl (fun c9 => ?_) (fun c9 => ?_)
    ·
     replace h1 := condT c9 h1
     refine XC.skip <| XQ.seq <| XC.seq <| XC.block <| XC.seq <| XC.region ?_
     refine bindK h1 (fun x10 hx10 h1 => ?_)
     refine rR rfl rfl rfl (RO.indexE (α := Int) sl_54 rfl (.d _) rfl hx10) <| rR rfl rfl rfl (RO.loadPel ag_3 rfl rfl) <| rA rfl rfl rfl <| XL.nil <| XQ.seq <| XC.region <| rR rfl rfl rfl (RO.loadOwn ag_106 rfl rfl rfl) <| rM rfl rfl rfl ?_
     refine bindK h1 (fun x11 hx11 h1 => ?_)
     refine XL.put rfl rfl (lb rfl) (OpOK.callG (hp1' := [(0, .cells 75 [.osl 1 0 a1 a1]), (1, .cells 4 (flatE x11)), (2, .cells 57 [dA 3 a3]), (4, .cells 106 [.fn 56 [(0, 0), (2, 0), (4, 0)]])]) (tk1' := [(3, some ⟨54, 1, (Enc.encL a3).length, []⟩)]) (hpF := []) (tkF := []) (res2 := resOf []) (nx2 := 5) [0, 1, 2, 3, 4] rfl rfl (H x10 a1 s1.2 a3 x11 hx11) rfl rfl (qB rfl rfl (qF rfl (qB rfl rfl (qB rfl rfl qZ)))) rfl rfl (gR rfl (gF rfl (gR rfl (gR rfl gZ)))) (jR rfl jZ) hZ kZ rfl rfl rfl rfl rfl (bB rfl rfl (bF rfl (bB rfl rfl (bB rfl rfl bZ)))) rfl rfl rfl rfl) <| XL.nil <| XQ.inBlock <| XQ.seq <| XC.region <| rR rfl rfl rfl (RO.binInt rfl rfl rfl) <| rM rfl rfl rfl <| XL.nil ?_
     have e_ := Option.some.inj h1
     subst e_
     refine XQ.nextM ((w64 (s1.1 + 1)), x11) (stle (tR rfl (tR rfl (tR rfl (tR rfl tZ)))) (hR rfl (hR rfl (hR rfl (hR rfl hZ)))) (kR rfl kZ) rfl (Nat.le_trans hv0 (lb rfl)) rfl rfl rfl (bB rfl rfl (bF rfl (bB rfl rfl (bB rfl rfl bZ)))) rfl rfl) ho1
    ·
     replace h1 := condF c9 h1
     refine XC.exit <| XQ.thenE <| XQ.thenE ?_
     have e_ := Option.some.inj h1
     subst e_
     have e_ : _ = _ := ho1
     subst e_
     exact XQ.joinX s1.2 (stle tZ (hR rfl (hR rfl (hR rfl (hR rfl hZ)))) (kR rfl kZ) rfl (Nat.le_trans hv0 (lb rfl)) rfl rfl rfl (bB rfl rfl (bF rfl (bB rfl rfl (bB rfl rfl bZ)))) rfl rfl) h0
   ·
    intro o7 h0
    refine XQ.blockX ?_
    have e_ := Option.some.inj h0
    subst e_
    exact hQ0 _ _ _ (.inl rfl) rfl (stle tZ (hR rfl (hR rfl (hR rfl (hR rfl hZ)))) (kR rfl kZ) rfl (Nat.le_trans hv0 (lb rfl)) rfl rfl rfl (bB rfl rfl (bF rfl (bB rfl rfl (bB rfl rfl bZ)))) rfl rfl)
theorem m56f11_all (n : Nat) (u : Int × Nat × (List Bool) × (List (List Int))) (r : (List Bool)) (h0 : recO m56f11F n u = some r) : CallM Try.prog 56 [.one (dI u.1), .one (.ptr 0 0), .one (.ptr 2 0), .one (.ptr 4 0)] ⟨[(0, .cells 75 [.osl 1 0 u.2.1 u.2.1]), (1, .cells 4 (flatE u.2.2.1)), (2, .cells 57 [dA 3 u.2.2.2]), (4, .cells 106 [.fn 56 [(0, 0), (2, 0), (4, 0)]])], [(3, some ⟨54, 1, (Enc.encL u.2.2.2).length, []⟩)], 5⟩ (resOf []) ⟨[(0, .cells 75 [.osl 1 0 u.2.1 u.2.1]), (1, .cells 4 (flatE r)), (2, .cells 57 [dA 3 u.2.2.2]), (4, .cells 106 [.fn 56 [(0, 0), (2, 0), (4, 0)]])], [(3, some ⟨54, 1, (Enc.encL u.2.2.2).length, []⟩)], 5⟩ :=
  recO_ind (C := fun u r => CallM Try.prog 56 [.one (dI u.1), .one (.ptr 0 0), .one (.ptr 2 0), .one (.ptr 4 0)] ⟨[(0, .cells 75 [.osl 1 0 u.2.1 u.2.1]), (1, .cells 4 (flatE u.2.2.1)), (2, .cells 57 [dA 3 u.2.2.2]), (4, .cells 106 [.fn 56 [(0, 0), (2, 0), (4, 0)]])], [(3, some ⟨54, 1, (Enc.encL u.2.2.2).length, []⟩)], 5⟩ (resOf []) ⟨[(0, .cells 75 [.osl 1 0 u.2.1 u.2.1]), (1, .cells 4 (flatE r)), (2, .cells 57 [dA 3 u.2.2.2]), (4, .cells 106 [.fn 56 [(0, 0), (2, 0), (4, 0)]])], [(3, some ⟨54, 1, (Enc.encL u.2.2.2).length, []⟩)], 5⟩) (fun rc H u r h => m56f11s_ok rc (fun a0 a1 a2 a3 r h => H (a0, a1, a2, a3) r h) u.1 u.2.1 u.2.2.1 u.2.2.2 r h) n u r h0
theorem m56f11_ok (a0 : Int) (a1 : Nat) (a2 : List Bool) (a3 : List (List Int)) (r : (List Bool)) (h0 : m56f11 a0 a1 a2 a3 = some r) : CallM Try.prog 56 [.one (dI a0), .one (.ptr 0 0), .one (.ptr 2 0), .one (.ptr 4 0)] ⟨[(0, .cells 75 [.osl 1 0 a1 a1]), (1, .cells 4 (flatE a2)), (2, .cells 57 [dA 3 a3]), (4, .cells 106 [.fn 56 [(0, 0), (2, 0), (4, 0)]])], [(3, some ⟨54, 1, (Enc.encL a3).length, []⟩)], 5⟩ (resOf []) ⟨[(0, .cells 75 [.osl 1 0 a1 a1]), (1, .cells 4 (flatE r)), (2, .cells 57 [dA 3 a3]), (4, .cells 106 [.fn 56 [(0, 0), (2, 0), (4, 0)]])], [(3, some ⟨54, 1, (Enc.encL a3).length, []⟩)], 5⟩ := m56f11_all FUEL (a0, a1, a2, a3) r h0
end Go.Proofs.Ytijcchddnnnmdaa
