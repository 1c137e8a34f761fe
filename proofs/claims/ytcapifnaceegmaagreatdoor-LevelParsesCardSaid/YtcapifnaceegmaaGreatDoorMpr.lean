/- Mirrors of layer 1: the reference Parse. -/
import Derived.Test.YtcapifnaceegmaaGreatDoorMa
import Derived.Test.YtcapifnaceegmaaGreatDoorFr
import Derived.Test.YtcapifnaceegmaaGreatDoorFd
import Derived.Test.YtcapifnaceegmaaGreatDoorBy
namespace Go.Proofs.YtcapifnaceegmaaGreatDoor
open Go.RowKit Go.Shelf
set_option linter.unusedSimpArgs false
set_option linter.unusedVariables false

theorem fo_83_0 : fieldOff Tryz.prog 83 0 = some 0 := by kernel_rfl
theorem fo_83_1 : fieldOff Tryz.prog 83 1 = some 1 := by kernel_rfl
theorem fo_83_2 : fieldOff Tryz.prog 83 2 = some 2 := by kernel_rfl
theorem fo_83_3 : fieldOff Tryz.prog 83 3 = some 3 := by kernel_rfl
theorem ag_4 : tyAgg Tryz.prog 4 = some (false, 1) := by kernel_rfl
theorem ag_9 : tyAgg Tryz.prog 9 = some (false, 1) := by kernel_rfl
theorem bd_83 : IsStruct Tryz.prog 83 [(0, 1), (1, 1), (2, 1), (3, 1)] [.string ByteArray.empty, .int .i64 0, .bool false, .int .i64 0] := ⟨by kernel_rfl, by kernel_rfl⟩
theorem ti_3 : tyInt Tryz.prog 3 = some .i64 := by kernel_rfl
theorem ti_5 : tyInt Tryz.prog 5 = some .u8 := by kernel_rfl
theorem st_9 : isStrTy Tryz.prog 9 = true := by kernel_rfl
theorem en_27 : Enters Tryz.prog 27 := enters_of Tryz.func27 (by kernel_rfl) rfl
theorem en_57 : Enters Tryz.prog 57 := enters_of Tryz.func57 (by kernel_rfl) rfl
theorem en_58 : Enters Tryz.prog 58 := enters_of Tryz.func58 (by kernel_rfl) rfl
theorem en_59 : Enters Tryz.prog 59 := enters_of Tryz.func59 (by kernel_rfl) rfl
theorem en_84 : Enters Tryz.prog 84 := enters_of Tryz.func84 (by kernel_rfl) rfl
theorem en_85 : Enters Tryz.prog 85 := enters_of Tryz.func85 (by kernel_rfl) rfl
def m57f8_l0 (a0 : (List UInt8)) (s1 : Int) : Option (LO Int Int) :=
  Option.bind (cond (decide (s1 < (a0.length : Int)))
    (Option.bind (idx a0 s1) fun (x4 : UInt8) =>
  some ((x4.toNat : Int) == 32))
    (some false)) (fun (v2 : Bool) => cond v2
    (some (.next (w64 (s1 + 1))))
    (some (.done s1)))

/-- (*euclid/euclidref01.reader).spaces, in its part of memory -/
def m57f8 (a0 : (List UInt8)) (a1 : Int) (a2 : Bool) (a3 : Int) : Option Int :=
  Option.bind (loopN (m57f8_l0 a0) FUEL a1) (fun (o1 : Int) => some o1)

set_option maxRecDepth 100000 in
set_option maxHeartbeats 8000000 in
theorem m57f8_ok (a0 : (List UInt8)) (a1 : Int) (a2 : Bool) (a3 : Int) (r : Int) (h0 : m57f8 a0 a1 a2 a3 = some r) : CallM Tryz.prog 57 [.one (.ptr 0 0)] ⟨[(0, .cells 83 [dS8 a0, dI a1, dB a2, dI a3])], [], 1⟩ (resOf []) ⟨[(0, .cells 83 [dS8 a0, dI r, dB a2, dI a3])], [], 1⟩ := by
  unfold m57f8 at h0
  refine CallM.of_bodyD ⟨[], [(0, .cells 83 [dS8 a0, dI r, dB a2, dI a3])], [], 1, 31, []⟩ rfl rfl en_57 (lb rfl) rfl .nil (fun w0 M V0 Q hv0 hQ0 => ?_)
  simp only [entry]
  refine XC.block ?_
  refine XC.joinX 0 (fun (o1 : Int) => ⟨[], [(0, .cells 83 [dS8 a0, dI o1, dB a2, dI a3])], [], 1, 31, []⟩) (fun (o1 : Int) => (some o1) = some r) ?_ ?_
  ·
   refine bindK h0 (fun o2 hl1 h0 => ?_)
   refine XC.loopM (m57f8_l0 a0) (fun s1 => ⟨[(0, .v (.one (.ptr 0 0)))], [(0, .cells 83 [dS8 a0, dI s1, dB a2, dI a3])], [], 1, 31, []⟩) a1 o2 (stle (tR rfl tZ) (hR rfl hZ) kZ rfl (Nat.le_trans hv0 (lb rfl)) rfl rfl rfl (bB rfl rfl bZ) rfl rfl) hl1 (fun s1 n1 oo1 h1 ho1 => ?_)
   unfold m57f8_l0 at h1
   refine XC.seq ?_
   refine XC.seq ?_
   refine XC.joinR (fun (v3 : Bool) => ⟨[(0, .v (.one (.ptr 0 0))), (23, .v (.one (dB v3)))], [(0, .cells 83 [dS8 a0, dI s1, dB a2, dI a3])], [], 1, 31, []⟩) (fun (v3 : Bool) => (cond v3
       (some (.next (w64 (s1 + 1))))
       (some (.done s1))) = some oo1) ?_ ?_
   ·
    refine bindK h1 (fun w2_ h2 h1 => ?_)
    refine XC.anyRun [] [] mixed (by kernel_rfl) (by kernel_rfl) (by kernel_rfl) ?_
    refine RunA.rd rfl rfl rfl (OpOK.of_ro (RO.move rfl)) rfl ?_
    refine RunA.rd rfl rfl rfl (OpOK.of_ro (RO.nilCheckPtr rfl)) rfl ?_
    refine RunA.rd rfl rfl rfl (OpOK.of_ro (RO.fieldOwn fo_83_1 rfl)) rfl ?_
    refine RunA.rd rfl rfl rfl (OpOK.of_ro (RO.loadOwn ag_3 rfl rfl rfl)) rfl ?_
    refine RunA.rd rfl rfl rfl (OpOK.of_ro (RO.move rfl)) rfl ?_
    refine RunA.rd rfl rfl rfl (OpOK.of_ro (RO.nilCheckPtr rfl)) rfl ?_
    refine RunA.rd rfl rfl rfl (OpOK.of_ro (RO.fieldOwn fo_83_0 rfl)) rfl ?_
    refine RunA.rd rfl rfl rfl (OpOK.of_ro (RO.loadOwn ag_9 rfl rfl rfl)) rfl ?_
    refine RunA.rd rfl rfl rfl (OpOK.of_ro (RO.lenS st_9 rfl)) rfl ?_
    refine RunA.rd rfl rfl rfl (OpOK.of_ro (RO.binInt rfl rfl rfl)) rfl ?_
    refine RunA.case (c := (decide (s1 < (a0.length : Int)))) rfl rfl rfl (OpOK.of_ro (RO.move rfl)) rfl (fun c4 => ?_) (fun c4 => ?_)
    ·
     replace h2 := condT c4 h2
     refine RunA.rd rfl rfl rfl (OpOK.of_ro (RO.move rfl)) rfl ?_
     refine RunA.rd rfl rfl rfl (OpOK.of_ro (RO.nilCheckPtr rfl)) rfl ?_
     refine RunA.rd rfl rfl rfl (OpOK.of_ro (RO.fieldOwn fo_83_0 rfl)) rfl ?_
     refine RunA.rd rfl rfl rfl (OpOK.of_ro (RO.loadOwn ag_9 rfl rfl rfl)) rfl ?_
     refine RunA.rd rfl rfl rfl (OpOK.of_ro (RO.move rfl)) rfl ?_
     refine RunA.rd rfl rfl rfl (OpOK.of_ro (RO.nilCheckPtr rfl)) rfl ?_
     refine RunA.rd rfl rfl rfl (OpOK.of_ro (RO.fieldOwn fo_83_1 rfl)) rfl ?_
     refine RunA.rd rfl rfl rfl (OpOK.of_ro (RO.loadOwn ag_3 rfl rfl rfl)) rfl ?_
     refine bindK h2 (fun x5 hx5 h2 => ?_)
     refine RunA.rd rfl rfl rfl (OpOK.of_ro (RO.ixS st_9 rfl rfl hx5)) rfl ?_
     refine RunA.rd rfl rfl rfl (OpOK.of_ro (RO.binInt rfl rfl rfl)) rfl ?_
     refine RunA.rd rfl rfl rfl (OpOK.of_ro (RO.pickT rfl rfl)) rfl ?_
     refine RunA.nil ⟨?ex, _, _, rfl, ?_⟩
     case ex => exact trivial
     have e_ := Option.some.inj h2
     subst e_
     exact XQ.joinR ((x5.toNat : Int) == 32) (stle (tR rfl (tR rfl tZ)) (hR rfl hZ) kZ rfl (Nat.le_trans hv0 (lb rfl)) rfl rfl rfl (bB rfl rfl bZ) rfl rfl) h1
    ·
     replace h2 := condF c4 h2
     refine RunA.no rfl rfl rfl rfl ?_
     refine RunA.no rfl rfl rfl rfl ?_
     refine RunA.no rfl rfl rfl rfl ?_
     refine RunA.no rfl rfl rfl rfl ?_
     refine RunA.no rfl rfl rfl rfl ?_
     refine RunA.no rfl rfl rfl rfl ?_
     refine RunA.no rfl rfl rfl rfl ?_
     refine RunA.no rfl rfl rfl rfl ?_
     refine RunA.no rfl rfl rfl rfl ?_
     refine RunA.no rfl rfl rfl rfl ?_
     refine RunA.rd rfl rfl rfl (OpOK.of_ro (RO.pickF rfl rfl)) rfl ?_
     refine RunA.nil ⟨?ex, _, _, rfl, ?_⟩
     case ex => exact trivial
     have e_ := Option.some.inj h2
     subst e_
     exact XQ.joinR false (stle (tR rfl (tR rfl tZ)) (hR rfl hZ) kZ rfl (Nat.le_trans hv0 (lb rfl)) rfl rfl rfl (bB rfl rfl bZ) rfl rfl) h1
   ·
    intro v3 h1
    refine XQ.seq ?_
    refine XC.cond (b := v3) rfl (fun c6 => ?_) (fun c6 => ?_)
    ·
     replace h1 := condT c6 h1
     refine XC.skip ?_
     refine XQ.seq ?_
     refine XC.block ?_
     refine XC.region ?_
     refine XL.rd rfl rfl (lb rfl) (RO.move rfl) ?_
     refine XL.rd rfl rfl (lb rfl) (RO.nilCheckPtr rfl) ?_
     refine XL.rd rfl rfl (lb rfl) (RO.fieldOwn fo_83_1 rfl) ?_
     refine XL.rd rfl rfl (lb rfl) (RO.loadOwn ag_3 rfl rfl rfl) ?_
     refine XL.rd rfl rfl (lb rfl) (RO.binInt rfl rfl rfl) ?_
     refine XL.rd rfl rfl (lb rfl) (RO.nilCheckPtr rfl) ?_
     refine XL.rd rfl rfl (lb rfl) (RO.fieldOwn fo_83_1 rfl) ?_
     refine XL.eff rfl rfl (OpOK.store ag_3 rfl rfl rfl rfl (lb rfl) rfl) ?_
     refine XL.nil ?_
     refine XQ.inBlock ?_
     have e_ := Option.some.inj h1
     subst e_
     refine XQ.nextM (w64 (s1 + 1)) (stle (tR rfl tZ) (hR rfl hZ) kZ rfl (Nat.le_trans hv0 (lb rfl)) rfl rfl rfl (bB rfl rfl bZ) rfl rfl) ho1
    ·
     replace h1 := condF c6 h1
     refine XC.exit ?_
     refine XQ.thenE ?_
     refine XQ.thenE ?_
     have e_ := Option.some.inj h1
     subst e_
     have e_ : _ = _ := ho1
     subst e_
     exact XQ.joinX s1 (stle tZ (hR rfl hZ) kZ rfl (Nat.le_trans hv0 (lb rfl)) rfl rfl rfl (bB rfl rfl bZ) rfl rfl) h0
  ·
   intro o1 h0
   refine XQ.blockX ?_
   have e_ := Option.some.inj h0
   subst e_
   exact hQ0 _ _ _ (.inl rfl) rfl (stle tZ (hR rfl hZ) kZ rfl (Nat.le_trans hv0 (lb rfl)) rfl rfl rfl (bB rfl rfl bZ) rfl rfl)

/-- (*euclid/euclidref01.reader).take, in its part of memory -/
def m58f9 (a0 : Int) (a1 : (List UInt8)) (a2 : Int) (a3 : Bool) (a4 : Int) : Option (Bool × Int) :=
  Option.bind (cond (decide (a2 < (a1.length : Int)))
    (Option.bind (idx a1 a2) fun (x3 : UInt8) =>
  some ((x3.toNat : Int) == a0))
    (some false)) (fun (v1 : Bool) => cond v1
    (some (true, (w64 (a2 + 1))))
    (some (false, a2)))

set_option maxRecDepth 100000 in
set_option maxHeartbeats 8000000 in
theorem m58f9_ok (a0 : Int) (a1 : (List UInt8)) (a2 : Int) (a3 : Bool) (a4 : Int) (r : Bool × Int) (h0 : m58f9 a0 a1 a2 a3 a4 = some r) : CallM Tryz.prog 58 [.one (.ptr 0 0), .one (.d (.v (.int .u8 a0)))] ⟨[(0, .cells 83 [dS8 a1, dI a2, dB a3, dI a4])], [], 1⟩ (resOf [.one (dB r.1)]) ⟨[(0, .cells 83 [dS8 a1, dI r.2, dB a3, dI a4])], [], 1⟩ := by
  unfold m58f9 at h0
  refine CallM.of_bodyD ⟨[(4, .v (.one (dB r.1)))], [(0, .cells 83 [dS8 a1, dI r.2, dB a3, dI a4])], [], 1, 35, []⟩ rfl rfl en_58 (lb rfl) rfl (RAs.tmp rfl .nil) (fun w0 M V0 Q hv0 hQ0 => ?_)
  simp only [entry]
  refine XC.seq ?_
  refine XC.region ?_
  refine XL.rd rfl rfl (lb rfl) (RO.assign rfl) ?_
  refine XL.nil ?_
  refine XQ.seq ?_
  refine XC.seq ?_
  refine XC.seq ?_
  refine XC.joinR (fun (v1 : Bool) => ⟨[(0, .v (.one (.ptr 0 0))), (27, .v (.one (dB v1)))], [(0, .cells 83 [dS8 a1, dI a2, dB a3, dI a4])], [], 1, 35, []⟩) (fun (v1 : Bool) => (cond v1
      (some (true, (w64 (a2 + 1))))
      (some (false, a2))) = some r) ?_ ?_
  ·
   refine bindK h0 (fun w1_ h1 h0 => ?_)
   refine XC.anyRun [] [] mixed (by kernel_rfl) (by kernel_rfl) (by kernel_rfl) ?_
   refine RunA.rd rfl rfl rfl (OpOK.of_ro (RO.move rfl)) rfl ?_
   refine RunA.rd rfl rfl rfl (OpOK.of_ro (RO.nilCheckPtr rfl)) rfl ?_
   refine RunA.rd rfl rfl rfl (OpOK.of_ro (RO.fieldOwn fo_83_1 rfl)) rfl ?_
   refine RunA.rd rfl rfl rfl (OpOK.of_ro (RO.loadOwn ag_3 rfl rfl rfl)) rfl ?_
   refine RunA.rd rfl rfl rfl (OpOK.of_ro (RO.move rfl)) rfl ?_
   refine RunA.rd rfl rfl rfl (OpOK.of_ro (RO.nilCheckPtr rfl)) rfl ?_
   refine RunA.rd rfl rfl rfl (OpOK.of_ro (RO.fieldOwn fo_83_0 rfl)) rfl ?_
   refine RunA.rd rfl rfl rfl (OpOK.of_ro (RO.loadOwn ag_9 rfl rfl rfl)) rfl ?_
   refine RunA.rd rfl rfl rfl (OpOK.of_ro (RO.lenS st_9 rfl)) rfl ?_
   refine RunA.rd rfl rfl rfl (OpOK.of_ro (RO.binInt rfl rfl rfl)) rfl ?_
   refine RunA.case (c := (decide (a2 < (a1.length : Int)))) rfl rfl rfl (OpOK.of_ro (RO.move rfl)) rfl (fun c2 => ?_) (fun c2 => ?_)
   ·
    replace h1 := condT c2 h1
    refine RunA.rd rfl rfl rfl (OpOK.of_ro (RO.move rfl)) rfl ?_
    refine RunA.rd rfl rfl rfl (OpOK.of_ro (RO.nilCheckPtr rfl)) rfl ?_
    refine RunA.rd rfl rfl rfl (OpOK.of_ro (RO.fieldOwn fo_83_0 rfl)) rfl ?_
    refine RunA.rd rfl rfl rfl (OpOK.of_ro (RO.loadOwn ag_9 rfl rfl rfl)) rfl ?_
    refine RunA.rd rfl rfl rfl (OpOK.of_ro (RO.move rfl)) rfl ?_
    refine RunA.rd rfl rfl rfl (OpOK.of_ro (RO.nilCheckPtr rfl)) rfl ?_
    refine RunA.rd rfl rfl rfl (OpOK.of_ro (RO.fieldOwn fo_83_1 rfl)) rfl ?_
    refine RunA.rd rfl rfl rfl (OpOK.of_ro (RO.loadOwn ag_3 rfl rfl rfl)) rfl ?_
    refine bindK h1 (fun x3 hx3 h1 => ?_)
    refine RunA.rd rfl rfl rfl (OpOK.of_ro (RO.ixS st_9 rfl rfl hx3)) rfl ?_
    refine RunA.rd rfl rfl rfl (OpOK.of_ro (RO.move rfl)) rfl ?_
    refine RunA.rd rfl rfl rfl (OpOK.of_ro (RO.binInt rfl rfl rfl)) rfl ?_
    refine RunA.rd rfl rfl rfl (OpOK.of_ro (RO.pickT rfl rfl)) rfl ?_
    refine RunA.nil ⟨?ex, _, _, rfl, ?_⟩
    case ex => exact trivial
    have e_ := Option.some.inj h1
    subst e_
    exact XQ.joinR ((x3.toNat : Int) == a0) (stle (tR rfl (tR rfl tZ)) (hR rfl hZ) kZ rfl (Nat.le_trans hv0 (lb rfl)) rfl rfl rfl (bB rfl rfl bZ) rfl rfl) h0
   ·
    replace h1 := condF c2 h1
    refine RunA.no rfl rfl rfl rfl ?_
    refine RunA.no rfl rfl rfl rfl ?_
    refine RunA.no rfl rfl rfl rfl ?_
    refine RunA.no rfl rfl rfl rfl ?_
    refine RunA.no rfl rfl rfl rfl ?_
    refine RunA.no rfl rfl rfl rfl ?_
    refine RunA.no rfl rfl rfl rfl ?_
    refine RunA.no rfl rfl rfl rfl ?_
    refine RunA.no rfl rfl rfl rfl ?_
    refine RunA.no rfl rfl rfl rfl ?_
    refine RunA.no rfl rfl rfl rfl ?_
    refine RunA.rd rfl rfl rfl (OpOK.of_ro (RO.pickF rfl rfl)) rfl ?_
    refine RunA.nil ⟨?ex, _, _, rfl, ?_⟩
    case ex => exact trivial
    have e_ := Option.some.inj h1
    subst e_
    exact XQ.joinR false (stle (tR rfl (tR rfl tZ)) (hR rfl hZ) kZ rfl (Nat.le_trans hv0 (lb rfl)) rfl rfl rfl (bB rfl rfl bZ) rfl rfl) h0
  ·
   intro v1 h0
   refine XQ.seq ?_
   refine XC.cond (b := v1) rfl (fun c4 => ?_) (fun c4 => ?_)
   ·
    replace h0 := condT c4 h0
    refine XC.seq ?_
    refine XC.region ?_
    refine XL.rd rfl rfl (lb rfl) (RO.move rfl) ?_
    refine XL.rd rfl rfl (lb rfl) (RO.nilCheckPtr rfl) ?_
    refine XL.rd rfl rfl (lb rfl) (RO.fieldOwn fo_83_1 rfl) ?_
    refine XL.rd rfl rfl (lb rfl) (RO.loadOwn ag_3 rfl rfl rfl) ?_
    refine XL.rd rfl rfl (lb rfl) (RO.binInt rfl rfl rfl) ?_
    refine XL.rd rfl rfl (lb rfl) (RO.nilCheckPtr rfl) ?_
    refine XL.rd rfl rfl (lb rfl) (RO.fieldOwn fo_83_1 rfl) ?_
    refine XL.eff rfl rfl (OpOK.store ag_3 rfl rfl rfl rfl (lb rfl) rfl) ?_
    refine XL.nil ?_
    refine XQ.seq ?_
    refine XC.seq ?_
    refine XC.region ?_
    refine XL.rd rfl rfl (lb rfl) (RO.assign rfl) ?_
    refine XL.nil ?_
    refine XQ.seq ?_
    refine XC.ret ?_
    have e_ := Option.some.inj h0
    subst e_
    exact hQ0 _ _ _ (.inr rfl) rfl (stle (tR rfl tZ) (hR rfl hZ) kZ rfl (Nat.le_trans hv0 (lb rfl)) rfl rfl rfl (bB rfl rfl bZ) rfl rfl)
   ·
    replace h0 := condF c4 h0
    refine XC.skip ?_
    refine XQ.seq ?_
    refine XC.seq ?_
    refine XC.region ?_
    refine XL.rd rfl rfl (lb rfl) (RO.assign rfl) ?_
    refine XL.nil ?_
    refine XQ.seq ?_
    refine XC.ret ?_
    have e_ := Option.some.inj h0
    subst e_
    exact hQ0 _ _ _ (.inr rfl) rfl (stle (tR rfl tZ) (hR rfl hZ) kZ rfl (Nat.le_trans hv0 (lb rfl)) rfl rfl rfl (bB rfl rfl bZ) rfl rfl)

def m84f11_l0 (a0 : (List UInt8)) (a1 : Int) (s1 : Int × Int) : Option (LO (Int × Int) ((Int × Int))) :=
  Option.bind (cond (decide (s1.2 < (a0.length : Int)))
    (Option.bind (idx a0 s1.2) fun (x4 : UInt8) =>
  cond (decide (48 ≤ (x4.toNat : Int)))
    (Option.bind (idx a0 s1.2) fun (x6 : UInt8) =>
  cond (decide ((x6.toNat : Int) ≤ 57))
    (some (decide ((w64 (s1.2 - a1)) ≤ 6)))
    (some false))
    (some false))
    (some false)) (fun (v2 : Bool) => cond v2
    (Option.bind (idx a0 s1.2) fun (x4 : UInt8) =>
  some (.next ((w64 ((w64 (10 * s1.1)) + (w64 (IntKind.wrap .u8 ((x4.toNat : Int) - 48))))), (w64 (s1.2 + 1)))))
    (some (.done (s1.1, s1.2))))

/-- (*euclid/euclidref01.reader).number, in its part of memory -/
def m84f11 (a0 : (List UInt8)) (a1 : Int) (a2 : Bool) (a3 : Int) : Option (Int × Int × Bool) :=
  Option.bind (loopN (m84f11_l0 a0 a1) FUEL (0, a1)) (fun (o1 : Int × Int) => Option.bind (cond (o1.2 == a1)
    (some true)
    (cond (decide (6 < (w64 (o1.2 - a1))))
    (some true)
    (Option.bind (idx a0 a1) fun (x5 : UInt8) =>
  cond ((x5.toNat : Int) == 48)
    (some (decide (1 < (w64 (o1.2 - a1)))))
    (some false)))) (fun (v2 : Bool) => cond v2
    (some (o1.1, o1.2, true))
    (some (o1.1, o1.2, a2))))

set_option maxRecDepth 100000 in
set_option maxHeartbeats 8000000 in
theorem m84f11_ok (a0 : (List UInt8)) (a1 : Int) (a2 : Bool) (a3 : Int) (r : Int × Int × Bool) (h0 : m84f11 a0 a1 a2 a3 = some r) : CallM Tryz.prog 84 [.one (.ptr 0 0)] ⟨[(0, .cells 83 [dS8 a0, dI a1, dB a2, dI a3])], [], 1⟩ (resOf [.one (dI r.1)]) ⟨[(0, .cells 83 [dS8 a0, dI r.2.1, dB r.2.2, dI a3])], [], 1⟩ := by
  unfold m84f11 at h0
  refine CallM.of_bodyD ⟨[(2, .v (.one (dI r.1)))], [(0, .cells 83 [dS8 a0, dI r.2.1, dB r.2.2, dI a3])], [], 1, 110, []⟩ rfl rfl en_84 (lb rfl) rfl (RAs.tmp rfl .nil) (fun w0 M V0 Q hv0 hQ0 => ?_)
  simp only [entry]
  refine XC.seq ?_
  refine XC.region ?_
  refine XL.rd rfl rfl (lb rfl) (RO.assign rfl) ?_
  refine XL.nil ?_
  refine XQ.seq ?_
  refine XC.seq ?_
  refine XC.region ?_
  refine XL.rd rfl rfl (lb rfl) (RO.move rfl) ?_
  refine XL.rd rfl rfl (lb rfl) (RO.nilCheckPtr rfl) ?_
  refine XL.rd rfl rfl (lb rfl) (RO.fieldOwn fo_83_1 rfl) ?_
  refine XL.rd rfl rfl (lb rfl) (RO.loadOwn ag_3 rfl rfl rfl) ?_
  refine XL.rd rfl rfl (lb rfl) (RO.assign rfl) ?_
  refine XL.nil ?_
  refine XQ.seq ?_
  refine XC.seq ?_
  refine XC.region ?_
  refine XL.rd rfl rfl (lb rfl) (RO.assign rfl) ?_
  refine XL.nil ?_
  refine XQ.seq ?_
  refine XC.seq ?_
  refine XC.block ?_
  refine XC.joinX 0 (fun (o1 : Int × Int) => ⟨[(0, .v (.one (.ptr 0 0))), (3, .v (.one (dI a1))), (4, .v (.one (dI o1.1)))], [(0, .cells 83 [dS8 a0, dI o1.2, dB a2, dI a3])], [], 1, 110, []⟩) (fun (o1 : Int × Int) => (Option.bind (cond (o1.2 == a1)
      (some true)
      (cond (decide (6 < (w64 (o1.2 - a1))))
      (some true)
      (Option.bind (idx a0 a1) fun (x5 : UInt8) =>
    cond ((x5.toNat : Int) == 48)
      (some (decide (1 < (w64 (o1.2 - a1)))))
      (some false)))) (fun (v2 : Bool) => cond v2
      (some (o1.1, o1.2, true))
      (some (o1.1, o1.2, a2)))) = some r) ?_ ?_
  ·
   refine bindK h0 (fun o2 hl1 h0 => ?_)
   refine XC.loopM (m84f11_l0 a0 a1) (fun s1 => ⟨[(0, .v (.one (.ptr 0 0))), (3, .v (.one (dI a1))), (4, .v (.one (dI s1.1)))], [(0, .cells 83 [dS8 a0, dI s1.2, dB a2, dI a3])], [], 1, 110, []⟩) (0, a1) o2 (stle (tR rfl (tR rfl (tR rfl tZ))) (hR rfl hZ) kZ rfl (Nat.le_trans hv0 (lb rfl)) rfl rfl rfl (bB rfl rfl bZ) rfl rfl) hl1 (fun s1 n1 oo1 h1 ho1 => ?_)
   unfold m84f11_l0 at h1
   refine XC.seq ?_
   refine XC.seq ?_
   refine XC.joinR (fun (v3 : Bool) => ⟨[(0, .v (.one (.ptr 0 0))), (3, .v (.one (dI a1))), (4, .v (.one (dI s1.1))), (51, .v (.one (dB v3)))], [(0, .cells 83 [dS8 a0, dI s1.2, dB a2, dI a3])], [], 1, 110, []⟩) (fun (v3 : Bool) => (cond v3
       (Option.bind (idx a0 s1.2) fun (x5 : UInt8) =>
     some (.next ((w64 ((w64 (10 * s1.1)) + (w64 (IntKind.wrap .u8 ((x5.toNat : Int) - 48))))), (w64 (s1.2 + 1)))))
       (some (.done (s1.1, s1.2)))) = some oo1) ?_ ?_
   ·
    refine bindK h1 (fun w2_ h2 h1 => ?_)
    refine XC.anyRun [] [] mixed (by kernel_rfl) (by kernel_rfl) (by kernel_rfl) ?_
    refine RunA.rd rfl rfl rfl (OpOK.of_ro (RO.move rfl)) rfl ?_
    refine RunA.rd rfl rfl rfl (OpOK.of_ro (RO.nilCheckPtr rfl)) rfl ?_
    refine RunA.rd rfl rfl rfl (OpOK.of_ro (RO.fieldOwn fo_83_1 rfl)) rfl ?_
    refine RunA.rd rfl rfl rfl (OpOK.of_ro (RO.loadOwn ag_3 rfl rfl rfl)) rfl ?_
    refine RunA.rd rfl rfl rfl (OpOK.of_ro (RO.move rfl)) rfl ?_
    refine RunA.rd rfl rfl rfl (OpOK.of_ro (RO.nilCheckPtr rfl)) rfl ?_
    refine RunA.rd rfl rfl rfl (OpOK.of_ro (RO.fieldOwn fo_83_0 rfl)) rfl ?_
    refine RunA.rd rfl rfl rfl (OpOK.of_ro (RO.loadOwn ag_9 rfl rfl rfl)) rfl ?_
    refine RunA.rd rfl rfl rfl (OpOK.of_ro (RO.lenS st_9 rfl)) rfl ?_
    refine RunA.rd rfl rfl rfl (OpOK.of_ro (RO.binInt rfl rfl rfl)) rfl ?_
    refine RunA.case (c := (decide (s1.2 < (a0.length : Int)))) rfl rfl rfl (OpOK.of_ro (RO.move rfl)) rfl (fun c4 => ?_) (fun c4 => ?_)
    ·
     replace h2 := condT c4 h2
     refine RunA.rd rfl rfl rfl (OpOK.of_ro (RO.move rfl)) rfl ?_
     refine RunA.rd rfl rfl rfl (OpOK.of_ro (RO.nilCheckPtr rfl)) rfl ?_
     refine RunA.rd rfl rfl rfl (OpOK.of_ro (RO.fieldOwn fo_83_0 rfl)) rfl ?_
     refine RunA.rd rfl rfl rfl (OpOK.of_ro (RO.loadOwn ag_9 rfl rfl rfl)) rfl ?_
     refine RunA.rd rfl rfl rfl (OpOK.of_ro (RO.move rfl)) rfl ?_
     refine RunA.rd rfl rfl rfl (OpOK.of_ro (RO.nilCheckPtr rfl)) rfl ?_
     refine RunA.rd rfl rfl rfl (OpOK.of_ro (RO.fieldOwn fo_83_1 rfl)) rfl ?_
     refine RunA.rd rfl rfl rfl (OpOK.of_ro (RO.loadOwn ag_3 rfl rfl rfl)) rfl ?_
     refine bindK h2 (fun x5 hx5 h2 => ?_)
     refine RunA.rd rfl rfl rfl (OpOK.of_ro (RO.ixS st_9 rfl rfl hx5)) rfl ?_
     refine RunA.rd rfl rfl rfl (OpOK.of_ro (RO.binInt rfl rfl rfl)) rfl ?_
     refine RunA.rd rfl rfl rfl (OpOK.of_ro (RO.pickT rfl rfl)) rfl ?_
     refine RunA.case (c := (decide (48 ≤ (x5.toNat : Int)))) rfl rfl rfl (OpOK.of_ro (RO.move rfl)) rfl (fun c6 => ?_) (fun c6 => ?_)
     ·
      replace h2 := condT c6 h2
      refine RunA.rd rfl rfl rfl (OpOK.of_ro (RO.move rfl)) rfl ?_
      refine RunA.rd rfl rfl rfl (OpOK.of_ro (RO.nilCheckPtr rfl)) rfl ?_
      refine RunA.rd rfl rfl rfl (OpOK.of_ro (RO.fieldOwn fo_83_0 rfl)) rfl ?_
      refine RunA.rd rfl rfl rfl (OpOK.of_ro (RO.loadOwn ag_9 rfl rfl rfl)) rfl ?_
      refine RunA.rd rfl rfl rfl (OpOK.of_ro (RO.move rfl)) rfl ?_
      refine RunA.rd rfl rfl rfl (OpOK.of_ro (RO.nilCheckPtr rfl)) rfl ?_
      refine RunA.rd rfl rfl rfl (OpOK.of_ro (RO.fieldOwn fo_83_1 rfl)) rfl ?_
      refine RunA.rd rfl rfl rfl (OpOK.of_ro (RO.loadOwn ag_3 rfl rfl rfl)) rfl ?_
      refine bindK h2 (fun x7 hx7 h2 => ?_)
      refine RunA.rd rfl rfl rfl (OpOK.of_ro (RO.ixS st_9 rfl rfl hx7)) rfl ?_
      refine RunA.rd rfl rfl rfl (OpOK.of_ro (RO.binInt rfl rfl rfl)) rfl ?_
      refine RunA.rd rfl rfl rfl (OpOK.of_ro (RO.pickT rfl rfl)) rfl ?_
      refine RunA.case (c := (decide ((x7.toNat : Int) ≤ 57))) rfl rfl rfl (OpOK.of_ro (RO.move rfl)) rfl (fun c8 => ?_) (fun c8 => ?_)
      ·
       replace h2 := condT c8 h2
       refine RunA.rd rfl rfl rfl (OpOK.of_ro (RO.move rfl)) rfl ?_
       refine RunA.rd rfl rfl rfl (OpOK.of_ro (RO.nilCheckPtr rfl)) rfl ?_
       refine RunA.rd rfl rfl rfl (OpOK.of_ro (RO.fieldOwn fo_83_1 rfl)) rfl ?_
       refine RunA.rd rfl rfl rfl (OpOK.of_ro (RO.loadOwn ag_3 rfl rfl rfl)) rfl ?_
       refine RunA.rd rfl rfl rfl (OpOK.of_ro (RO.move rfl)) rfl ?_
       refine RunA.rd rfl rfl rfl (OpOK.of_ro (RO.binInt rfl rfl rfl)) rfl ?_
       refine RunA.rd rfl rfl rfl (OpOK.of_ro (RO.binInt rfl rfl rfl)) rfl ?_
       refine RunA.rd rfl rfl rfl (OpOK.of_ro (RO.pickT rfl rfl)) rfl ?_
       refine RunA.nil ⟨?ex, _, _, rfl, ?_⟩
       case ex => exact trivial
       have e_ := Option.some.inj h2
       subst e_
       exact XQ.joinR (decide ((w64 (s1.2 - a1)) ≤ 6)) (stle (tR rfl (tR rfl (tR rfl (tR rfl tZ)))) (hR rfl hZ) kZ rfl (Nat.le_trans hv0 (lb rfl)) rfl rfl rfl (bB rfl rfl bZ) rfl rfl) h1
      ·
       replace h2 := condF c8 h2
       refine RunA.no rfl rfl rfl rfl ?_
       refine RunA.no rfl rfl rfl rfl ?_
       refine RunA.no rfl rfl rfl rfl ?_
       refine RunA.no rfl rfl rfl rfl ?_
       refine RunA.no rfl rfl rfl rfl ?_
       refine RunA.no rfl rfl rfl rfl ?_
       refine RunA.no rfl rfl rfl rfl ?_
       refine RunA.rd rfl rfl rfl (OpOK.of_ro (RO.pickF rfl rfl)) rfl ?_
       refine RunA.nil ⟨?ex, _, _, rfl, ?_⟩
       case ex => exact trivial
       have e_ := Option.some.inj h2
       subst e_
       exact XQ.joinR false (stle (tR rfl (tR rfl (tR rfl (tR rfl tZ)))) (hR rfl hZ) kZ rfl (Nat.le_trans hv0 (lb rfl)) rfl rfl rfl (bB rfl rfl bZ) rfl rfl) h1
     ·
      replace h2 := condF c6 h2
      refine RunA.no rfl rfl rfl rfl ?_
      refine RunA.no rfl rfl rfl rfl ?_
      refine RunA.no rfl rfl rfl rfl ?_
      refine RunA.no rfl rfl rfl rfl ?_
      refine RunA.no rfl rfl rfl rfl ?_
      refine RunA.no rfl rfl rfl rfl ?_
      refine RunA.no rfl rfl rfl rfl ?_
      refine RunA.no rfl rfl rfl rfl ?_
      refine RunA.no rfl rfl rfl rfl ?_
      refine RunA.no rfl rfl rfl rfl ?_
      refine RunA.rd rfl rfl rfl (OpOK.of_ro (RO.pickF rfl rfl)) rfl ?_
      refine RunA.rd rfl rfl rfl (OpOK.of_ro (RO.move rfl)) rfl ?_
      refine RunA.no rfl rfl rfl rfl ?_
      refine RunA.no rfl rfl rfl rfl ?_
      refine RunA.no rfl rfl rfl rfl ?_
      refine RunA.no rfl rfl rfl rfl ?_
      refine RunA.no rfl rfl rfl rfl ?_
      refine RunA.no rfl rfl rfl rfl ?_
      refine RunA.no rfl rfl rfl rfl ?_
      refine RunA.rd rfl rfl rfl (OpOK.of_ro (RO.pickF rfl rfl)) rfl ?_
      refine RunA.nil ⟨?ex, _, _, rfl, ?_⟩
      case ex => exact trivial
      have e_ := Option.some.inj h2
      subst e_
      exact XQ.joinR false (stle (tR rfl (tR rfl (tR rfl (tR rfl tZ)))) (hR rfl hZ) kZ rfl (Nat.le_trans hv0 (lb rfl)) rfl rfl rfl (bB rfl rfl bZ) rfl rfl) h1
    ·
     replace h2 := condF c4 h2
     refine RunA.no rfl rfl rfl rfl ?_
     refine RunA.no rfl rfl rfl rfl ?_
     refine RunA.no rfl rfl rfl rfl ?_
     refine RunA.no rfl rfl rfl rfl ?_
     refine RunA.no rfl rfl rfl rfl ?_
     refine RunA.no rfl rfl rfl rfl ?_
     refine RunA.no rfl rfl rfl rfl ?_
     refine RunA.no rfl rfl rfl rfl ?_
     refine RunA.no rfl rfl rfl rfl ?_
     refine RunA.no rfl rfl rfl rfl ?_
     refine RunA.rd rfl rfl rfl (OpOK.of_ro (RO.pickF rfl rfl)) rfl ?_
     refine RunA.rd rfl rfl rfl (OpOK.of_ro (RO.move rfl)) rfl ?_
     refine RunA.no rfl rfl rfl rfl ?_
     refine RunA.no rfl rfl rfl rfl ?_
     refine RunA.no rfl rfl rfl rfl ?_
     refine RunA.no rfl rfl rfl rfl ?_
     refine RunA.no rfl rfl rfl rfl ?_
     refine RunA.no rfl rfl rfl rfl ?_
     refine RunA.no rfl rfl rfl rfl ?_
     refine RunA.no rfl rfl rfl rfl ?_
     refine RunA.no rfl rfl rfl rfl ?_
     refine RunA.no rfl rfl rfl rfl ?_
     refine RunA.rd rfl rfl rfl (OpOK.of_ro (RO.pickF rfl rfl)) rfl ?_
     refine RunA.rd rfl rfl rfl (OpOK.of_ro (RO.move rfl)) rfl ?_
     refine RunA.no rfl rfl rfl rfl ?_
     refine RunA.no rfl rfl rfl rfl ?_
     refine RunA.no rfl rfl rfl rfl ?_
     refine RunA.no rfl rfl rfl rfl ?_
     refine RunA.no rfl rfl rfl rfl ?_
     refine RunA.no rfl rfl rfl rfl ?_
     refine RunA.no rfl rfl rfl rfl ?_
     refine RunA.rd rfl rfl rfl (OpOK.of_ro (RO.pickF rfl rfl)) rfl ?_
     refine RunA.nil ⟨?ex, _, _, rfl, ?_⟩
     case ex => exact trivial
     have e_ := Option.some.inj h2
     subst e_
     exact XQ.joinR false (stle (tR rfl (tR rfl (tR rfl (tR rfl tZ)))) (hR rfl hZ) kZ rfl (Nat.le_trans hv0 (lb rfl)) rfl rfl rfl (bB rfl rfl bZ) rfl rfl) h1
   ·
    intro v3 h1
    refine XQ.seq ?_
    refine XC.cond (b := v3) rfl (fun c9 => ?_) (fun c9 => ?_)
    ·
     replace h1 := condT c9 h1
     refine XC.skip ?_
     refine XQ.seq ?_
     refine XC.block ?_
     refine XC.seq ?_
     refine XC.anyRun [] [] mixed (by kernel_rfl) (by kernel_rfl) (by kernel_rfl) ?_
     refine RunA.rd rfl rfl rfl (OpOK.of_ro (RO.move rfl)) rfl ?_
     refine RunA.rd rfl rfl rfl (OpOK.of_ro (RO.binInt rfl rfl rfl)) rfl ?_
     refine RunA.rd rfl rfl rfl (OpOK.of_ro (RO.move rfl)) rfl ?_
     refine RunA.rd rfl rfl rfl (OpOK.of_ro (RO.nilCheckPtr rfl)) rfl ?_
     refine RunA.rd rfl rfl rfl (OpOK.of_ro (RO.fieldOwn fo_83_0 rfl)) rfl ?_
     refine RunA.rd rfl rfl rfl (OpOK.of_ro (RO.loadOwn ag_9 rfl rfl rfl)) rfl ?_
     refine RunA.rd rfl rfl rfl (OpOK.of_ro (RO.move rfl)) rfl ?_
     refine RunA.rd rfl rfl rfl (OpOK.of_ro (RO.nilCheckPtr rfl)) rfl ?_
     refine RunA.rd rfl rfl rfl (OpOK.of_ro (RO.fieldOwn fo_83_1 rfl)) rfl ?_
     refine RunA.rd rfl rfl rfl (OpOK.of_ro (RO.loadOwn ag_3 rfl rfl rfl)) rfl ?_
     refine bindK h1 (fun x10 hx10 h1 => ?_)
     refine RunA.rd rfl rfl rfl (OpOK.of_ro (RO.ixS st_9 rfl rfl hx10)) rfl ?_
     refine RunA.rd rfl rfl rfl (OpOK.of_ro (RO.binInt rfl rfl rfl)) rfl ?_
     refine RunA.rd rfl rfl rfl (OpOK.of_ro (RO.conv2 ti_5 ti_3 rfl)) rfl ?_
     refine RunA.rd rfl rfl rfl (OpOK.of_ro (RO.binInt rfl rfl rfl)) rfl ?_
     refine RunA.rd rfl rfl rfl (OpOK.of_ro (RO.assign rfl)) rfl ?_
     refine RunA.nil ⟨?ex, _, _, rfl, ?_⟩
     case ex => exact trivial
     refine XQ.less (st' := ⟨[(0, .v (.one (.ptr 0 0))), (3, .v (.one (dI a1))), (4, .v (.one (dI (w64 ((w64 (10 * s1.1)) + (w64 (IntKind.wrap .u8 ((x10.toNat : Int) - 48))))))))], [(0, .cells 83 [dS8 a0, dI s1.2, dB a2, dI a3])], [], 1, 110, []⟩) (stle (tR rfl (tR rfl (tR rfl tZ))) (hR rfl hZ) kZ rfl (Nat.le_trans hv0 (lb rfl)) rfl rfl rfl (bB rfl rfl bZ) rfl rfl) ?_
     refine XQ.seq ?_
     refine XC.region ?_
     refine XL.rd rfl rfl (lb rfl) (RO.move rfl) ?_
     refine XL.rd rfl rfl (lb rfl) (RO.nilCheckPtr rfl) ?_
     refine XL.rd rfl rfl (lb rfl) (RO.fieldOwn fo_83_1 rfl) ?_
     refine XL.rd rfl rfl (lb rfl) (RO.loadOwn ag_3 rfl rfl rfl) ?_
     refine XL.rd rfl rfl (lb rfl) (RO.binInt rfl rfl rfl) ?_
     refine XL.rd rfl rfl (lb rfl) (RO.nilCheckPtr rfl) ?_
     refine XL.rd rfl rfl (lb rfl) (RO.fieldOwn fo_83_1 rfl) ?_
     refine XL.eff rfl rfl (OpOK.store ag_3 rfl rfl rfl rfl (lb rfl) rfl) ?_
     refine XL.nil ?_
     refine XQ.inBlock ?_
     have e_ := Option.some.inj h1
     subst e_
     refine XQ.nextM ((w64 ((w64 (10 * s1.1)) + (w64 (IntKind.wrap .u8 ((x10.toNat : Int) - 48))))), (w64 (s1.2 + 1))) (stle (tR rfl (tR rfl (tR rfl tZ))) (hR rfl hZ) kZ rfl (Nat.le_trans hv0 (lb rfl)) rfl rfl rfl (bB rfl rfl bZ) rfl rfl) ho1
    ·
     replace h1 := condF c9 h1
     refine XC.exit ?_
     refine XQ.thenE ?_
     refine XQ.thenE ?_
     have e_ := Option.some.inj h1
     subst e_
     have e_ : _ = _ := ho1
     subst e_
     exact XQ.joinX (s1.1, s1.2) (stle (tR rfl (tR rfl (tR rfl tZ))) (hR rfl hZ) kZ rfl (Nat.le_trans hv0 (lb rfl)) rfl rfl rfl (bB rfl rfl bZ) rfl rfl) h0
  ·
   intro o1 h0
   refine XQ.blockX ?_
   refine XQ.seq ?_
   refine XC.seq ?_
   refine XC.seq ?_
   refine XC.joinR (fun (v11 : Bool) => ⟨[(0, .v (.one (.ptr 0 0))), (4, .v (.one (dI o1.1))), (105, .v (.one (dB v11)))], [(0, .cells 83 [dS8 a0, dI o1.2, dB a2, dI a3])], [], 1, 110, []⟩) (fun (v11 : Bool) => (cond v11
       (some (o1.1, o1.2, true))
       (some (o1.1, o1.2, a2))) = some r) ?_ ?_
   ·
    refine bindK h0 (fun w1_ h1 h0 => ?_)
    refine XC.region ?_
    refine XL.rd rfl rfl (lb rfl) (RO.move rfl) ?_
    refine XL.rd rfl rfl (lb rfl) (RO.nilCheckPtr rfl) ?_
    refine XL.rd rfl rfl (lb rfl) (RO.fieldOwn fo_83_1 rfl) ?_
    refine XL.rd rfl rfl (lb rfl) (RO.loadOwn ag_3 rfl rfl rfl) ?_
    refine XL.rd rfl rfl (lb rfl) (RO.move rfl) ?_
    refine XL.rd rfl rfl (lb rfl) (RO.binInt rfl rfl rfl) ?_
    refine XL.rd rfl rfl (lb rfl) (RO.move rfl) ?_
    refine XL.case (d := 79) (c := (o1.2 == a1)) rfl (fun c12 => ?_) (fun c12 => ?_)
    ·
     replace h1 := condT c12 h1
     refine XL.no rfl rfl ?_
     refine XL.no rfl rfl ?_
     refine XL.no rfl rfl ?_
     refine XL.no rfl rfl ?_
     refine XL.no rfl rfl ?_
     refine XL.no rfl rfl ?_
     refine XL.no rfl rfl ?_
     refine XL.rd rfl rfl (lb rfl) (RO.pickT rfl rfl) ?_
     refine XL.rd rfl rfl (lb rfl) (RO.move rfl) ?_
     refine XL.no rfl rfl ?_
     refine XL.no rfl rfl ?_
     refine XL.no rfl rfl ?_
     refine XL.no rfl rfl ?_
     refine XL.no rfl rfl ?_
     refine XL.no rfl rfl ?_
     refine XL.no rfl rfl ?_
     refine XL.no rfl rfl ?_
     refine XL.no rfl rfl ?_
     refine XL.no rfl rfl ?_
     refine XL.no rfl rfl ?_
     refine XL.no rfl rfl ?_
     refine XL.no rfl rfl ?_
     refine XL.no rfl rfl ?_
     refine XL.no rfl rfl ?_
     refine XL.no rfl rfl ?_
     refine XL.rd rfl rfl (lb rfl) (RO.pickT rfl rfl) ?_
     refine XL.nil ?_
     have e_ := Option.some.inj h1
     subst e_
     exact XQ.joinR true (stle (tR rfl (tR rfl (tR rfl tZ))) (hR rfl hZ) kZ rfl (Nat.le_trans hv0 (lb rfl)) rfl rfl rfl (bB rfl rfl bZ) rfl rfl) h0
    ·
     replace h1 := condF c12 h1
     refine XL.rd rfl rfl (lb rfl) (RO.move rfl) ?_
     refine XL.rd rfl rfl (lb rfl) (RO.nilCheckPtr rfl) ?_
     refine XL.rd rfl rfl (lb rfl) (RO.fieldOwn fo_83_1 rfl) ?_
     refine XL.rd rfl rfl (lb rfl) (RO.loadOwn ag_3 rfl rfl rfl) ?_
     refine XL.rd rfl rfl (lb rfl) (RO.move rfl) ?_
     refine XL.rd rfl rfl (lb rfl) (RO.binInt rfl rfl rfl) ?_
     refine XL.rd rfl rfl (lb rfl) (RO.binInt rfl rfl rfl) ?_
     refine XL.rd rfl rfl (lb rfl) (RO.pickF rfl rfl) ?_
     refine XL.rd rfl rfl (lb rfl) (RO.move rfl) ?_
     refine XL.case (d := 88) (c := (decide (6 < (w64 (o1.2 - a1))))) rfl (fun c13 => ?_) (fun c13 => ?_)
     ·
      replace h1 := condT c13 h1
      refine XL.no rfl rfl ?_
      refine XL.no rfl rfl ?_
      refine XL.no rfl rfl ?_
      refine XL.no rfl rfl ?_
      refine XL.no rfl rfl ?_
      refine XL.no rfl rfl ?_
      refine XL.no rfl rfl ?_
      refine XL.no rfl rfl ?_
      refine XL.no rfl rfl ?_
      refine XL.no rfl rfl ?_
      refine XL.no rfl rfl ?_
      refine XL.no rfl rfl ?_
      refine XL.no rfl rfl ?_
      refine XL.no rfl rfl ?_
      refine XL.no rfl rfl ?_
      refine XL.no rfl rfl ?_
      refine XL.rd rfl rfl (lb rfl) (RO.pickT rfl rfl) ?_
      refine XL.nil ?_
      have e_ := Option.some.inj h1
      subst e_
      exact XQ.joinR true (stle (tR rfl (tR rfl (tR rfl tZ))) (hR rfl hZ) kZ rfl (Nat.le_trans hv0 (lb rfl)) rfl rfl rfl (bB rfl rfl bZ) rfl rfl) h0
     ·
      replace h1 := condF c13 h1
      refine XL.rd rfl rfl (lb rfl) (RO.move rfl) ?_
      refine XL.rd rfl rfl (lb rfl) (RO.nilCheckPtr rfl) ?_
      refine XL.rd rfl rfl (lb rfl) (RO.fieldOwn fo_83_0 rfl) ?_
      refine XL.rd rfl rfl (lb rfl) (RO.loadOwn ag_9 rfl rfl rfl) ?_
      refine XL.rd rfl rfl (lb rfl) (RO.move rfl) ?_
      refine bindK h1 (fun x14 hx14 h1 => ?_)
      refine XL.rd rfl rfl (lb rfl) (RO.ixS st_9 rfl rfl hx14) ?_
      refine XL.rd rfl rfl (lb rfl) (RO.binInt rfl rfl rfl) ?_
      refine XL.rd rfl rfl (lb rfl) (RO.move rfl) ?_
      refine XL.case (d := 96) (c := ((x14.toNat : Int) == 48)) rfl (fun c15 => ?_) (fun c15 => ?_)
      ·
       replace h1 := condT c15 h1
       refine XL.rd rfl rfl (lb rfl) (RO.move rfl) ?_
       refine XL.rd rfl rfl (lb rfl) (RO.nilCheckPtr rfl) ?_
       refine XL.rd rfl rfl (lb rfl) (RO.fieldOwn fo_83_1 rfl) ?_
       refine XL.rd rfl rfl (lb rfl) (RO.loadOwn ag_3 rfl rfl rfl) ?_
       refine XL.rd rfl rfl (lb rfl) (RO.move rfl) ?_
       refine XL.rd rfl rfl (lb rfl) (RO.binInt rfl rfl rfl) ?_
       refine XL.rd rfl rfl (lb rfl) (RO.binInt rfl rfl rfl) ?_
       refine XL.rd rfl rfl (lb rfl) (RO.pickT rfl rfl) ?_
       refine XL.rd rfl rfl (lb rfl) (RO.pickF rfl rfl) ?_
       refine XL.nil ?_
       have e_ := Option.some.inj h1
       subst e_
       exact XQ.joinR (decide (1 < (w64 (o1.2 - a1)))) (stle (tR rfl (tR rfl (tR rfl tZ))) (hR rfl hZ) kZ rfl (Nat.le_trans hv0 (lb rfl)) rfl rfl rfl (bB rfl rfl bZ) rfl rfl) h0
      ·
       replace h1 := condF c15 h1
       refine XL.no rfl rfl ?_
       refine XL.no rfl rfl ?_
       refine XL.no rfl rfl ?_
       refine XL.no rfl rfl ?_
       refine XL.no rfl rfl ?_
       refine XL.no rfl rfl ?_
       refine XL.no rfl rfl ?_
       refine XL.rd rfl rfl (lb rfl) (RO.pickF rfl rfl) ?_
       refine XL.rd rfl rfl (lb rfl) (RO.pickF rfl rfl) ?_
       refine XL.nil ?_
       have e_ := Option.some.inj h1
       subst e_
       exact XQ.joinR false (stle (tR rfl (tR rfl (tR rfl tZ))) (hR rfl hZ) kZ rfl (Nat.le_trans hv0 (lb rfl)) rfl rfl rfl (bB rfl rfl bZ) rfl rfl) h0
   ·
    intro v11 h0
    refine XQ.seq ?_
    refine XC.cond (b := v11) rfl (fun c16 => ?_) (fun c16 => ?_)
    ·
     replace h0 := condT c16 h0
     refine XC.region ?_
     refine XL.rd rfl rfl (lb rfl) (RO.move rfl) ?_
     refine XL.rd rfl rfl (lb rfl) (RO.nilCheckPtr rfl) ?_
     refine XL.rd rfl rfl (lb rfl) (RO.fieldOwn fo_83_2 rfl) ?_
     refine XL.eff rfl rfl (OpOK.store ag_4 rfl rfl rfl rfl (lb rfl) rfl) ?_
     refine XL.nil ?_
     refine XQ.seq ?_
     refine XC.seq ?_
     refine XC.region ?_
     refine XL.rd rfl rfl (lb rfl) (RO.move rfl) ?_
     refine XL.rd rfl rfl (lb rfl) (RO.assign rfl) ?_
     refine XL.nil ?_
     refine XQ.seq ?_
     refine XC.ret ?_
     have e_ := Option.some.inj h0
     subst e_
     exact hQ0 _ _ _ (.inr rfl) rfl (stle (tR rfl tZ) (hR rfl hZ) kZ rfl (Nat.le_trans hv0 (lb rfl)) rfl rfl rfl (bB rfl rfl bZ) rfl rfl)
    ·
     replace h0 := condF c16 h0
     refine XC.skip ?_
     refine XQ.seq ?_
     refine XC.seq ?_
     refine XC.region ?_
     refine XL.rd rfl rfl (lb rfl) (RO.move rfl) ?_
     refine XL.rd rfl rfl (lb rfl) (RO.assign rfl) ?_
     refine XL.nil ?_
     refine XQ.seq ?_
     refine XC.ret ?_
     have e_ := Option.some.inj h0
     subst e_
     exact hQ0 _ _ _ (.inr rfl) rfl (stle (tR rfl tZ) (hR rfl hZ) kZ rfl (Nat.le_trans hv0 (lb rfl)) rfl rfl rfl (bB rfl rfl bZ) rfl rfl)

/-- (*euclid/euclidref01.reader).keep, in its part of memory -/
def m85f12 (a0 : Lvl) (a1 : Int) (a2 : (List UInt8)) (a3 : Int) (a4 : Bool) (a5 : Int) : Option Int :=
  Option.bind (cond (a5 == 0)
    (some (!a4))
    (some false)) (fun (v1 : Bool) => cond v1
    (some a1)
    (some a5))

set_option maxRecDepth 100000 in
set_option maxHeartbeats 8000000 in
theorem m85f12_ok (a0 : Lvl) (a1 : Int) (a2 : (List UInt8)) (a3 : Int) (a4 : Bool) (a5 : Int) (r : Int) (h0 : m85f12 a0 a1 a2 a3 a4 a5 = some r) : CallM Tryz.prog 85 [.one (.ptr 0 0), .agg (cE a0), .one (dI a1)] ⟨[(0, .cells 83 [dS8 a2, dI a3, dB a4, dI a5])], [], 1⟩ (resOf [.agg (cE a0)]) ⟨[(0, .cells 83 [dS8 a2, dI a3, dB a4, dI r]), (2, .cells 24 (cE a0))], [], 3⟩ := by
  unfold m85f12 at h0
  refine CallM.of_bodyD ⟨[(6, .v (.one (.ptr 2 0)))], [(0, .cells 83 [dS8 a2, dI a3, dB a4, dI r]), (2, .cells 24 (cE a0))], [], 3, 24, []⟩ rfl rfl en_85 (lb rfl) rfl (RAs.agg ag_24 rfl rfl rfl rfl .nil) (fun w0 M V0 Q hv0 hQ0 => ?_)
  simp only [entry]
  refine XC.seq ?_
  refine XC.region ?_
  refine XL.put rfl rfl (lb rfl) (OpOK.box rfl) ?_
  refine XL.put rfl rfl (lb rfl) (OpOK.alloc z_24 rfl) ?_
  refine XL.nil ?_
  refine XQ.seq ?_
  refine XC.seq ?_
  refine XC.seq ?_
  refine XC.joinR (fun (v1 : Bool) => ⟨[(0, .v (.one (.ptr 0 0))), (2, .v (.one (dI a1))), (4, .v (.one (.ptr 1 0))), (6, .v (.one (.ptr 2 0))), (18, .v (.one (dB v1)))], [(0, .cells 83 [dS8 a2, dI a3, dB a4, dI a5]), (1, .cells 24 (cE a0)), (2, .cells 24 [dI 0, dN])], [], 3, 24, []⟩) (fun (v1 : Bool) => (cond v1
      (some a1)
      (some a5)) = some r) ?_ ?_
  ·
   refine bindK h0 (fun w1_ h1 h0 => ?_)
   refine XC.region ?_
   refine XL.rd rfl rfl (lb rfl) (RO.move rfl) ?_
   refine XL.rd rfl rfl (lb rfl) (RO.nilCheckPtr rfl) ?_
   refine XL.rd rfl rfl (lb rfl) (RO.fieldOwn fo_83_3 rfl) ?_
   refine XL.rd rfl rfl (lb rfl) (RO.loadOwn ag_3 rfl rfl rfl) ?_
   refine XL.rd rfl rfl (lb rfl) (RO.binInt rfl rfl rfl) ?_
   refine XL.rd rfl rfl (lb rfl) (RO.move rfl) ?_
   refine XL.case (d := 12) (c := (a5 == 0)) rfl (fun c2 => ?_) (fun c2 => ?_)
   ·
    replace h1 := condT c2 h1
    refine XL.rd rfl rfl (lb rfl) (RO.move rfl) ?_
    refine XL.rd rfl rfl (lb rfl) (RO.nilCheckPtr rfl) ?_
    refine XL.rd rfl rfl (lb rfl) (RO.fieldOwn fo_83_2 rfl) ?_
    refine XL.rd rfl rfl (lb rfl) (RO.loadOwn ag_4 rfl rfl rfl) ?_
    refine XL.rd rfl rfl (lb rfl) (RO.not rfl) ?_
    refine XL.rd rfl rfl (lb rfl) (RO.pickT rfl rfl) ?_
    refine XL.nil ?_
    have e_ := Option.some.inj h1
    subst e_
    exact XQ.joinR (!a4) (stle (tR rfl (tR rfl (tR rfl (tR rfl (tR rfl tZ))))) (hR rfl (hR rfl (hR rfl hZ))) kZ rfl (Nat.le_trans hv0 (lb rfl)) rfl rfl rfl (bB rfl rfl (bB rfl rfl (bB rfl rfl bZ))) rfl rfl) h0
   ·
    replace h1 := condF c2 h1
    refine XL.no rfl rfl ?_
    refine XL.no rfl rfl ?_
    refine XL.no rfl rfl ?_
    refine XL.no rfl rfl ?_
    refine XL.no rfl rfl ?_
    refine XL.rd rfl rfl (lb rfl) (RO.pickF rfl rfl) ?_
    refine XL.nil ?_
    have e_ := Option.some.inj h1
    subst e_
    exact XQ.joinR false (stle (tR rfl (tR rfl (tR rfl (tR rfl (tR rfl tZ))))) (hR rfl (hR rfl (hR rfl hZ))) kZ rfl (Nat.le_trans hv0 (lb rfl)) rfl rfl rfl (bB rfl rfl (bB rfl rfl (bB rfl rfl bZ))) rfl rfl) h0
  ·
   intro v1 h0
   refine XQ.seq ?_
   refine XC.cond (b := v1) rfl (fun c3 => ?_) (fun c3 => ?_)
   ·
    replace h0 := condT c3 h0
    refine XC.region ?_
    refine XL.rd rfl rfl (lb rfl) (RO.move rfl) ?_
    refine XL.rd rfl rfl (lb rfl) (RO.move rfl) ?_
    refine XL.rd rfl rfl (lb rfl) (RO.nilCheckPtr rfl) ?_
    refine XL.rd rfl rfl (lb rfl) (RO.fieldOwn fo_83_3 rfl) ?_
    refine XL.eff rfl rfl (OpOK.store ag_3 rfl rfl rfl rfl (lb rfl) rfl) ?_
    refine XL.nil ?_
    refine XQ.seq ?_
    refine XC.seq ?_
    refine XC.region ?_
    refine XL.rd rfl rfl (lb rfl) (RO.loadOwnAgg ag_24 rfl rfl rfl rfl) ?_
    refine XL.eff rfl rfl (OpOK.store ag_24 rfl rfl rfl rfl (lb rfl) rfl) ?_
    refine XL.nil ?_
    refine XQ.seq ?_
    refine XC.ret ?_
    have e_ := Option.some.inj h0
    subst e_
    exact hQ0 _ _ _ (.inr rfl) rfl (stle (tR rfl tZ) (hR rfl (hR rfl hZ)) kZ rfl (Nat.le_trans hv0 (lb rfl)) rfl rfl rfl (bB rfl rfl (bB rfl rfl bZ)) rfl rfl)
   ·
    replace h0 := condF c3 h0
    refine XC.skip ?_
    refine XQ.seq ?_
    refine XC.seq ?_
    refine XC.region ?_
    refine XL.rd rfl rfl (lb rfl) (RO.loadOwnAgg ag_24 rfl rfl rfl rfl) ?_
    refine XL.eff rfl rfl (OpOK.store ag_24 rfl rfl rfl rfl (lb rfl) rfl) ?_
    refine XL.nil ?_
    refine XQ.seq ?_
    refine XC.ret ?_
    have e_ := Option.some.inj h0
    subst e_
    exact hQ0 _ _ _ (.inr rfl) rfl (stle (tR rfl tZ) (hR rfl (hR rfl hZ)) kZ rfl (Nat.le_trans hv0 (lb rfl)) rfl rfl rfl (bB rfl rfl (bB rfl rfl bZ)) rfl rfl)

/-- (*euclid/euclidref01.reader).part, in its part of memory -/
def m59f10 (a0 : (List UInt8)) (a1 : Int) (a2 : Bool) (a3 : Int) : Option (Int × (List LV) × Int × Bool × Int) :=
  Option.bind (m57f8 a0 a1 a2 a3) fun (x1 : Int) =>
  Option.bind (m58f9 63 a0 x1 a2 a3) fun (x2 : Bool × Int) =>
  Option.bind (cond (!x2.1)
    (Option.bind (m58f9 117 a0 x2.2 a2 a3) fun (x5 : Bool × Int) =>
  some ((!x5.1), x5.2))
    (some (false, x2.2))) (fun (v3 : Bool × Int) => cond v3.1
    (Option.bind (m84f11 a0 v3.2 a2 a3) fun (x5 : Int × Int × Bool) =>
  Option.bind (m57f8 a0 x5.2.1 x5.2.2 a3) fun (x6 : Int) =>
  Option.bind (m16 x5.1) fun (x7 : Lvl × Int) =>
  Option.bind (m85f12 x7.1 x7.2 a0 x6 x5.2.2 a3) fun (x8 : Int) =>
  some (x7.1.c, x7.1.vs, x6, x5.2.2, x8))
    (Option.bind (m84f11 a0 v3.2 a2 a3) fun (x9 : Int × Int × Bool) =>
  Option.bind (m57f8 a0 x9.2.1 x9.2.2 a3) fun (x10 : Int) =>
  Option.bind (m58f9 43 a0 x10 x9.2.2 a3) fun (x11 : Bool × Int) =>
  Option.bind (cond x11.1
    (Option.bind (m57f8 a0 x11.2 x9.2.2 a3) fun (x14 : Int) =>
  Option.bind (m84f11 a0 x14 x9.2.2 a3) fun (x15 : Int × Int × Bool) =>
  Option.bind (m57f8 a0 x15.2.1 x15.2.2 a3) fun (x16 : Int) =>
  some (x15.1, x16, x15.2.2))
    (some (0, x11.2, x9.2.2))) (fun (v12 : Int × Int × Bool) => Option.bind (cond x2.1
    (some (w64 ((-1) - x9.1)))
    (some x9.1)) (fun (v13 : Int) => Option.bind (m18 v13 v12.1) fun (x14 : Lvl × Int) =>
  Option.bind (m85f12 x14.1 x14.2 a0 v12.2.1 v12.2.2 a3) fun (x15 : Int) =>
  some (x14.1.c, x14.1.vs, v12.2.1, v12.2.2, x15)))))

set_option maxRecDepth 100000 in
set_option maxHeartbeats 8000000 in
theorem m59f10_ok (a0 : (List UInt8)) (a1 : Int) (a2 : Bool) (a3 : Int) (r : Int × (List LV) × Int × Bool × Int) (h0 : m59f10 a0 a1 a2 a3 = some r) : CallM Tryz.prog 59 [.one (.ptr 0 0)] ⟨[(0, .cells 83 [dS8 a0, dI a1, dB a2, dI a3])], [], 1⟩ (resOf [.agg [dI r.1, dS r.2.1]]) ⟨[(0, .cells 83 [dS8 a0, dI r.2.2.1, dB r.2.2.2.1, dI r.2.2.2.2]), (1, .cells 24 [dI r.1, dS r.2.1])], [], 5⟩ := by
  unfold m59f10 at h0
  refine CallM.of_bodyD ⟨[(2, .v (.one (.ptr 1 0)))], [(0, .cells 83 [dS8 a0, dI r.2.2.1, dB r.2.2.2.1, dI r.2.2.2.2]), (1, .cells 24 [dI r.1, dS r.2.1])], [], 5, 60, []⟩ rfl rfl en_59 (lb rfl) rfl (RAs.agg ag_24 rfl rfl rfl rfl .nil) (fun w0 M V0 Q hv0 hQ0 => ?_)
  simp only [entry]
  refine XC.seq ?_
  refine XC.region ?_
  refine XL.put rfl rfl (lb rfl) (OpOK.alloc z_24 rfl) ?_
  refine XL.nil ?_
  refine XQ.seq ?_
  refine XC.seq ?_
  refine XC.region ?_
  refine XL.rd rfl rfl (lb rfl) (RO.move rfl) ?_
  refine bindK h0 (fun x1 hx1 h0 => ?_)
  refine XL.put rfl rfl (lb rfl) (OpOK.callG (hp1' := [(0, .cells 83 [dS8 a0, dI x1, dB a2, dI a3])]) (tk1' := []) (hpF := [(1, .cells 24 [dI 0, dN])]) (tkF := []) (res2 := resOf []) (nx2 := 2) [0] rfl rfl (m57f8_ok a0 a1 a2 a3 x1 hx1) rfl rfl (qB rfl rfl qZ) rfl rfl (gR rfl gZ) jZ (hR rfl hZ) kZ rfl rfl rfl rfl rfl (bB rfl rfl bZ) rfl rfl rfl rfl) ?_
  refine XL.nil ?_
  refine XQ.seq ?_
  refine XC.seq ?_
  refine XC.region ?_
  refine XL.rd rfl rfl (lb rfl) (RO.move rfl) ?_
  refine bindK h0 (fun x2 hx2 h0 => ?_)
  refine XL.put rfl rfl (lb rfl) (OpOK.callG (hp1' := [(0, .cells 83 [dS8 a0, dI x2.2, dB a2, dI a3])]) (tk1' := []) (hpF := [(1, .cells 24 [dI 0, dN])]) (tkF := []) (res2 := resOf [.one (dB x2.1)]) (nx2 := 2) [0] rfl rfl (m58f9_ok 63 a0 x1 a2 a3 x2 hx2) rfl rfl (qB rfl rfl qZ) rfl rfl (gR rfl gZ) jZ (hR rfl hZ) kZ rfl rfl rfl rfl rfl (bB rfl rfl bZ) rfl rfl rfl rfl) ?_
  refine XL.rd rfl rfl (lb rfl) (RO.assign rfl) ?_
  refine XL.nil ?_
  refine XQ.seq ?_
  refine XC.seq ?_
  refine XC.seq ?_
  refine XC.joinR (fun (v3 : Bool × Int) => ⟨[(0, .v (.one (.ptr 0 0))), (2, .v (.one (.ptr 1 0))), (3, .v (.one (dB x2.1))), (21, .v (.one (dB v3.1)))], [(0, .cells 83 [dS8 a0, dI v3.2, dB a2, dI a3]), (1, .cells 24 [dI 0, dN])], [], 2, 60, []⟩) (fun (v3 : Bool × Int) => (cond v3.1
      (Option.bind (m84f11 a0 v3.2 a2 a3) fun (x5 : Int × Int × Bool) =>
    Option.bind (m57f8 a0 x5.2.1 x5.2.2 a3) fun (x6 : Int) =>
    Option.bind (m16 x5.1) fun (x7 : Lvl × Int) =>
    Option.bind (m85f12 x7.1 x7.2 a0 x6 x5.2.2 a3) fun (x8 : Int) =>
    some (x7.1.c, x7.1.vs, x6, x5.2.2, x8))
      (Option.bind (m84f11 a0 v3.2 a2 a3) fun (x9 : Int × Int × Bool) =>
    Option.bind (m57f8 a0 x9.2.1 x9.2.2 a3) fun (x10 : Int) =>
    Option.bind (m58f9 43 a0 x10 x9.2.2 a3) fun (x11 : Bool × Int) =>
    Option.bind (cond x11.1
      (Option.bind (m57f8 a0 x11.2 x9.2.2 a3) fun (x14 : Int) =>
    Option.bind (m84f11 a0 x14 x9.2.2 a3) fun (x15 : Int × Int × Bool) =>
    Option.bind (m57f8 a0 x15.2.1 x15.2.2 a3) fun (x16 : Int) =>
    some (x15.1, x16, x15.2.2))
      (some (0, x11.2, x9.2.2))) (fun (v12 : Int × Int × Bool) => Option.bind (cond x2.1
      (some (w64 ((-1) - x9.1)))
      (some x9.1)) (fun (v13 : Int) => Option.bind (m18 v13 v12.1) fun (x14 : Lvl × Int) =>
    Option.bind (m85f12 x14.1 x14.2 a0 v12.2.1 v12.2.2 a3) fun (x15 : Int) =>
    some (x14.1.c, x14.1.vs, v12.2.1, v12.2.2, x15))))) = some r) ?_ ?_
  ·
   refine bindK h0 (fun w1_ h1 h0 => ?_)
   refine XC.region ?_
   refine XL.rd rfl rfl (lb rfl) (RO.move rfl) ?_
   refine XL.rd rfl rfl (lb rfl) (RO.not rfl) ?_
   refine XL.rd rfl rfl (lb rfl) (RO.move rfl) ?_
   refine XL.case (d := 17) (c := (!x2.1)) rfl (fun c4 => ?_) (fun c4 => ?_)
   ·
    replace h1 := condT c4 h1
    refine XL.rd rfl rfl (lb rfl) (RO.move rfl) ?_
    refine bindK h1 (fun x5 hx5 h1 => ?_)
    refine XL.put rfl rfl (lb rfl) (OpOK.callG (hp1' := [(0, .cells 83 [dS8 a0, dI x5.2, dB a2, dI a3])]) (tk1' := []) (hpF := [(1, .cells 24 [dI 0, dN])]) (tkF := []) (res2 := resOf [.one (dB x5.1)]) (nx2 := 2) [0] rfl rfl (m58f9_ok 117 a0 x2.2 a2 a3 x5 hx5) rfl rfl (qB rfl rfl qZ) rfl rfl (gR rfl gZ) jZ (hR rfl hZ) kZ rfl rfl rfl rfl rfl (bB rfl rfl bZ) rfl rfl rfl rfl) ?_
    refine XL.rd rfl rfl (lb rfl) (RO.not rfl) ?_
    refine XL.rd rfl rfl (lb rfl) (RO.pickT rfl rfl) ?_
    refine XL.nil ?_
    have e_ := Option.some.inj h1
    subst e_
    exact XQ.joinR ((!x5.1), x5.2) (stle (tR rfl (tR rfl (tR rfl (tR rfl tZ)))) (hR rfl (hR rfl hZ)) kZ rfl (Nat.le_trans hv0 (lb rfl)) rfl rfl rfl (bB rfl rfl (bB rfl rfl bZ)) rfl rfl) h0
   ·
    replace h1 := condF c4 h1
    refine XL.no rfl rfl ?_
    refine XL.no rfl rfl ?_
    refine XL.no rfl rfl ?_
    refine XL.rd rfl rfl (lb rfl) (RO.pickF rfl rfl) ?_
    refine XL.nil ?_
    have e_ := Option.some.inj h1
    subst e_
    exact XQ.joinR (false, x2.2) (stle (tR rfl (tR rfl (tR rfl (tR rfl tZ)))) (hR rfl (hR rfl hZ)) kZ rfl (Nat.le_trans hv0 (lb rfl)) rfl rfl rfl (bB rfl rfl (bB rfl rfl bZ)) rfl rfl) h0
  ·
   intro v3 h0
   refine XQ.seq ?_
   refine XC.cond (b := v3.1) rfl (fun c6 => ?_) (fun c6 => ?_)
   ·
    replace h0 := condT c6 h0
    refine XC.seq ?_
    refine XC.region ?_
    refine XL.rd rfl rfl (lb rfl) (RO.move rfl) ?_
    refine bindK h0 (fun x7 hx7 h0 => ?_)
    refine XL.put rfl rfl (lb rfl) (OpOK.callG (hp1' := [(0, .cells 83 [dS8 a0, dI x7.2.1, dB x7.2.2, dI a3])]) (tk1' := []) (hpF := [(1, .cells 24 [dI 0, dN])]) (tkF := []) (res2 := resOf [.one (dI x7.1)]) (nx2 := 2) [0] rfl rfl (m84f11_ok a0 v3.2 a2 a3 x7 hx7) rfl rfl (qB rfl rfl qZ) rfl rfl (gR rfl gZ) jZ (hR rfl hZ) kZ rfl rfl rfl rfl rfl (bB rfl rfl bZ) rfl rfl rfl rfl) ?_
    refine XL.rd rfl rfl (lb rfl) (RO.assign rfl) ?_
    refine XL.nil ?_
    refine XQ.seq ?_
    refine XC.seq ?_
    refine XC.region ?_
    refine XL.rd rfl rfl (lb rfl) (RO.move rfl) ?_
    refine bindK h0 (fun x8 hx8 h0 => ?_)
    refine XL.put rfl rfl (lb rfl) (OpOK.callG (hp1' := [(0, .cells 83 [dS8 a0, dI x8, dB x7.2.2, dI a3])]) (tk1' := []) (hpF := [(1, .cells 24 [dI 0, dN])]) (tkF := []) (res2 := resOf []) (nx2 := 2) [0] rfl rfl (m57f8_ok a0 x7.2.1 x7.2.2 a3 x8 hx8) rfl rfl (qB rfl rfl qZ) rfl rfl (gR rfl gZ) jZ (hR rfl hZ) kZ rfl rfl rfl rfl rfl (bB rfl rfl bZ) rfl rfl rfl rfl) ?_
    refine XL.nil ?_
    refine XQ.seq ?_
    refine XC.seq ?_
    refine XC.region ?_
    refine XL.rd rfl rfl (lb rfl) (RO.move rfl) ?_
    refine bindK h0 (fun x9 hx9 h0 => ?_)
    refine XL.put rfl rfl (lb rfl) (OpOK.callFun (m16_ok x7.1 x9 hx9) rfl (.cons (.one (.d _)) .nil)) ?_
    refine XL.rd rfl rfl (lb rfl) (RO.move rfl) ?_
    refine XL.rd rfl rfl (lb rfl) (RO.extract rfl rfl) ?_
    refine XL.rd rfl rfl (lb rfl) (RO.extract rfl rfl) ?_
    refine XL.put rfl rfl (lb rfl) (OpOK.alloc z_24 rfl) ?_
    refine XL.eff rfl rfl (OpOK.store ag_24 rfl rfl rfl rfl (lb rfl) rfl) ?_
    refine XL.rd rfl rfl (lb rfl) (RO.assign rfl) ?_
    refine XL.nil ?_
    refine XQ.seq ?_
    refine XC.seq ?_
    refine XC.region ?_
    refine XL.rd rfl rfl (lb rfl) (RO.move rfl) ?_
    refine XL.rd rfl rfl (lb rfl) (RO.loadOwnAgg ag_24 rfl rfl rfl rfl) ?_
    refine XL.rd rfl rfl (lb rfl) (RO.move rfl) ?_
    refine bindK h0 (fun x10 hx10 h0 => ?_)
    refine XL.put rfl rfl (lb rfl) (OpOK.callG (hp1' := [(0, .cells 83 [dS8 a0, dI x8, dB x7.2.2, dI x10]), (4, .cells 24 (cE x9.1))]) (tk1' := []) (hpF := [(1, .cells 24 [dI 0, dN]), (2, .cells 24 (cE x9.1))]) (tkF := []) (res2 := resOf [.agg (cE x9.1)]) (nx2 := 5) [0] rfl rfl (m85f12_ok x9.1 x9.2 a0 x8 x7.2.2 a3 x10 hx10) rfl rfl (qB rfl rfl (qB rfl rfl qZ)) rfl rfl (gR rfl gZ) jZ (hR rfl (hR rfl hZ)) kZ rfl rfl rfl rfl rfl (bB rfl rfl bZ) rfl rfl rfl rfl) ?_
    refine XL.eff rfl rfl (OpOK.store ag_24 rfl rfl rfl rfl (lb rfl) rfl) ?_
    refine XL.nil ?_
    refine XQ.seq ?_
    refine XC.ret ?_
    have e_ := Option.some.inj h0
    subst e_
    exact hQ0 _ _ _ (.inr rfl) rfl (stle (tR rfl tZ) (hR rfl (hR rfl hZ)) kZ rfl (Nat.le_trans hv0 (lb rfl)) rfl rfl rfl (bB rfl rfl (bB rfl rfl bZ)) rfl rfl)
   ·
    replace h0 := condF c6 h0
    refine XC.skip ?_
    refine XQ.seq ?_
    refine XC.seq ?_
    refine XC.region ?_
    refine XL.rd rfl rfl (lb rfl) (RO.move rfl) ?_
    refine bindK h0 (fun x11 hx11 h0 => ?_)
    refine XL.put rfl rfl (lb rfl) (OpOK.callG (hp1' := [(0, .cells 83 [dS8 a0, dI x11.2.1, dB x11.2.2, dI a3])]) (tk1' := []) (hpF := [(1, .cells 24 [dI 0, dN])]) (tkF := []) (res2 := resOf [.one (dI x11.1)]) (nx2 := 2) [0] rfl rfl (m84f11_ok a0 v3.2 a2 a3 x11 hx11) rfl rfl (qB rfl rfl qZ) rfl rfl (gR rfl gZ) jZ (hR rfl hZ) kZ rfl rfl rfl rfl rfl (bB rfl rfl bZ) rfl rfl rfl rfl) ?_
    refine XL.rd rfl rfl (lb rfl) (RO.assign rfl) ?_
    refine XL.nil ?_
    refine XQ.seq ?_
    refine XC.seq ?_
    refine XC.region ?_
    refine XL.rd rfl rfl (lb rfl) (RO.move rfl) ?_
    refine bindK h0 (fun x12 hx12 h0 => ?_)
    refine XL.put rfl rfl (lb rfl) (OpOK.callG (hp1' := [(0, .cells 83 [dS8 a0, dI x12, dB x11.2.2, dI a3])]) (tk1' := []) (hpF := [(1, .cells 24 [dI 0, dN])]) (tkF := []) (res2 := resOf []) (nx2 := 2) [0] rfl rfl (m57f8_ok a0 x11.2.1 x11.2.2 a3 x12 hx12) rfl rfl (qB rfl rfl qZ) rfl rfl (gR rfl gZ) jZ (hR rfl hZ) kZ rfl rfl rfl rfl rfl (bB rfl rfl bZ) rfl rfl rfl rfl) ?_
    refine XL.nil ?_
    refine XQ.seq ?_
    refine XC.seq ?_
    refine XC.region ?_
    refine XL.rd rfl rfl (lb rfl) (RO.assign rfl) ?_
    refine XL.nil ?_
    refine XQ.seq ?_
    refine XC.seq ?_
    refine XC.seq ?_
    refine XC.region ?_
    refine XL.rd rfl rfl (lb rfl) (RO.move rfl) ?_
    refine bindK h0 (fun x13 hx13 h0 => ?_)
    refine XL.put rfl rfl (lb rfl) (OpOK.callG (hp1' := [(0, .cells 83 [dS8 a0, dI x13.2, dB x11.2.2, dI a3])]) (tk1' := []) (hpF := [(1, .cells 24 [dI 0, dN])]) (tkF := []) (res2 := resOf [.one (dB x13.1)]) (nx2 := 2) [0] rfl rfl (m58f9_ok 43 a0 x12 x11.2.2 a3 x13 hx13) rfl rfl (qB rfl rfl qZ) rfl rfl (gR rfl gZ) jZ (hR rfl hZ) kZ rfl rfl rfl rfl rfl (bB rfl rfl bZ) rfl rfl rfl rfl) ?_
    refine XL.nil ?_
    refine XQ.seq ?_
    refine XC.joinR (fun (v14 : Int × Int × Bool) => ⟨[(0, .v (.one (.ptr 0 0))), (2, .v (.one (.ptr 1 0))), (3, .v (.one (dB x2.1))), (7, .v (.one (dI x11.1))), (8, .v (.one (dI v14.1)))], [(0, .cells 83 [dS8 a0, dI v14.2.1, dB v14.2.2, dI a3]), (1, .cells 24 [dI 0, dN])], [], 2, 60, []⟩) (fun (v14 : Int × Int × Bool) => (Option.bind (cond x2.1
        (some (w64 ((-1) - x11.1)))
        (some x11.1)) (fun (v15 : Int) => Option.bind (m18 v15 v14.1) fun (x16 : Lvl × Int) =>
      Option.bind (m85f12 x16.1 x16.2 a0 v14.2.1 v14.2.2 a3) fun (x17 : Int) =>
      some (x16.1.c, x16.1.vs, v14.2.1, v14.2.2, x17))) = some r) ?_ ?_
    ·
     refine bindK h0 (fun w1_ h1 h0 => ?_)
     refine XC.cond (b := x13.1) rfl (fun c15 => ?_) (fun c15 => ?_)
     ·
      replace h1 := condT c15 h1
      refine XC.seq ?_
      refine XC.region ?_
      refine XL.rd rfl rfl (lb rfl) (RO.move rfl) ?_
      refine bindK h1 (fun x16 hx16 h1 => ?_)
      refine XL.put rfl rfl (lb rfl) (OpOK.callG (hp1' := [(0, .cells 83 [dS8 a0, dI x16, dB x11.2.2, dI a3])]) (tk1' := []) (hpF := [(1, .cells 24 [dI 0, dN])]) (tkF := []) (res2 := resOf []) (nx2 := 2) [0] rfl rfl (m57f8_ok a0 x13.2 x11.2.2 a3 x16 hx16) rfl rfl (qB rfl rfl qZ) rfl rfl (gR rfl gZ) jZ (hR rfl hZ) kZ rfl rfl rfl rfl rfl (bB rfl rfl bZ) rfl rfl rfl rfl) ?_
      refine XL.nil ?_
      refine XQ.seq ?_
      refine XC.seq ?_
      refine XC.region ?_
      refine XL.rd rfl rfl (lb rfl) (RO.move rfl) ?_
      refine bindK h1 (fun x17 hx17 h1 => ?_)
      refine XL.put rfl rfl (lb rfl) (OpOK.callG (hp1' := [(0, .cells 83 [dS8 a0, dI x17.2.1, dB x17.2.2, dI a3])]) (tk1' := []) (hpF := [(1, .cells 24 [dI 0, dN])]) (tkF := []) (res2 := resOf [.one (dI x17.1)]) (nx2 := 2) [0] rfl rfl (m84f11_ok a0 x16 x11.2.2 a3 x17 hx17) rfl rfl (qB rfl rfl qZ) rfl rfl (gR rfl gZ) jZ (hR rfl hZ) kZ rfl rfl rfl rfl rfl (bB rfl rfl bZ) rfl rfl rfl rfl) ?_
      refine XL.rd rfl rfl (lb rfl) (RO.assign rfl) ?_
      refine XL.nil ?_
      refine XQ.seq ?_
      refine XC.region ?_
      refine XL.rd rfl rfl (lb rfl) (RO.move rfl) ?_
      refine bindK h1 (fun x18 hx18 h1 => ?_)
      refine XL.put rfl rfl (lb rfl) (OpOK.callG (hp1' := [(0, .cells 83 [dS8 a0, dI x18, dB x17.2.2, dI a3])]) (tk1' := []) (hpF := [(1, .cells 24 [dI 0, dN])]) (tkF := []) (res2 := resOf []) (nx2 := 2) [0] rfl rfl (m57f8_ok a0 x17.2.1 x17.2.2 a3 x18 hx18) rfl rfl (qB rfl rfl qZ) rfl rfl (gR rfl gZ) jZ (hR rfl hZ) kZ rfl rfl rfl rfl rfl (bB rfl rfl bZ) rfl rfl rfl rfl) ?_
      refine XL.nil ?_
      have e_ := Option.some.inj h1
      subst e_
      exact XQ.joinR (x17.1, x18, x17.2.2) (stle (tR rfl (tR rfl (tR rfl (tR rfl (tR rfl tZ))))) (hR rfl (hR rfl hZ)) kZ rfl (Nat.le_trans hv0 (lb rfl)) rfl rfl rfl (bB rfl rfl (bB rfl rfl bZ)) rfl rfl) h0
     ·
      replace h1 := condF c15 h1
      refine XC.skip ?_
      have e_ := Option.some.inj h1
      subst e_
      exact XQ.joinR (0, x13.2, x11.2.2) (stle (tR rfl (tR rfl (tR rfl (tR rfl (tR rfl tZ))))) (hR rfl (hR rfl hZ)) kZ rfl (Nat.le_trans hv0 (lb rfl)) rfl rfl rfl (bB rfl rfl (bB rfl rfl bZ)) rfl rfl) h0
    ·
     intro v14 h0
     refine XQ.seq ?_
     refine XC.seq ?_
     refine XC.seq ?_
     refine XC.region ?_
     refine XL.rd rfl rfl (lb rfl) (RO.move rfl) ?_
     refine XL.nil ?_
     refine XQ.seq ?_
     refine XC.joinR (fun (v19 : Int) => ⟨[(0, .v (.one (.ptr 0 0))), (2, .v (.one (.ptr 1 0))), (7, .v (.one (dI v19))), (8, .v (.one (dI v14.1)))], [(0, .cells 83 [dS8 a0, dI v14.2.1, dB v14.2.2, dI a3]), (1, .cells 24 [dI 0, dN])], [], 2, 60, []⟩) (fun (v19 : Int) => (Option.bind (m18 v19 v14.1) fun (x20 : Lvl × Int) =>
       Option.bind (m85f12 x20.1 x20.2 a0 v14.2.1 v14.2.2 a3) fun (x21 : Int) =>
       some (x20.1.c, x20.1.vs, v14.2.1, v14.2.2, x21)) = some r) ?_ ?_
     ·
      refine bindK h0 (fun w1_ h1 h0 => ?_)
      refine XC.cond (b := x2.1) rfl (fun c20 => ?_) (fun c20 => ?_)
      ·
       replace h1 := condT c20 h1
       refine XC.region ?_
       refine XL.rd rfl rfl (lb rfl) (RO.move rfl) ?_
       refine XL.rd rfl rfl (lb rfl) (RO.binInt rfl rfl rfl) ?_
       refine XL.rd rfl rfl (lb rfl) (RO.assign rfl) ?_
       refine XL.nil ?_
       have e_ := Option.some.inj h1
       subst e_
       exact XQ.joinR (w64 ((-1) - x11.1)) (stle (tR rfl (tR rfl (tR rfl (tR rfl tZ)))) (hR rfl (hR rfl hZ)) kZ rfl (Nat.le_trans hv0 (lb rfl)) rfl rfl rfl (bB rfl rfl (bB rfl rfl bZ)) rfl rfl) h0
      ·
       replace h1 := condF c20 h1
       refine XC.skip ?_
       have e_ := Option.some.inj h1
       subst e_
       exact XQ.joinR x11.1 (stle (tR rfl (tR rfl (tR rfl (tR rfl tZ)))) (hR rfl (hR rfl hZ)) kZ rfl (Nat.le_trans hv0 (lb rfl)) rfl rfl rfl (bB rfl rfl (bB rfl rfl bZ)) rfl rfl) h0
     ·
      intro v19 h0
      refine XQ.seq ?_
      refine XC.seq ?_
      refine XC.region ?_
      refine XL.rd rfl rfl (lb rfl) (RO.move rfl) ?_
      refine XL.rd rfl rfl (lb rfl) (RO.move rfl) ?_
      refine bindK h0 (fun x21 hx21 h0 => ?_)
      refine XL.put rfl rfl (lb rfl) (OpOK.callFun (m18_ok v19 v14.1 x21 hx21) rfl (.cons (.one (.d _)) (.cons (.one (.d _)) .nil))) ?_
      refine XL.rd rfl rfl (lb rfl) (RO.move rfl) ?_
      refine XL.rd rfl rfl (lb rfl) (RO.extract rfl rfl) ?_
      refine XL.rd rfl rfl (lb rfl) (RO.extract rfl rfl) ?_
      refine XL.put rfl rfl (lb rfl) (OpOK.alloc z_24 rfl) ?_
      refine XL.eff rfl rfl (OpOK.store ag_24 rfl rfl rfl rfl (lb rfl) rfl) ?_
      refine XL.rd rfl rfl (lb rfl) (RO.assign rfl) ?_
      refine XL.nil ?_
      refine XQ.seq ?_
      refine XC.seq ?_
      refine XC.region ?_
      refine XL.rd rfl rfl (lb rfl) (RO.move rfl) ?_
      refine XL.rd rfl rfl (lb rfl) (RO.loadOwnAgg ag_24 rfl rfl rfl rfl) ?_
      refine XL.rd rfl rfl (lb rfl) (RO.move rfl) ?_
      refine bindK h0 (fun x22 hx22 h0 => ?_)
      refine XL.put rfl rfl (lb rfl) (OpOK.callG (hp1' := [(0, .cells 83 [dS8 a0, dI v14.2.1, dB v14.2.2, dI x22]), (4, .cells 24 (cE x21.1))]) (tk1' := []) (hpF := [(1, .cells 24 [dI 0, dN]), (2, .cells 24 (cE x21.1))]) (tkF := []) (res2 := resOf [.agg (cE x21.1)]) (nx2 := 5) [0] rfl rfl (m85f12_ok x21.1 x21.2 a0 v14.2.1 v14.2.2 a3 x22 hx22) rfl rfl (qB rfl rfl (qB rfl rfl qZ)) rfl rfl (gR rfl gZ) jZ (hR rfl (hR rfl hZ)) kZ rfl rfl rfl rfl rfl (bB rfl rfl bZ) rfl rfl rfl rfl) ?_
      refine XL.eff rfl rfl (OpOK.store ag_24 rfl rfl rfl rfl (lb rfl) rfl) ?_
      refine XL.nil ?_
      refine XQ.seq ?_
      refine XC.ret ?_
      have e_ := Option.some.inj h0
      subst e_
      exact hQ0 _ _ _ (.inr rfl) rfl (stle (tR rfl tZ) (hR rfl (hR rfl hZ)) kZ rfl (Nat.le_trans hv0 (lb rfl)) rfl rfl rfl (bB rfl rfl (bB rfl rfl bZ)) rfl rfl)

def m27_l0 (a0 : (List UInt8)) (s2 : Int × Bool × Int × Int × (List LV)) : Option (LO (Int × Bool × Int × Int × (List LV)) ((Int × Bool × Int × Int × (List LV)))) :=
  Option.bind (cond (!s2.2.1)
    (Option.bind (m58f9 44 a0 s2.1 s2.2.1 s2.2.2.1) fun (x12 : Bool × Int) =>
  some (x12.1, x12.2))
    (some (false, s2.1))) (fun (v10 : Bool × Int) => cond v10.1
    (Option.bind (m59f10 a0 v10.2 s2.2.1 s2.2.2.1) fun (x12 : Int × (List LV) × Int × Bool × Int) =>
  guardO ((cond (Nat.ble (⟨s2.2.2.2.1, s2.2.2.2.2⟩ : Lvl).vs.length 100000) (Nat.ble (⟨x12.1, x12.2.1⟩ : Lvl).vs.length 100000) false))
  (some (.next (x12.2.2.1, x12.2.2.2.1, x12.2.2.2.2, (joinL (⟨s2.2.2.2.1, s2.2.2.2.2⟩ : Lvl) (⟨x12.1, x12.2.1⟩ : Lvl)).c, (joinL (⟨s2.2.2.2.1, s2.2.2.2.2⟩ : Lvl) (⟨x12.1, x12.2.1⟩ : Lvl)).vs))))
    (some (.done (v10.2, s2.2.1, s2.2.2.1, s2.2.2.2.1, s2.2.2.2.2))))

/-- euclid/euclidref01.Parse -/
def m27 (a0 : (List UInt8)) : Option (Lvl × Int) :=
  cond (decide (65536 < (a0.length : Int)))
    (some ((⟨0, ([] : List LV)⟩ : Lvl), 5))
    (Option.bind (m57f8 a0 0 false 0) fun (x2 : Int) =>
  Option.bind (cond (decide ((w64 (x2 + 3)) ≤ (a0.length : Int)))
    (guardO (cond (decide (0 ≤ x2)) (cond (Nat.ble x2.toNat (w64 (x2 + 3)).toNat) (cond (decide (0 ≤ (w64 (x2 + 3)))) (Nat.ble (w64 (x2 + 3)).toNat a0.length) false) false) false)
  (some (((a0.take (w64 (x2 + 3)).toNat).drop x2.toNat) == ([109, 97, 120] : List UInt8))))
    (some false)) (fun (v3 : Bool) => Option.bind (cond v3
    (Option.bind (m57f8 a0 (w64 (x2 + 3)) false 0) fun (x6 : Int) =>
  Option.bind (m58f9 40 a0 x6 false 0) fun (x7 : Bool × Int) =>
  Option.bind (m59f10 a0 x7.2 (!x7.1) 0) fun (x8 : Int × (List LV) × Int × Bool × Int) =>
  Option.bind (loopN (m27_l0 a0) FUEL (x8.2.2.1, x8.2.2.2.1, x8.2.2.2.2, x8.1, x8.2.1)) (fun (o9 : Int × Bool × Int × Int × (List LV)) => Option.bind (cond o9.2.1
    (some (o9.1, true))
    (Option.bind (m58f9 41 a0 o9.1 o9.2.1 o9.2.2.1) fun (x12 : Bool × Int) =>
  some (x12.2, (!x12.1)))) (fun (v10 : Int × Bool) => Option.bind (m57f8 a0 v10.1 v10.2 o9.2.2.1) fun (x11 : Int) =>
  some (o9.2.2.2.1, o9.2.2.2.2, x8.1, x8.2.1, x11, v10.2, o9.2.2.1))))
    (Option.bind (m59f10 a0 x2 false 0) fun (x21 : Int × (List LV) × Int × Bool × Int) =>
  some (x21.1, x21.2.1, x21.1, x21.2.1, x21.2.2.1, x21.2.2.2.1, x21.2.2.2.2))) (fun (v4 : Int × (List LV) × Int × (List LV) × Int × Bool × Int) => Option.bind (cond v4.2.2.2.2.2.1
    (some true)
    (some (decide (v4.2.2.2.2.1 < (a0.length : Int))))) (fun (v5 : Bool) => cond v5
    (some ((⟨0, ([] : List LV)⟩ : Lvl), 4))
    (cond (v4.2.2.2.2.2.2 != 0)
    (some ((⟨0, ([] : List LV)⟩ : Lvl), v4.2.2.2.2.2.2))
    (some ((⟨v4.1, v4.2.1⟩ : Lvl), 0)))))))

set_option maxRecDepth 100000 in
set_option maxHeartbeats 8000000 in
theorem m27_ok (a0 : (List UInt8)) (r : Lvl × Int) (h0 : m27 a0 = some r) : Fun Tryz.prog 27 [.one (dS8 a0)] (resOf [.agg (cE r.1), .one (dI r.2)]) := by
  unfold m27 at h0
  refine Fun.of_bodyM 9 109 Tryz.func27 rfl en_27 rfl (lb rfl) (fun S w => ?_)
  simp only [entry]
  refine XC.seq ?_
  refine XC.region ?_
  refine XL.put rfl rfl (lb rfl) (OpOK.alloc z_24 rfl) ?_
  refine XL.rd rfl rfl (lb rfl) (RO.assign rfl) ?_
  refine XL.nil ?_
  refine XQ.seq ?_
  refine XC.seq ?_
  refine XC.seq ?_
  refine XC.region ?_
  refine XL.rd rfl rfl (lb rfl) (RO.move rfl) ?_
  refine XL.rd rfl rfl (lb rfl) (RO.lenS st_9 rfl) ?_
  refine XL.rd rfl rfl (lb rfl) (RO.binInt rfl rfl rfl) ?_
  refine XL.nil ?_
  refine XQ.seq ?_
  refine XC.cond (b := (decide (65536 < (a0.length : Int)))) rfl (fun c1 => ?_) (fun c1 => ?_)
  ·
   replace h0 := condT c1 h0
   refine XC.seq ?_
   refine XC.region ?_
   refine XL.rd rfl rfl (lb rfl) (RO.build0 bd_24 rfl ) ?_
   refine XL.eff rfl rfl (OpOK.store ag_24 rfl rfl rfl rfl (lb rfl) rfl) ?_
   refine XL.rd rfl rfl (lb rfl) (RO.assign rfl) ?_
   refine XL.nil ?_
   refine XQ.seq ?_
   refine XC.ret ?_
   have e_ := Option.some.inj h0
   subst e_
   exact XQ.retF (fun _ _ h => h) rfl (RAs.agg ag_24 rfl rfl rfl rfl (RAs.tmp rfl .nil)) (.cons (.agg (.cons (.d _) (.cons (.nil _) .nil))) (.cons (.one (.d _)) .nil))
  ·
   replace h0 := condF c1 h0
   refine XC.skip ?_
   refine XQ.seq ?_
   refine XC.seq ?_
   refine XC.region ?_
   refine XL.rd rfl rfl (lb rfl) (RO.move rfl) ?_
   refine XL.rd rfl rfl (lb rfl) (RO.build1 bd_83 rfl rfl rfl) ?_
   refine XL.put rfl rfl (lb rfl) (OpOK.box rfl) ?_
   refine XL.rd rfl rfl (lb rfl) (RO.assign rfl) ?_
   refine XL.nil ?_
   refine XQ.seq ?_
   refine XC.seq ?_
   refine XC.region ?_
   refine XL.rd rfl rfl (lb rfl) (RO.move rfl) ?_
   refine bindK h0 (fun x2 hx2 h0 => ?_)
   refine XL.put rfl rfl (lb rfl) (OpOK.callG (hp1' := [(1, .cells 83 [dS8 a0, dI x2, dB false, dI 0])]) (tk1' := []) (hpF := [(0, .cells 24 [dI 0, dN])]) (tkF := []) (res2 := resOf []) (nx2 := 2) [1] rfl rfl (m57f8_ok a0 0 false 0 x2 hx2) rfl rfl (qB rfl rfl qZ) rfl rfl (gR rfl gZ) jZ (hR rfl hZ) kZ rfl rfl rfl rfl rfl (bB rfl rfl bZ) rfl rfl rfl rfl) ?_
   refine XL.nil ?_
   refine XQ.seq ?_
   refine XC.seq ?_
   refine XC.region ?_
   refine XL.rd rfl rfl (lb rfl) (RO.build0 bd_24 rfl ) ?_
   refine XL.put rfl rfl (lb rfl) (OpOK.alloc z_24 rfl) ?_
   refine XL.eff rfl rfl (OpOK.store ag_24 rfl rfl rfl rfl (lb rfl) rfl) ?_
   refine XL.nil ?_
   refine XQ.seq ?_
   refine XC.seq ?_
   refine XC.seq ?_
   refine XC.joinR (fun (v3 : Bool) => ⟨[(0, .v (.one (dS8 a0))), (2, .v (.one (.ptr 0 0))), (4, .v (.one (.ptr 1 0))), (5, .v (.one (.ptr 2 0))), (37, .v (.one (dB v3)))], [(0, .cells 24 [dI 0, dN]), (1, .cells 83 [dS8 a0, dI x2, dB false, dI 0]), (2, .cells 24 [dI 0, dN])], [], 3, 109, []⟩) (fun (v3 : Bool) => (Option.bind (cond v3
       (Option.bind (m57f8 a0 (w64 (x2 + 3)) false 0) fun (x6 : Int) =>
     Option.bind (m58f9 40 a0 x6 false 0) fun (x7 : Bool × Int) =>
     Option.bind (m59f10 a0 x7.2 (!x7.1) 0) fun (x8 : Int × (List LV) × Int × Bool × Int) =>
     Option.bind (loopN (m27_l0 a0) FUEL (x8.2.2.1, x8.2.2.2.1, x8.2.2.2.2, x8.1, x8.2.1)) (fun (o9 : Int × Bool × Int × Int × (List LV)) => Option.bind (cond o9.2.1
       (some (o9.1, true))
       (Option.bind (m58f9 41 a0 o9.1 o9.2.1 o9.2.2.1) fun (x12 : Bool × Int) =>
     some (x12.2, (!x12.1)))) (fun (v10 : Int × Bool) => Option.bind (m57f8 a0 v10.1 v10.2 o9.2.2.1) fun (x11 : Int) =>
     some (o9.2.2.2.1, o9.2.2.2.2, x8.1, x8.2.1, x11, v10.2, o9.2.2.1))))
       (Option.bind (m59f10 a0 x2 false 0) fun (x21 : Int × (List LV) × Int × Bool × Int) =>
     some (x21.1, x21.2.1, x21.1, x21.2.1, x21.2.2.1, x21.2.2.2.1, x21.2.2.2.2))) (fun (v4 : Int × (List LV) × Int × (List LV) × Int × Bool × Int) => Option.bind (cond v4.2.2.2.2.2.1
       (some true)
       (some (decide (v4.2.2.2.2.1 < (a0.length : Int))))) (fun (v5 : Bool) => cond v5
       (some ((⟨0, ([] : List LV)⟩ : Lvl), 4))
       (cond (v4.2.2.2.2.2.2 != 0)
       (some ((⟨0, ([] : List LV)⟩ : Lvl), v4.2.2.2.2.2.2))
       (some ((⟨v4.1, v4.2.1⟩ : Lvl), 0)))))) = some r) ?_ ?_
   ·
    refine bindK h0 (fun w1_ h1 h0 => ?_)
    refine XC.anyRun [] [] mixed (by kernel_rfl) (by kernel_rfl) (by kernel_rfl) ?_
    refine RunA.rd rfl rfl rfl (OpOK.of_ro (RO.move rfl)) rfl ?_
    refine RunA.rd rfl rfl rfl (OpOK.of_ro (RO.nilCheckPtr rfl)) rfl ?_
    refine RunA.rd rfl rfl rfl (OpOK.of_ro (RO.fieldOwn fo_83_1 rfl)) rfl ?_
    refine RunA.rd rfl rfl rfl (OpOK.of_ro (RO.loadOwn ag_3 rfl rfl rfl)) rfl ?_
    refine RunA.rd rfl rfl rfl (OpOK.of_ro (RO.binInt rfl rfl rfl)) rfl ?_
    refine RunA.rd rfl rfl rfl (OpOK.of_ro (RO.move rfl)) rfl ?_
    refine RunA.rd rfl rfl rfl (OpOK.of_ro (RO.lenS st_9 rfl)) rfl ?_
    refine RunA.rd rfl rfl rfl (OpOK.of_ro (RO.binInt rfl rfl rfl)) rfl ?_
    refine RunA.case (c := (decide ((w64 (x2 + 3)) ≤ (a0.length : Int)))) rfl rfl rfl (OpOK.of_ro (RO.move rfl)) rfl (fun c4 => ?_) (fun c4 => ?_)
    ·
     replace h1 := condT c4 h1
     refine RunA.rd rfl rfl rfl (OpOK.of_ro (RO.move rfl)) rfl ?_
     refine RunA.rd rfl rfl rfl (OpOK.of_ro (RO.move rfl)) rfl ?_
     refine RunA.rd rfl rfl rfl (OpOK.of_ro (RO.nilCheckPtr rfl)) rfl ?_
     refine RunA.rd rfl rfl rfl (OpOK.of_ro (RO.fieldOwn fo_83_1 rfl)) rfl ?_
     refine RunA.rd rfl rfl rfl (OpOK.of_ro (RO.loadOwn ag_3 rfl rfl rfl)) rfl ?_
     refine RunA.rd rfl rfl rfl (OpOK.of_ro (RO.move rfl)) rfl ?_
     refine RunA.rd rfl rfl rfl (OpOK.of_ro (RO.nilCheckPtr rfl)) rfl ?_
     refine RunA.rd rfl rfl rfl (OpOK.of_ro (RO.fieldOwn fo_83_1 rfl)) rfl ?_
     refine RunA.rd rfl rfl rfl (OpOK.of_ro (RO.loadOwn ag_3 rfl rfl rfl)) rfl ?_
     refine RunA.rd rfl rfl rfl (OpOK.of_ro (RO.binInt rfl rfl rfl)) rfl ?_
     refine guardK h1 (fun g5 h1 => ?_)
     refine RunA.rd rfl rfl rfl (OpOK.of_ro (RO.midS st_9 rfl rfl rfl g5)) rfl ?_
     refine RunA.rd rfl rfl rfl (OpOK.of_ro (RO.eqS rfl rfl)) rfl ?_
     refine RunA.rd rfl rfl rfl (OpOK.of_ro (RO.pickT rfl rfl)) rfl ?_
     refine RunA.nil ⟨?ex, _, _, rfl, ?_⟩
     case ex => exact trivial
     have e_ := Option.some.inj h1
     subst e_
     exact XQ.joinR (((a0.take (w64 (x2 + 3)).toNat).drop x2.toNat) == ([109, 97, 120] : List UInt8)) (stle (tR rfl (tR rfl (tR rfl (tR rfl (tR rfl tZ))))) (hR rfl (hR rfl (hR rfl hZ))) kZ rfl (Nat.zero_le _) rfl rfl rfl (bB rfl rfl (bB rfl rfl (bB rfl rfl bZ))) rfl rfl) h0
    ·
     replace h1 := condF c4 h1
     refine RunA.no rfl rfl rfl rfl ?_
     refine RunA.no rfl rfl rfl rfl ?_
     refine RunA.no rfl rfl rfl rfl ?_
     refine RunA.no rfl rfl rfl rfl ?_
     refine RunA.no rfl rfl rfl rfl ?_
     refine RunA.no rfl rfl rfl rfl ?_
     refine RunA.no rfl rfl rfl rfl ?_
     refine RunA.no rfl rfl rfl rfl ?_
     refine RunA.no rfl rfl rfl rfl ?_
     refine RunA.no rfl rfl rfl rfl ?_
     refine RunA.no rfl rfl rfl rfl ?_
     refine RunA.no rfl rfl rfl rfl ?_
     refine RunA.rd rfl rfl rfl (OpOK.of_ro (RO.pickF rfl rfl)) rfl ?_
     refine RunA.nil ⟨?ex, _, _, rfl, ?_⟩
     case ex => exact trivial
     have e_ := Option.some.inj h1
     subst e_
     exact XQ.joinR false (stle (tR rfl (tR rfl (tR rfl (tR rfl (tR rfl tZ))))) (hR rfl (hR rfl (hR rfl hZ))) kZ rfl (Nat.zero_le _) rfl rfl rfl (bB rfl rfl (bB rfl rfl (bB rfl rfl bZ))) rfl rfl) h0
   ·
    intro v3 h0
    refine XQ.seq ?_
    refine XC.joinR (fun (v6 : Int × (List LV) × Int × (List LV) × Int × Bool × Int) => ⟨[(0, .v (.one (dS8 a0))), (2, .v (.one (.ptr 0 0))), (4, .v (.one (.ptr 1 0))), (5, .v (.one (.ptr 2 0)))], [(0, .cells 24 [dI 0, dN]), (1, .cells 83 [dS8 a0, dI v6.2.2.2.2.1, dB v6.2.2.2.2.2.1, dI v6.2.2.2.2.2.2]), (2, .cells 24 [dI v6.1, dS v6.2.1]), (3, .cells 24 [dI v6.2.2.1, dS v6.2.2.2.1])], [], 7, 109, []⟩) (fun (v6 : Int × (List LV) × Int × (List LV) × Int × Bool × Int) => (Option.bind (cond v6.2.2.2.2.2.1
        (some true)
        (some (decide (v6.2.2.2.2.1 < (a0.length : Int))))) (fun (v7 : Bool) => cond v7
        (some ((⟨0, ([] : List LV)⟩ : Lvl), 4))
        (cond (v6.2.2.2.2.2.2 != 0)
        (some ((⟨0, ([] : List LV)⟩ : Lvl), v6.2.2.2.2.2.2))
        (some ((⟨v6.1, v6.2.1⟩ : Lvl), 0))))) = some r) ?_ ?_
    ·
     refine bindK h0 (fun w1_ h1 h0 => ?_)
     refine XC.cond (b := v3) rfl (fun c7 => ?_) (fun c7 => ?_)
     ·
      replace h1 := condT c7 h1
      refine XC.seq ?_
      refine XC.region ?_
      refine XL.rd rfl rfl (lb rfl) (RO.move rfl) ?_
      refine XL.rd rfl rfl (lb rfl) (RO.nilCheckPtr rfl) ?_
      refine XL.rd rfl rfl (lb rfl) (RO.fieldOwn fo_83_1 rfl) ?_
      refine XL.rd rfl rfl (lb rfl) (RO.loadOwn ag_3 rfl rfl rfl) ?_
      refine XL.rd rfl rfl (lb rfl) (RO.binInt rfl rfl rfl) ?_
      refine XL.rd rfl rfl (lb rfl) (RO.nilCheckPtr rfl) ?_
      refine XL.rd rfl rfl (lb rfl) (RO.fieldOwn fo_83_1 rfl) ?_
      refine XL.eff rfl rfl (OpOK.store ag_3 rfl rfl rfl rfl (lb rfl) rfl) ?_
      refine XL.nil ?_
      refine XQ.seq ?_
      refine XC.seq ?_
      refine XC.region ?_
      refine XL.rd rfl rfl (lb rfl) (RO.move rfl) ?_
      refine bindK h1 (fun x8 hx8 h1 => ?_)
      refine XL.put rfl rfl (lb rfl) (OpOK.callG (hp1' := [(1, .cells 83 [dS8 a0, dI x8, dB false, dI 0])]) (tk1' := []) (hpF := [(0, .cells 24 [dI 0, dN]), (2, .cells 24 [dI 0, dN])]) (tkF := []) (res2 := resOf []) (nx2 := 3) [1] rfl rfl (m57f8_ok a0 (w64 (x2 + 3)) false 0 x8 hx8) rfl rfl (qB rfl rfl qZ) rfl rfl (gR rfl gZ) jZ (hR rfl (hR rfl hZ)) kZ rfl rfl rfl rfl rfl (bB rfl rfl bZ) rfl rfl rfl rfl) ?_
      refine XL.nil ?_
      refine XQ.seq ?_
      refine XC.seq ?_
      refine XC.region ?_
      refine XL.rd rfl rfl (lb rfl) (RO.move rfl) ?_
      refine XL.rd rfl rfl (lb rfl) (RO.move rfl) ?_
      refine bindK h1 (fun x9 hx9 h1 => ?_)
      refine XL.put rfl rfl (lb rfl) (OpOK.callG (hp1' := [(1, .cells 83 [dS8 a0, dI x9.2, dB false, dI 0])]) (tk1' := []) (hpF := [(0, .cells 24 [dI 0, dN]), (2, .cells 24 [dI 0, dN])]) (tkF := []) (res2 := resOf [.one (dB x9.1)]) (nx2 := 3) [1] rfl rfl (m58f9_ok 40 a0 x8 false 0 x9 hx9) rfl rfl (qB rfl rfl qZ) rfl rfl (gR rfl gZ) jZ (hR rfl (hR rfl hZ)) kZ rfl rfl rfl rfl rfl (bB rfl rfl bZ) rfl rfl rfl rfl) ?_
      refine XL.rd rfl rfl (lb rfl) (RO.not rfl) ?_
      refine XL.rd rfl rfl (lb rfl) (RO.nilCheckPtr rfl) ?_
      refine XL.rd rfl rfl (lb rfl) (RO.fieldOwn fo_83_2 rfl) ?_
      refine XL.eff rfl rfl (OpOK.store ag_4 rfl rfl rfl rfl (lb rfl) rfl) ?_
      refine XL.nil ?_
      refine XQ.seq ?_
      refine XC.seq ?_
      refine XC.region ?_
      refine XL.rd rfl rfl (lb rfl) (RO.move rfl) ?_
      refine bindK h1 (fun x10 hx10 h1 => ?_)
      refine XL.put rfl rfl (lb rfl) (OpOK.callG (hp1' := [(1, .cells 83 [dS8 a0, dI x10.2.2.1, dB x10.2.2.2.1, dI x10.2.2.2.2]), (3, .cells 24 [dI x10.1, dS x10.2.1])]) (tk1' := []) (hpF := [(0, .cells 24 [dI 0, dN]), (2, .cells 24 [dI 0, dN])]) (tkF := []) (res2 := resOf [.agg [dI x10.1, dS x10.2.1]]) (nx2 := 7) [1] rfl rfl (m59f10_ok a0 x9.2 (!x9.1) 0 x10 hx10) rfl rfl (qB rfl rfl (qB rfl rfl qZ)) rfl rfl (gR rfl gZ) jZ (hR rfl (hR rfl hZ)) kZ rfl rfl rfl rfl rfl (bB rfl rfl bZ) rfl rfl rfl rfl) ?_
      refine XL.eff rfl rfl (OpOK.store ag_24 rfl rfl rfl rfl (lb rfl) rfl) ?_
      refine XL.nil ?_
      refine XQ.seq ?_
      refine XC.seq ?_
      refine XC.block ?_
      refine XC.joinX 0 (fun (o11 : Int × Bool × Int × Int × (List LV)) => ⟨[(0, .v (.one (dS8 a0))), (2, .v (.one (.ptr 0 0))), (4, .v (.one (.ptr 1 0))), (5, .v (.one (.ptr 2 0)))], [(0, .cells 24 [dI 0, dN]), (1, .cells 83 [dS8 a0, dI o11.1, dB o11.2.1, dI o11.2.2.1]), (2, .cells 24 [dI o11.2.2.2.1, dS o11.2.2.2.2]), (3, .cells 24 [dI x10.1, dS x10.2.1])], [], 7, 109, []⟩) (fun (o11 : Int × Bool × Int × Int × (List LV)) => (Option.bind (cond o11.2.1
          (some (o11.1, true))
          (Option.bind (m58f9 41 a0 o11.1 o11.2.1 o11.2.2.1) fun (x14 : Bool × Int) =>
        some (x14.2, (!x14.1)))) (fun (v12 : Int × Bool) => Option.bind (m57f8 a0 v12.1 v12.2 o11.2.2.1) fun (x13 : Int) =>
        some (o11.2.2.2.1, o11.2.2.2.2, x10.1, x10.2.1, x13, v12.2, o11.2.2.1))) = some w1_) ?_ ?_
      ·
       refine bindK h1 (fun o12 hl2 h1 => ?_)
       refine XC.loopM (m27_l0 a0) (fun s2 => ⟨[(0, .v (.one (dS8 a0))), (2, .v (.one (.ptr 0 0))), (4, .v (.one (.ptr 1 0))), (5, .v (.one (.ptr 2 0)))], [(0, .cells 24 [dI 0, dN]), (1, .cells 83 [dS8 a0, dI s2.1, dB s2.2.1, dI s2.2.2.1]), (2, .cells 24 [dI s2.2.2.2.1, dS s2.2.2.2.2]), (3, .cells 24 [dI x10.1, dS x10.2.1])], [], 7, 109, []⟩) (x10.2.2.1, x10.2.2.2.1, x10.2.2.2.2, x10.1, x10.2.1) o12 (stle (tR rfl (tR rfl (tR rfl (tR rfl tZ)))) (hR rfl (hR rfl (hR rfl (hR rfl hZ)))) kZ rfl (Nat.zero_le _) rfl rfl rfl (bB rfl rfl (bB rfl rfl (bB rfl rfl (bB rfl rfl bZ)))) rfl rfl) hl2 (fun s2 n2 oo2 h2 ho2 => ?_)
       unfold m27_l0 at h2
       refine XC.seq ?_
       refine XC.seq ?_
       refine XC.joinR (fun (v13 : Bool × Int) => ⟨[(0, .v (.one (dS8 a0))), (2, .v (.one (.ptr 0 0))), (4, .v (.one (.ptr 1 0))), (5, .v (.one (.ptr 2 0))), (63, .v (.one (dB v13.1)))], [(0, .cells 24 [dI 0, dN]), (1, .cells 83 [dS8 a0, dI v13.2, dB s2.2.1, dI s2.2.2.1]), (2, .cells 24 [dI s2.2.2.2.1, dS s2.2.2.2.2]), (3, .cells 24 [dI x10.1, dS x10.2.1])], [], 7, 109, []⟩) (fun (v13 : Bool × Int) => (cond v13.1
           (Option.bind (m59f10 a0 v13.2 s2.2.1 s2.2.2.1) fun (x15 : Int × (List LV) × Int × Bool × Int) =>
         guardO ((cond (Nat.ble (⟨s2.2.2.2.1, s2.2.2.2.2⟩ : Lvl).vs.length 100000) (Nat.ble (⟨x15.1, x15.2.1⟩ : Lvl).vs.length 100000) false))
         (some (.next (x15.2.2.1, x15.2.2.2.1, x15.2.2.2.2, (joinL (⟨s2.2.2.2.1, s2.2.2.2.2⟩ : Lvl) (⟨x15.1, x15.2.1⟩ : Lvl)).c, (joinL (⟨s2.2.2.2.1, s2.2.2.2.2⟩ : Lvl) (⟨x15.1, x15.2.1⟩ : Lvl)).vs))))
           (some (.done (v13.2, s2.2.1, s2.2.2.1, s2.2.2.2.1, s2.2.2.2.2)))) = some oo2) ?_ ?_
       ·
        refine bindK h2 (fun w3_ h3 h2 => ?_)
        refine XC.region ?_
        refine XL.rd rfl rfl (lb rfl) (RO.move rfl) ?_
        refine XL.rd rfl rfl (lb rfl) (RO.nilCheckPtr rfl) ?_
        refine XL.rd rfl rfl (lb rfl) (RO.fieldOwn fo_83_2 rfl) ?_
        refine XL.rd rfl rfl (lb rfl) (RO.loadOwn ag_4 rfl rfl rfl) ?_
        refine XL.rd rfl rfl (lb rfl) (RO.not rfl) ?_
        refine XL.rd rfl rfl (lb rfl) (RO.move rfl) ?_
        refine XL.case (d := 60) (c := (!s2.2.1)) rfl (fun c14 => ?_) (fun c14 => ?_)
        ·
         replace h3 := condT c14 h3
         refine XL.rd rfl rfl (lb rfl) (RO.move rfl) ?_
         refine bindK h3 (fun x15 hx15 h3 => ?_)
         refine XL.put rfl rfl (lb rfl) (OpOK.callG (hp1' := [(1, .cells 83 [dS8 a0, dI x15.2, dB s2.2.1, dI s2.2.2.1])]) (tk1' := []) (hpF := [(0, .cells 24 [dI 0, dN]), (2, .cells 24 [dI s2.2.2.2.1, dS s2.2.2.2.2]), (3, .cells 24 [dI x10.1, dS x10.2.1])]) (tkF := []) (res2 := resOf [.one (dB x15.1)]) (nx2 := 7) [1] rfl rfl (m58f9_ok 44 a0 s2.1 s2.2.1 s2.2.2.1 x15 hx15) rfl rfl (qB rfl rfl qZ) rfl rfl (gR rfl gZ) jZ (hR rfl (hR rfl (hR rfl hZ))) kZ rfl rfl rfl rfl rfl (bB rfl rfl bZ) rfl rfl rfl rfl) ?_
         refine XL.rd rfl rfl (lb rfl) (RO.pickT rfl rfl) ?_
         refine XL.nil ?_
         have e_ := Option.some.inj h3
         subst e_
         exact XQ.joinR (x15.1, x15.2) (stle (tR rfl (tR rfl (tR rfl (tR rfl (tR rfl tZ))))) (hR rfl (hR rfl (hR rfl (hR rfl hZ)))) kZ rfl (Nat.zero_le _) rfl rfl rfl (bB rfl rfl (bB rfl rfl (bB rfl rfl (bB rfl rfl bZ)))) rfl rfl) h2
        ·
         replace h3 := condF c14 h3
         refine XL.no rfl rfl ?_
         refine XL.no rfl rfl ?_
         refine XL.rd rfl rfl (lb rfl) (RO.pickF rfl rfl) ?_
         refine XL.nil ?_
         have e_ := Option.some.inj h3
         subst e_
         exact XQ.joinR (false, s2.1) (stle (tR rfl (tR rfl (tR rfl (tR rfl (tR rfl tZ))))) (hR rfl (hR rfl (hR rfl (hR rfl hZ)))) kZ rfl (Nat.zero_le _) rfl rfl rfl (bB rfl rfl (bB rfl rfl (bB rfl rfl (bB rfl rfl bZ)))) rfl rfl) h2
       ·
        intro v13 h2
        refine XQ.seq ?_
        refine XC.cond (b := v13.1) rfl (fun c16 => ?_) (fun c16 => ?_)
        ·
         replace h2 := condT c16 h2
         refine XC.skip ?_
         refine XQ.seq ?_
         refine XC.block ?_
         refine XC.anyRun [2, 4] [(0, 1)] mixed (by kernel_rfl) (by kernel_rfl) (by kernel_rfl) ?_
         refine RunA.rd rfl rfl rfl (OpOK.of_ro (RO.loadOwnAgg ag_24 rfl rfl rfl rfl)) rfl ?_
         refine RunA.rd rfl rfl rfl (OpOK.of_ro (RO.move rfl)) rfl ?_
         refine bindK h2 (fun x17 hx17 h2 => ?_)
         refine RunA.eff rfl rfl rfl (OpOK.callG (hp1' := [(1, .cells 83 [dS8 a0, dI x17.2.2.1, dB x17.2.2.2.1, dI x17.2.2.2.2]), (7, .cells 24 [dI x17.1, dS x17.2.1])]) (tk1' := []) (hpF := [(0, .cells 24 [dI 0, dN]), (2, .cells 24 [dI s2.2.2.2.1, dS s2.2.2.2.2]), (3, .cells 24 [dI x10.1, dS x10.2.1])]) (tkF := []) (res2 := resOf [.agg [dI x17.1, dS x17.2.1]]) (nx2 := 11) [1] rfl rfl (m59f10_ok a0 v13.2 s2.2.1 s2.2.2.1 x17 hx17) rfl rfl (qB rfl rfl (qB rfl rfl qZ)) rfl rfl (gR rfl gZ) jZ (hR rfl (hR rfl (hR rfl hZ))) kZ rfl rfl rfl rfl rfl (bB rfl rfl bZ) rfl rfl rfl rfl) rfl ?_
         refine guardK h2 (fun g18 h2 => ?_)
         refine RunA.rd rfl rfl rfl (OpOK.callFun (join_fun (⟨s2.2.2.2.1, s2.2.2.2.2⟩ : Lvl) (⟨x17.1, x17.2.1⟩ : Lvl) (Nat.le_of_ble_eq_true (cond_left g18)) (Nat.le_of_ble_eq_true (cond_right g18))) rfl (.cons (.agg (.cons (.d _) (.cons (.d _) .nil))) (.cons (.agg (.cons (.d _) (.cons (.d _) .nil))) .nil))) rfl ?_
         refine RunA.eff rfl rfl rfl (OpOK.store ag_24 rfl rfl rfl rfl (lb rfl) rfl) rfl ?_
         refine RunA.nil ⟨?ex, _, _, rfl, ?_⟩
         case ex => exact ⟨⟨_, rfl, _, _, rfl, rfl, rfl, .inl ⟨rfl, _, OpOK.of_ro (RO.loadOwnAgg ag_24 rfl rfl rfl rfl), rfl⟩⟩, trivial⟩
         refine XQ.less (st' := ⟨[(0, .v (.one (dS8 a0))), (2, .v (.one (.ptr 0 0))), (4, .v (.one (.ptr 1 0))), (5, .v (.one (.ptr 2 0)))], [(0, .cells 24 [dI 0, dN]), (1, .cells 83 [dS8 a0, dI x17.2.2.1, dB x17.2.2.2.1, dI x17.2.2.2.2]), (2, .cells 24 [dI ((joinL (⟨s2.2.2.2.1, s2.2.2.2.2⟩ : Lvl) (⟨x17.1, x17.2.1⟩ : Lvl)).c), dS ((joinL (⟨s2.2.2.2.1, s2.2.2.2.2⟩ : Lvl) (⟨x17.1, x17.2.1⟩ : Lvl)).vs : List LV)]), (3, .cells 24 [dI x10.1, dS x10.2.1]), (7, .cells 24 [dI x17.1, dS x17.2.1])], [], 11, 109, []⟩) (stle (tR rfl (tR rfl (tR rfl (tR rfl tZ)))) (hR rfl (hR rfl (hR rfl (hR rfl (hR rfl hZ))))) kZ rfl (Nat.zero_le _) rfl rfl rfl (bB rfl rfl (bB rfl rfl (bB rfl rfl (bB rfl rfl (bB rfl rfl bZ))))) rfl rfl) ?_
         refine XQ.inBlock ?_
         have e_ := Option.some.inj h2
         subst e_
         refine XQ.nextM (x17.2.2.1, x17.2.2.2.1, x17.2.2.2.2, (joinL (⟨s2.2.2.2.1, s2.2.2.2.2⟩ : Lvl) (⟨x17.1, x17.2.1⟩ : Lvl)).c, (joinL (⟨s2.2.2.2.1, s2.2.2.2.2⟩ : Lvl) (⟨x17.1, x17.2.1⟩ : Lvl)).vs) (stle (tR rfl (tR rfl (tR rfl (tR rfl tZ)))) (hR rfl (hR rfl (hR rfl (hR rfl hZ)))) kZ rfl (Nat.zero_le _) rfl rfl rfl (bB rfl rfl (bB rfl rfl (bB rfl rfl (bB rfl rfl bZ)))) rfl rfl) ho2
        ·
         replace h2 := condF c16 h2
         refine XC.exit ?_
         refine XQ.thenE ?_
         refine XQ.thenE ?_
         have e_ := Option.some.inj h2
         subst e_
         have e_ : _ = _ := ho2
         subst e_
         exact XQ.joinX (v13.2, s2.2.1, s2.2.2.1, s2.2.2.2.1, s2.2.2.2.2) (stle (tR rfl (tR rfl (tR rfl (tR rfl tZ)))) (hR rfl (hR rfl (hR rfl (hR rfl hZ)))) kZ rfl (Nat.zero_le _) rfl rfl rfl (bB rfl rfl (bB rfl rfl (bB rfl rfl (bB rfl rfl bZ)))) rfl rfl) h1
      ·
       intro o11 h1
       refine XQ.blockX ?_
       refine XQ.seq ?_
       refine XC.seq ?_
       refine XC.joinR (fun (v19 : Int × Bool) => ⟨[(0, .v (.one (dS8 a0))), (2, .v (.one (.ptr 0 0))), (4, .v (.one (.ptr 1 0))), (5, .v (.one (.ptr 2 0)))], [(0, .cells 24 [dI 0, dN]), (1, .cells 83 [dS8 a0, dI v19.1, dB v19.2, dI o11.2.2.1]), (2, .cells 24 [dI o11.2.2.2.1, dS o11.2.2.2.2]), (3, .cells 24 [dI x10.1, dS x10.2.1])], [], 7, 109, []⟩) (fun (v19 : Int × Bool) => (Option.bind (m57f8 a0 v19.1 v19.2 o11.2.2.1) fun (x20 : Int) =>
         some (o11.2.2.2.1, o11.2.2.2.2, x10.1, x10.2.1, x20, v19.2, o11.2.2.1)) = some w1_) ?_ ?_
       ·
        refine bindK h1 (fun w2_ h2 h1 => ?_)
        refine XC.region ?_
        refine XL.rd rfl rfl (lb rfl) (RO.move rfl) ?_
        refine XL.rd rfl rfl (lb rfl) (RO.move rfl) ?_
        refine XL.rd rfl rfl (lb rfl) (RO.nilCheckPtr rfl) ?_
        refine XL.rd rfl rfl (lb rfl) (RO.fieldOwn fo_83_2 rfl) ?_
        refine XL.rd rfl rfl (lb rfl) (RO.loadOwn ag_4 rfl rfl rfl) ?_
        refine XL.rd rfl rfl (lb rfl) (RO.move rfl) ?_
        refine XL.case (d := 73) (c := o11.2.1) rfl (fun c20 => ?_) (fun c20 => ?_)
        ·
         replace h2 := condT c20 h2
         refine XL.no rfl rfl ?_
         refine XL.no rfl rfl ?_
         refine XL.no rfl rfl ?_
         refine XL.rd rfl rfl (lb rfl) (RO.pickT rfl rfl) ?_
         refine XL.rd rfl rfl (lb rfl) (RO.nilCheckPtr rfl) ?_
         refine XL.rd rfl rfl (lb rfl) (RO.fieldOwn fo_83_2 rfl) ?_
         refine XL.eff rfl rfl (OpOK.store ag_4 rfl rfl rfl rfl (lb rfl) rfl) ?_
         refine XL.nil ?_
         have e_ := Option.some.inj h2
         subst e_
         exact XQ.joinR (o11.1, true) (stle (tR rfl (tR rfl (tR rfl (tR rfl tZ)))) (hR rfl (hR rfl (hR rfl (hR rfl hZ)))) kZ rfl (Nat.zero_le _) rfl rfl rfl (bB rfl rfl (bB rfl rfl (bB rfl rfl (bB rfl rfl bZ)))) rfl rfl) h1
        ·
         replace h2 := condF c20 h2
         refine XL.rd rfl rfl (lb rfl) (RO.move rfl) ?_
         refine bindK h2 (fun x21 hx21 h2 => ?_)
         refine XL.put rfl rfl (lb rfl) (OpOK.callG (hp1' := [(1, .cells 83 [dS8 a0, dI x21.2, dB o11.2.1, dI o11.2.2.1])]) (tk1' := []) (hpF := [(0, .cells 24 [dI 0, dN]), (2, .cells 24 [dI o11.2.2.2.1, dS o11.2.2.2.2]), (3, .cells 24 [dI x10.1, dS x10.2.1])]) (tkF := []) (res2 := resOf [.one (dB x21.1)]) (nx2 := 7) [1] rfl rfl (m58f9_ok 41 a0 o11.1 o11.2.1 o11.2.2.1 x21 hx21) rfl rfl (qB rfl rfl qZ) rfl rfl (gR rfl gZ) jZ (hR rfl (hR rfl (hR rfl hZ))) kZ rfl rfl rfl rfl rfl (bB rfl rfl bZ) rfl rfl rfl rfl) ?_
         refine XL.rd rfl rfl (lb rfl) (RO.not rfl) ?_
         refine XL.rd rfl rfl (lb rfl) (RO.pickF rfl rfl) ?_
         refine XL.rd rfl rfl (lb rfl) (RO.nilCheckPtr rfl) ?_
         refine XL.rd rfl rfl (lb rfl) (RO.fieldOwn fo_83_2 rfl) ?_
         refine XL.eff rfl rfl (OpOK.store ag_4 rfl rfl rfl rfl (lb rfl) rfl) ?_
         refine XL.nil ?_
         have e_ := Option.some.inj h2
         subst e_
         exact XQ.joinR (x21.2, (!x21.1)) (stle (tR rfl (tR rfl (tR rfl (tR rfl tZ)))) (hR rfl (hR rfl (hR rfl (hR rfl hZ)))) kZ rfl (Nat.zero_le _) rfl rfl rfl (bB rfl rfl (bB rfl rfl (bB rfl rfl (bB rfl rfl bZ)))) rfl rfl) h1
       ·
        intro v19 h1
        refine XQ.seq ?_
        refine XC.region ?_
        refine XL.rd rfl rfl (lb rfl) (RO.move rfl) ?_
        refine bindK h1 (fun x22 hx22 h1 => ?_)
        refine XL.put rfl rfl (lb rfl) (OpOK.callG (hp1' := [(1, .cells 83 [dS8 a0, dI x22, dB v19.2, dI o11.2.2.1])]) (tk1' := []) (hpF := [(0, .cells 24 [dI 0, dN]), (2, .cells 24 [dI o11.2.2.2.1, dS o11.2.2.2.2]), (3, .cells 24 [dI x10.1, dS x10.2.1])]) (tkF := []) (res2 := resOf []) (nx2 := 7) [1] rfl rfl (m57f8_ok a0 v19.1 v19.2 o11.2.2.1 x22 hx22) rfl rfl (qB rfl rfl qZ) rfl rfl (gR rfl gZ) jZ (hR rfl (hR rfl (hR rfl hZ))) kZ rfl rfl rfl rfl rfl (bB rfl rfl bZ) rfl rfl rfl rfl) ?_
        refine XL.nil ?_
        have e_ := Option.some.inj h1
        subst e_
        exact XQ.joinR (o11.2.2.2.1, o11.2.2.2.2, x10.1, x10.2.1, x22, v19.2, o11.2.2.1) (stle (tR rfl (tR rfl (tR rfl (tR rfl tZ)))) (hR rfl (hR rfl (hR rfl (hR rfl hZ)))) kZ rfl (Nat.zero_le _) rfl rfl rfl (bB rfl rfl (bB rfl rfl (bB rfl rfl (bB rfl rfl bZ)))) rfl rfl) h0
     ·
      replace h1 := condF c7 h1
      refine XC.region ?_
      refine XL.rd rfl rfl (lb rfl) (RO.move rfl) ?_
      refine bindK h1 (fun x23 hx23 h1 => ?_)
      refine XL.put rfl rfl (lb rfl) (OpOK.callG (hp1' := [(1, .cells 83 [dS8 a0, dI x23.2.2.1, dB x23.2.2.2.1, dI x23.2.2.2.2]), (3, .cells 24 [dI x23.1, dS x23.2.1])]) (tk1' := []) (hpF := [(0, .cells 24 [dI 0, dN]), (2, .cells 24 [dI 0, dN])]) (tkF := []) (res2 := resOf [.agg [dI x23.1, dS x23.2.1]]) (nx2 := 7) [1] rfl rfl (m59f10_ok a0 x2 false 0 x23 hx23) rfl rfl (qB rfl rfl (qB rfl rfl qZ)) rfl rfl (gR rfl gZ) jZ (hR rfl (hR rfl hZ)) kZ rfl rfl rfl rfl rfl (bB rfl rfl bZ) rfl rfl rfl rfl) ?_
      refine XL.eff rfl rfl (OpOK.store ag_24 rfl rfl rfl rfl (lb rfl) rfl) ?_
      refine XL.nil ?_
      have e_ := Option.some.inj h1
      subst e_
      exact XQ.joinR (x23.1, x23.2.1, x23.1, x23.2.1, x23.2.2.1, x23.2.2.2.1, x23.2.2.2.2) (stle (tR rfl (tR rfl (tR rfl (tR rfl tZ)))) (hR rfl (hR rfl (hR rfl (hR rfl hZ)))) kZ rfl (Nat.zero_le _) rfl rfl rfl (bB rfl rfl (bB rfl rfl (bB rfl rfl (bB rfl rfl bZ)))) rfl rfl) h0
    ·
     intro v6 h0
     refine XQ.seq ?_
     refine XC.seq ?_
     refine XC.seq ?_
     refine XC.joinR (fun (v24 : Bool) => ⟨[(2, .v (.one (.ptr 0 0))), (4, .v (.one (.ptr 1 0))), (5, .v (.one (.ptr 2 0))), (96, .v (.one (dB v24)))], [(0, .cells 24 [dI 0, dN]), (1, .cells 83 [dS8 a0, dI v6.2.2.2.2.1, dB v6.2.2.2.2.2.1, dI v6.2.2.2.2.2.2]), (2, .cells 24 [dI v6.1, dS v6.2.1]), (3, .cells 24 [dI v6.2.2.1, dS v6.2.2.2.1])], [], 7, 109, []⟩) (fun (v24 : Bool) => (cond v24
         (some ((⟨0, ([] : List LV)⟩ : Lvl), 4))
         (cond (v6.2.2.2.2.2.2 != 0)
         (some ((⟨0, ([] : List LV)⟩ : Lvl), v6.2.2.2.2.2.2))
         (some ((⟨v6.1, v6.2.1⟩ : Lvl), 0)))) = some r) ?_ ?_
     ·
      refine bindK h0 (fun w1_ h1 h0 => ?_)
      refine XC.region ?_
      refine XL.rd rfl rfl (lb rfl) (RO.move rfl) ?_
      refine XL.rd rfl rfl (lb rfl) (RO.nilCheckPtr rfl) ?_
      refine XL.rd rfl rfl (lb rfl) (RO.fieldOwn fo_83_2 rfl) ?_
      refine XL.rd rfl rfl (lb rfl) (RO.loadOwn ag_4 rfl rfl rfl) ?_
      refine XL.rd rfl rfl (lb rfl) (RO.move rfl) ?_
      refine XL.case (d := 88) (c := v6.2.2.2.2.2.1) rfl (fun c25 => ?_) (fun c25 => ?_)
      ·
       replace h1 := condT c25 h1
       refine XL.no rfl rfl ?_
       refine XL.no rfl rfl ?_
       refine XL.no rfl rfl ?_
       refine XL.no rfl rfl ?_
       refine XL.no rfl rfl ?_
       refine XL.no rfl rfl ?_
       refine XL.no rfl rfl ?_
       refine XL.rd rfl rfl (lb rfl) (RO.pickT rfl rfl) ?_
       refine XL.nil ?_
       have e_ := Option.some.inj h1
       subst e_
       exact XQ.joinR true (stle (tR rfl (tR rfl (tR rfl (tR rfl tZ)))) (hR rfl (hR rfl (hR rfl (hR rfl hZ)))) kZ rfl (Nat.zero_le _) rfl rfl rfl (bB rfl rfl (bB rfl rfl (bB rfl rfl (bB rfl rfl bZ)))) rfl rfl) h0
      ·
       replace h1 := condF c25 h1
       refine XL.rd rfl rfl (lb rfl) (RO.move rfl) ?_
       refine XL.rd rfl rfl (lb rfl) (RO.nilCheckPtr rfl) ?_
       refine XL.rd rfl rfl (lb rfl) (RO.fieldOwn fo_83_1 rfl) ?_
       refine XL.rd rfl rfl (lb rfl) (RO.loadOwn ag_3 rfl rfl rfl) ?_
       refine XL.rd rfl rfl (lb rfl) (RO.move rfl) ?_
       refine XL.rd rfl rfl (lb rfl) (RO.lenS st_9 rfl) ?_
       refine XL.rd rfl rfl (lb rfl) (RO.binInt rfl rfl rfl) ?_
       refine XL.rd rfl rfl (lb rfl) (RO.pickF rfl rfl) ?_
       refine XL.nil ?_
       have e_ := Option.some.inj h1
       subst e_
       exact XQ.joinR (decide (v6.2.2.2.2.1 < (a0.length : Int))) (stle (tR rfl (tR rfl (tR rfl (tR rfl tZ)))) (hR rfl (hR rfl (hR rfl (hR rfl hZ)))) kZ rfl (Nat.zero_le _) rfl rfl rfl (bB rfl rfl (bB rfl rfl (bB rfl rfl (bB rfl rfl bZ)))) rfl rfl) h0
     ·
      intro v24 h0
      refine XQ.seq ?_
      refine XC.cond (b := v24) rfl (fun c26 => ?_) (fun c26 => ?_)
      ·
       replace h0 := condT c26 h0
       refine XC.seq ?_
       refine XC.region ?_
       refine XL.rd rfl rfl (lb rfl) (RO.build0 bd_24 rfl ) ?_
       refine XL.eff rfl rfl (OpOK.store ag_24 rfl rfl rfl rfl (lb rfl) rfl) ?_
       refine XL.rd rfl rfl (lb rfl) (RO.assign rfl) ?_
       refine XL.nil ?_
       refine XQ.seq ?_
       refine XC.ret ?_
       have e_ := Option.some.inj h0
       subst e_
       exact XQ.retF (fun _ _ h => h) rfl (RAs.agg ag_24 rfl rfl rfl rfl (RAs.tmp rfl .nil)) (.cons (.agg (.cons (.d _) (.cons (.nil _) .nil))) (.cons (.one (.d _)) .nil))
      ·
       replace h0 := condF c26 h0
       refine XC.skip ?_
       refine XQ.seq ?_
       refine XC.seq ?_
       refine XC.seq ?_
       refine XC.region ?_
       refine XL.rd rfl rfl (lb rfl) (RO.move rfl) ?_
       refine XL.rd rfl rfl (lb rfl) (RO.nilCheckPtr rfl) ?_
       refine XL.rd rfl rfl (lb rfl) (RO.fieldOwn fo_83_3 rfl) ?_
       refine XL.rd rfl rfl (lb rfl) (RO.loadOwn ag_3 rfl rfl rfl) ?_
       refine XL.rd rfl rfl (lb rfl) (RO.binInt rfl rfl rfl) ?_
       refine XL.nil ?_
       refine XQ.seq ?_
       refine XC.cond (b := (v6.2.2.2.2.2.2 != 0)) rfl (fun c27 => ?_) (fun c27 => ?_)
       ·
        replace h0 := condT c27 h0
        refine XC.seq ?_
        refine XC.anyRun [5] [(1, 1), (2, 1), (3, 1), (4, 1)] mixed (by kernel_rfl) (by kernel_rfl) (by kernel_rfl) ?_
        refine RunA.rd rfl rfl rfl (OpOK.of_ro (RO.build0 bd_24 rfl )) rfl ?_
        refine RunA.rd rfl rfl rfl (OpOK.of_ro (RO.move rfl)) rfl ?_
        refine RunA.rd rfl rfl rfl (OpOK.of_ro (RO.nilCheckPtr rfl)) rfl ?_
        refine RunA.rd rfl rfl rfl (OpOK.of_ro (RO.fieldOwn fo_83_3 rfl)) rfl ?_
        refine RunA.rd rfl rfl rfl (OpOK.of_ro (RO.loadOwn ag_3 rfl rfl rfl)) rfl ?_
        refine RunA.eff rfl rfl rfl (OpOK.store ag_24 rfl rfl rfl rfl (lb rfl) rfl) rfl ?_
        refine RunA.rd rfl rfl rfl (OpOK.of_ro (RO.assign rfl)) rfl ?_
        refine RunA.nil ⟨?ex, _, _, rfl, ?_⟩
        case ex => exact ⟨⟨_, rfl, _, _, rfl, rfl, rfl, .inl ⟨rfl, _, OpOK.of_ro (RO.move rfl), rfl⟩⟩, ⟨_, rfl, _, _, rfl, rfl, rfl, .inl ⟨rfl, _, OpOK.of_ro (RO.nilCheckPtr rfl), rfl⟩⟩, ⟨_, rfl, _, _, rfl, rfl, rfl, .inl ⟨rfl, _, OpOK.of_ro (RO.fieldOwn fo_83_3 rfl), rfl⟩⟩, ⟨_, rfl, _, _, rfl, rfl, rfl, .inl ⟨rfl, _, OpOK.of_ro (RO.loadOwn ag_3 rfl rfl rfl), rfl⟩⟩, trivial⟩
        refine XQ.less (st' := ⟨[(2, .v (.one (.ptr 0 0))), (3, .v (.one (dI v6.2.2.2.2.2.2)))], [(0, .cells 24 [dI 0, dN]), (1, .cells 83 [dS8 a0, dI v6.2.2.2.2.1, dB v6.2.2.2.2.2.1, dI v6.2.2.2.2.2.2]), (2, .cells 24 [dI v6.1, dS v6.2.1]), (3, .cells 24 [dI v6.2.2.1, dS v6.2.2.2.1])], [], 7, 109, []⟩) (stle (tR rfl (tR rfl tZ)) (hR rfl (hR rfl (hR rfl (hR rfl hZ)))) kZ rfl (Nat.zero_le _) rfl rfl rfl (bB rfl rfl (bB rfl rfl (bB rfl rfl (bB rfl rfl bZ)))) rfl rfl) ?_
        refine XQ.seq ?_
        refine XC.ret ?_
        have e_ := Option.some.inj h0
        subst e_
        exact XQ.retF (fun _ _ h => h) rfl (RAs.agg ag_24 rfl rfl rfl rfl (RAs.tmp rfl .nil)) (.cons (.agg (.cons (.d _) (.cons (.nil _) .nil))) (.cons (.one (.d _)) .nil))
       ·
        replace h0 := condF c27 h0
        refine XC.skip ?_
        refine XQ.seq ?_
        refine XC.seq ?_
        refine XC.region ?_
        refine XL.rd rfl rfl (lb rfl) (RO.loadOwnAgg ag_24 rfl rfl rfl rfl) ?_
        refine XL.eff rfl rfl (OpOK.store ag_24 rfl rfl rfl rfl (lb rfl) rfl) ?_
        refine XL.rd rfl rfl (lb rfl) (RO.assign rfl) ?_
        refine XL.nil ?_
        refine XQ.seq ?_
        refine XC.ret ?_
        have e_ := Option.some.inj h0
        subst e_
        exact XQ.retF (fun _ _ h => h) rfl (RAs.agg ag_24 rfl rfl rfl rfl (RAs.tmp rfl .nil)) (.cons (.agg (.cons (.d _) (.cons (.d _) .nil))) (.cons (.one (.d _)) .nil))
end Go.Proofs.YtcapifnaceegmaaGreatDoor
